/- The walk of Next: the logical line that begins at a line; condition: lists and texts that lie in memory. -/
import Derived.Test.YtndoloohdloflabDoorNextP
namespace Go.Proofs.YtndoloohdloflabDoor
open Go.RowKit

set_option maxHeartbeats 2000000 in
set_option maxRecDepth 100000 in
theorem Next_f (w : World) (A : Option Addr) (ca : Nat) (xs : List ByteArray) (p : Nat) (s : ByteArray) (r : List ByteArray) (ha : StrsAt w A xs) (hd : xs.drop p = s :: r) (hh : hp s = false) (hsz : total xs ≤ 1000000000) :
    Calls Tryd.prog 7 #[.slice A xs.length ca, .int .i64 p] w fun e w' => e = .returned (.tuple #[.agg #[.int .i64 (finish false p (goOn false s r s (p + 1))).kind, .int .i64 (finish false p (goOn false s r s (p + 1))).no, .string (finish false p (goOn false s r s (p + 1))).text], .int .i64 (finish false p (goOn false s r s (p + 1))).next]) ∧ Below w.heap.size w w' := by
  obtain ⟨G, hG⟩ : ∃ G, goOn false s r s (p + 1) = G := ⟨_, rfl⟩
  rw [hG]
  obtain ⟨fi, hfi⟩ : ∃ fi, finish false p G = fi := ⟨_, rfl⟩
  rw [hfi]
  have HFI := Lib.hid hfi
  clear hfi
  obtain ⟨N, hN⟩ : ∃ N, xs.length = N := ⟨_, rfl⟩
  have hpN : p < N := by
    rw [← hN]
    rcases Nat.lt_or_ge p xs.length with h | h
    · exact h
    · rw [List.drop_eq_nil_of_le h] at hd; cases hd
  have hs1 : xs[p]? = some s := by rw [← List.head?_drop, hd]; rfl
  obtain ⟨b, o, rfl, hc⟩ := ha p s hs1
  have hb := World.block_lt_of_cell? _ _ hc
  rw [hN]
  have HG := Lib.hid hG
  have HN := Lib.hid hN
  have HBD : Hid (N ≤ 1000000000) := by unfold Hid; rw [← hN]; have := total_len xs; omega
  have HSZ : Hid (∀ i x, xs[i]? = some x → x.size + 2 + total (xs.drop (i + 1)) ≤ total (xs.drop i) ∧ total (xs.drop i) ≤ total xs) := fun i x hx => total_at xs i x hx
  clear hG hN hs1
  have hHP : Hid (∀ w, Calls Tryd.prog 14 #[.string s, .string ⟨#[9]⟩] w fun e w' => e = .returned (.tuple #[.string (tp s), .bool false]) ∧ w' = w) := fun w => by
    have := Tryd.strings_CutPrefix s ⟨#[9]⟩ w
    rw [show Lib.hasPrefix s.data.toList (⟨#[9]⟩ : ByteArray).data.toList = false from hh] at this
    exact this
  have q1 : (0 : Int) ≤ p := by omega
  have q2 : ¬ ((N : Int) ≤ p) := by omega
  have q3 : (p : Int) < N := by omega
  have hpb : p + 1 ≤ 1000000000 := Nat.le_trans hpN HBD.out
  clear hh
  go_enter Tryd.func7, Tryd.ntmps7
  go_wp2_with fail
  refine (hHP.out _).mono ?_
  rintro e w1 ⟨rfl, rfl⟩
  have hL4 : LnAt ((w.alloc (.cells #[.int .i64 0, .int .i64 0, .string ⟨#[]⟩] 25)).alloc (.cells #[.int .i64 2, .int .i64 ((p : Int) + 1), .string s] 25)) w.heap.size 0 0 ⟨#[]⟩ := (Below.heap_alloc _ _ _ (by simp)).trans (World.alloc_heap_new _ _)
  have hL6 : LnAt ((w.alloc (.cells #[.int .i64 0, .int .i64 0, .string ⟨#[]⟩] 25)).alloc (.cells #[.int .i64 2, .int .i64 ((p : Int) + 1), .string s] 25)) (w.heap.size + 1) 2 ((p : Int) + 1) s := by
    have := World.alloc_heap_new (w.alloc (.cells #[.int .i64 0, .int .i64 0, .string ⟨#[]⟩] 25)) (.cells #[.int .i64 2, .int .i64 ((p : Int) + 1), .string s] 25)
    simpa [LnAt] using this
  go_wp2_with fail
  go_loopw [9] (fun nx wi => ∃ (k : Nat) (prev text : ByteArray), nx = .int .i64 ((k : Int) + 1) ∧ k + 1 ≤ N ∧ p ≤ k ∧ xs[k]? = some prev ∧ LnAt wi w.heap.size 0 0 ⟨#[]⟩ ∧ LnAt wi (w.heap.size + 1) 2 ((p : Int) + 1) text ∧ Below w.heap.size w wi ∧ Hid (goOn false prev (xs.drop (k + 1)) text (k + 1) = G) ∧ text.size + total (xs.drop (k + 1)) ≤ total xs ∧ (sl prev.data.toList % 2 = 1 → 0 < text.size)) (fun nx _ => N - (intOf nx).toNat)
  case atStart => 
    have e := HSZ.out p s (by rw [← List.head?_drop, hd]; rfl)
    refine ⟨p, s, s, rfl, by omega, Nat.le_refl _, by rw [← List.head?_drop, hd]; rfl, hL4, hL6, ((Below.refl _ w).alloc (Nat.le_refl _) _).alloc (by simp) _, ?_, by omega, fun h => ?_⟩
    · unfold Hid; rw [show xs.drop (p + 1) = r by rw [← List.drop_drop, hd]; rfl]; exact HG.out
    · rcases Nat.eq_zero_or_pos s.size with e | e
      · have := sl_le s.data.toList; simp at this; omega
      · exact e
  case round =>
    obtain ⟨k, prev, text, rfl, hk, hpk, hprev, h4, h6, hbel, hrel, htot, hpos⟩ := hrel
    obtain ⟨b', o', hAA, hcp⟩ := ha k prev hprev
    cases hAA
    have hbs := hbel.size
    have hcp' : wr.cell? ⟨b, o + k, none⟩ = some (.string prev) := by rw [hbel.cell (p := ⟨b, o + k, none⟩) hb]; exact hcp
    have e1 := HSZ.out k prev hprev
    have HS := Lib.hid (slashes_any prev wr (by omega))
    obtain ⟨n, hn⟩ : ∃ n, sl prev.data.toList = n := ⟨_, rfl⟩
    have hnp : n ≤ prev.size := by rw [← hn]; have := sl_le prev.data.toList; simpa using this
    have hkb : k + 1 ≤ 1000000000 := Nat.le_trans hk HBD.out
    have r2 : (k : Int) < N := by omega
    have c0 := h6.c0
    have c1 := h6.c1
    have c2 := h6.c2
    rw [hn] at HS hpos
    by_cases hgo : n % 2 = 1 ∧ k + 1 < N
    · have qa : bits BinOp.and IntKind.i64 ((n : Nat) : Int) 1 = 1 := by rw [Go.Proofs.and_one n (by omega), hgo.1]; rfl
      have hlt := hgo.2
      have hpos := hpos hgo.1
      obtain ⟨m, hm⟩ : ∃ m, xs[k + 1]? = some m := ⟨_, List.getElem?_eq_getElem (by have := HN.out; omega)⟩
      obtain ⟨b', o', hAA, hcm⟩ := ha (k + 1) m hm
      cases hAA
      have hcm' : wr.cell? ⟨b, o + (k + 1), none⟩ = some (.string m) := by rw [hbel.cell (p := ⟨b, o + (k + 1), none⟩) hb]; exact hcm
      have e2 := HSZ.out (k + 1) m hm
      have HREL : Hid (goOn false m (xs.drop (k + 1 + 1)) (joinT false text m) (k + 1 + 1) = G) := by
        unfold Hid
        have := hrel.out
        rw [List.drop_eq_getElem_cons (by have := HN.out; omega), goOn, hn, if_pos hgo.1] at this
        rw [List.getElem?_eq_getElem (by have := HN.out; omega)] at hm
        rw [Option.some.inj hm] at this
        exact this
      have HM := Lib.hid hm
      have hts : (text.extract 0 (text.size - 1)).size = text.size - 1 := by rw [ByteArray.size_extract]; omega
      obtain ⟨u, hu⟩ : ∃ u, mk (trR (text.extract 0 (text.size - 1)).data.toList) = u := ⟨_, rfl⟩
      obtain ⟨v, hv⟩ : ∃ v, mk (trL m.data.toList) = v := ⟨_, rfl⟩
      have HJ : Hid (joinT false text m = u ++ ⟨#[32]⟩ ++ v) := by unfold Hid; rw [← hu, ← hv]; rfl
      have HT1 := Lib.hid (TrimRight_any (text.extract 0 (text.size - 1)) wr (by omega))
      have HT2 := Lib.hid fun w' => TrimLeft_any m w' (by omega)
      have hus : u.size ≤ text.size - 1 := by rw [← hu, mk_size]; have := trR_le (text.extract 0 (text.size - 1)).data.toList; simp at this ⊢; omega
      have hvs : v.size ≤ m.size := by rw [← hv, mk_size]; have := trL_le m.data.toList; simpa using this
      rw [hu] at HT1
      rw [hv] at HT2
      clear hgo hn hu hv hrel hprev hm hcm hcp
      go_wp2_with fail
      refine HS.out.mono ?_
      rintro e w1 ⟨rfl, rfl⟩
      go_wp2_with fail
      refine HT1.out.mono ?_
      rintro e w2 ⟨rfl, hb2⟩
      go_wp2_with fail
      refine (HT2.out _).mono ?_
      rintro e w3 ⟨rfl, hb3⟩
      have hb23 := hb2.trans (hb3.mono hb2.size)
      have h43 := h4.below hb23
      have h63 := h6.below hb23
      have HB3 := hbel.trans (hb23.mono hbs)
      have d2 := h63.c2
      have f2 := h63.fz 2
      clear c0 c1 c2
      go_wp2
      refine ⟨⟨k + 1, m, u ++ ⟨#[32]⟩ ++ v, by go_num, by omega, by omega, HM.out, h43.other _ (by omega), h63.setText _, HB3.setCell (p := ⟨w.heap.size + 1, 2, none⟩) (Nat.le_succ _) _, by rw [← HJ.out]; exact HREL.out, ?_, fun _ => ?_⟩, by simp [intOf]; omega⟩
      · simp only [ByteArray.size_append]; have : (⟨#[32]⟩ : ByteArray).size = 1 := rfl; omega
      · simp only [ByteArray.size_append]; have : (⟨#[32]⟩ : ByteArray).size = 1 := rfl; omega
    · have hG : G = (text, k + 1) := by
        have := hrel.out
        rcases Nat.lt_or_ge (k + 1) N with h | h
        · rw [List.drop_eq_getElem_cons (by have := HN.out; omega), goOn, hn, if_neg (fun e => hgo ⟨e, h⟩)] at this
          exact this.symm
        · rw [List.drop_eq_nil_of_le (by have := HN.out; omega), goOn] at this
          exact this.symm
      have hbt : (bare text).size ≤ 1000000000 := Nat.le_trans (bare_size text) (by omega)
      obtain ⟨bt, hbt2⟩ : ∃ bt, bare text = bt := ⟨_, rfl⟩
      have HBA := Lib.hid (Bare_any text wr (by omega))
      rw [hbt2] at HBA hbt
      have HEM := Lib.hid fun w' => empty_any bt w' (by omega)
      have HFIN : Hid (fi = if isBl bt = true then ⟨0, (p : Int) + 1, ⟨#[]⟩, k + 1⟩ else ⟨2, (p : Int) + 1, text, k + 1⟩) := by
        unfold Hid
        rw [← HFI.out, hG]
        simp only [finish, hbt2, if_neg Bool.false_ne_true]
      have HN2 : Hid (n % 2 = 0 ∨ (n % 2 = 1 ∧ ¬ (k + 1 < N))) := by unfold Hid; omega
      clear hgo hn hrel hprev hcp hG hbt2
      rcases HN2.out with hev | ⟨hod, hge⟩
      · have qa : bits BinOp.and IntKind.i64 ((n : Nat) : Int) 1 = 0 := by rw [Go.Proofs.and_one n (by omega), hev]; rfl
        go_wp2_with fail
        refine HS.out.mono ?_
        rintro e w1 ⟨rfl, rfl⟩
        go_wp2_with fail
        refine HBA.out.mono ?_
        rintro e w2 ⟨rfl, hb2⟩
        go_wp2_with fail
        refine (HEM.out _).mono ?_
        rintro e w3 ⟨rfl, hb3⟩
        have hb23 := hb2.trans (hb3.mono hb2.size)
        have h43 := h4.below hb23
        have h63 := h6.below hb23
        have HB3 := hbel.trans (hb23.mono hbs)
        clear c0 c1 c2
        have c0 := h63.c0
        have c1 := h63.c1
        have c2 := h63.c2
        have d0 := h43.c0
        have d1 := h43.c1
        have d2 := h43.c2
        have f0 := h43.fz 0
        have f1 := h43.fz 1
        have f2 := h43.fz 2
        have g0 := h63.fz 0
        have g2 := h63.fz 2
        cases hE : (trL (trR bt.data.toList)).isEmpty
        · have HF2 : fi = ⟨2, (p : Int) + 1, text, k + 1⟩ := by rw [HFIN.out]; simp [isBl, hE]
          subst HF2
          go_wp2
          exact ret_ln (((h43.setKind 2).setNo ((p : Int) + 1)).setText text) rfl rfl rfl ⟨rfl, ((HB3.setCell (p := ⟨w.heap.size, 0, none⟩) (Nat.le_refl _) _).setCell (p := ⟨w.heap.size, 1, none⟩) (Nat.le_refl _) _).setCell (p := ⟨w.heap.size, 2, none⟩) (Nat.le_refl _) _⟩
        · have HF2 : fi = ⟨0, (p : Int) + 1, ⟨#[]⟩, k + 1⟩ := by rw [HFIN.out]; simp [isBl, hE]
          subst HF2
          go_wp2
          exact ret_ln ((((((h43.other (i := 0) (.int .i64 0) (by omega)).other (C := w.heap.size + 1) (i := 2) (.string ⟨#[]⟩) (by omega)).setKind 0).setNo ((p : Int) + 1)).setText ⟨#[]⟩)) rfl rfl rfl ⟨rfl, ((((HB3.setCell (p := ⟨w.heap.size + 1, 0, none⟩) (Nat.le_succ _) _).setCell (p := ⟨w.heap.size + 1, 2, none⟩) (Nat.le_succ _) _).setCell (p := ⟨w.heap.size, 0, none⟩) (Nat.le_refl _) _).setCell (p := ⟨w.heap.size, 1, none⟩) (Nat.le_refl _) _).setCell (p := ⟨w.heap.size, 2, none⟩) (Nat.le_refl _) _⟩
      · have qa : bits BinOp.and IntKind.i64 ((n : Nat) : Int) 1 = 1 := by rw [Go.Proofs.and_one n (by omega), hod]; rfl
        have hge2 : ¬ ((k : Int) + 1 < N) := by omega
        go_wp2_with fail
        refine HS.out.mono ?_
        rintro e w1 ⟨rfl, rfl⟩
        go_wp2_with fail
        refine HBA.out.mono ?_
        rintro e w2 ⟨rfl, hb2⟩
        go_wp2_with fail
        refine (HEM.out _).mono ?_
        rintro e w3 ⟨rfl, hb3⟩
        have hb23 := hb2.trans (hb3.mono hb2.size)
        have h43 := h4.below hb23
        have h63 := h6.below hb23
        have HB3 := hbel.trans (hb23.mono hbs)
        clear c0 c1 c2
        have c0 := h63.c0
        have c1 := h63.c1
        have c2 := h63.c2
        have d0 := h43.c0
        have d1 := h43.c1
        have d2 := h43.c2
        have f0 := h43.fz 0
        have f1 := h43.fz 1
        have f2 := h43.fz 2
        have g0 := h63.fz 0
        have g2 := h63.fz 2
        cases hE : (trL (trR bt.data.toList)).isEmpty
        · have HF2 : fi = ⟨2, (p : Int) + 1, text, k + 1⟩ := by rw [HFIN.out]; simp [isBl, hE]
          subst HF2
          go_wp2
          exact ret_ln (((h43.setKind 2).setNo ((p : Int) + 1)).setText text) rfl rfl rfl ⟨rfl, ((HB3.setCell (p := ⟨w.heap.size, 0, none⟩) (Nat.le_refl _) _).setCell (p := ⟨w.heap.size, 1, none⟩) (Nat.le_refl _) _).setCell (p := ⟨w.heap.size, 2, none⟩) (Nat.le_refl _) _⟩
        · have HF2 : fi = ⟨0, (p : Int) + 1, ⟨#[]⟩, k + 1⟩ := by rw [HFIN.out]; simp [isBl, hE]
          subst HF2
          go_wp2
          exact ret_ln ((((((h43.other (i := 0) (.int .i64 0) (by omega)).other (C := w.heap.size + 1) (i := 2) (.string ⟨#[]⟩) (by omega)).setKind 0).setNo ((p : Int) + 1)).setText ⟨#[]⟩)) rfl rfl rfl ⟨rfl, ((((HB3.setCell (p := ⟨w.heap.size + 1, 0, none⟩) (Nat.le_succ _) _).setCell (p := ⟨w.heap.size + 1, 2, none⟩) (Nat.le_succ _) _).setCell (p := ⟨w.heap.size, 0, none⟩) (Nat.le_refl _) _).setCell (p := ⟨w.heap.size, 1, none⟩) (Nat.le_refl _) _).setCell (p := ⟨w.heap.size, 2, none⟩) (Nat.le_refl _) _⟩
end Go.Proofs.YtndoloohdloflabDoor
