/- The walk of Next at a recipe's line; condition: lists and texts that lie in memory. -/
import Derived.Test.YtndoloohdloflabDoorNext
namespace Go.Proofs.YtndoloohdloflabDoor
open Go.RowKit

theorem LnAt.drew {W : World} {B : Nat} {k n : Int} {t : ByteArray} (h : LnAt W B k n t) : LnAt W.drew B k n t := h

set_option maxHeartbeats 2000000 in
set_option maxRecDepth 100000 in
theorem Next_t (w : World) (A : Option Addr) (ca : Nat) (xs : List ByteArray) (p : Nat) (s : ByteArray) (r : List ByteArray) (ha : StrsAt w A xs) (hd : xs.drop p = s :: r) (hh : hp s = true) (hsz : total xs ≤ 1000000000) :
    Calls Tryd.prog 7 #[.slice A xs.length ca, .int .i64 p] w fun e w' => e = .returned (.tuple #[.agg #[.int .i64 (finish true p (goOn true s r (tp s) (p + 1))).kind, .int .i64 (finish true p (goOn true s r (tp s) (p + 1))).no, .string (finish true p (goOn true s r (tp s) (p + 1))).text], .int .i64 (finish true p (goOn true s r (tp s) (p + 1))).next]) ∧ Below w.heap.size w w' := by
  obtain ⟨G, hG⟩ : ∃ G, goOn true s r (tp s) (p + 1) = G := ⟨_, rfl⟩
  rw [hG]
  obtain ⟨fi, hfi⟩ : ∃ fi, finish true p G = fi := ⟨_, rfl⟩
  rw [hfi]
  have HFI := Lib.hid hfi
  clear hfi
  obtain ⟨N, hN⟩ : ∃ N, xs.length = N := ⟨_, rfl⟩
  have hpN : p < N := by
    rw [← hN]
    rcases Nat.lt_or_ge p xs.length with h | h
    · exact h
    · rw [List.drop_eq_nil_of_le h] at hd; cases hd
  have hs1 : xs[p]? = some s := by rw [← List.head?_drop, hd]; rfl
  obtain ⟨b, o, rfl, hc⟩ := ha p s hs1
  have hb := World.block_lt_of_cell? _ _ hc
  rw [hN]
  have HG := Lib.hid hG
  have HN := Lib.hid hN
  have HBD : Hid (N ≤ 1000000000) := by unfold Hid; rw [← hN]; have := total_len xs; omega
  have HSZ : Hid (∀ i x, xs[i]? = some x → x.size + 2 + total (xs.drop (i + 1)) ≤ total (xs.drop i) ∧ total (xs.drop i) ≤ total xs) := fun i x hx => total_at xs i x hx
  clear hG hN hs1
  have hHP : Hid (∀ w, Calls Tryd.prog 14 #[.string s, .string ⟨#[9]⟩] w fun e w' => e = .returned (.tuple #[.string (tp s), .bool true]) ∧ w' = w) := fun w => by
    have := Tryd.strings_CutPrefix s ⟨#[9]⟩ w
    rw [show Lib.hasPrefix s.data.toList (⟨#[9]⟩ : ByteArray).data.toList = true from hh] at this
    exact this
  have q1 : (0 : Int) ≤ p := by omega
  have q2 : ¬ ((N : Int) ≤ p) := by omega
  have q3 : (p : Int) < N := by omega
  have hpb : p + 1 ≤ 1000000000 := Nat.le_trans hpN HBD.out
  clear hh
  go_enter Tryd.func7, Tryd.ntmps7
  go_wp2_with fail
  refine (hHP.out _).mono ?_
  rintro e w1 ⟨rfl, rfl⟩
  go_wp2_with fail
  have hL4 : LnAt ((w.alloc (.cells #[.int .i64 0, .int .i64 0, .string ⟨#[]⟩] 25)).alloc (.cells #[.int .i64 1, .int .i64 ((p : Int) + 1), .string (tp s)] 25)) w.heap.size 0 0 ⟨#[]⟩ := (Below.heap_alloc _ _ _ (by simp)).trans (World.alloc_heap_new _ _)
  have hL6 : LnAt ((w.alloc (.cells #[.int .i64 0, .int .i64 0, .string ⟨#[]⟩] 25)).alloc (.cells #[.int .i64 1, .int .i64 ((p : Int) + 1), .string (tp s)] 25)) (w.heap.size + 1) 1 ((p : Int) + 1) (tp s) := by
    have := World.alloc_heap_new (w.alloc (.cells #[.int .i64 0, .int .i64 0, .string ⟨#[]⟩] 25)) (.cells #[.int .i64 1, .int .i64 ((p : Int) + 1), .string (tp s)] 25)
    simpa [LnAt] using this
  go_loopw [9] (fun nx wi => ∃ (k : Nat) (prev text : ByteArray), nx = .int .i64 ((k : Int) + 1) ∧ k + 1 ≤ N ∧ p ≤ k ∧ xs[k]? = some prev ∧ LnAt wi w.heap.size 0 0 ⟨#[]⟩ ∧ LnAt wi (w.heap.size + 1) 1 ((p : Int) + 1) text ∧ Below w.heap.size w wi ∧ Hid (goOn true prev (xs.drop (k + 1)) text (k + 1) = G) ∧ text.size + total (xs.drop (k + 1)) ≤ total xs) (fun nx _ => N - (intOf nx).toNat)
  case atStart =>
    have e := HSZ.out p s (by rw [← List.head?_drop, hd]; rfl)
    refine ⟨p, s, tp s, rfl, by omega, Nat.le_refl _, by rw [← List.head?_drop, hd]; rfl, hL4, hL6, ((Below.refl _ w).alloc (Nat.le_refl _) _).alloc (by simp) _, ?_, by have := tp_size s; omega⟩
    unfold Hid; rw [show xs.drop (p + 1) = r by rw [← List.drop_drop, hd]; rfl]; exact HG.out
  case round =>
    obtain ⟨k, prev, text, rfl, hk, hpk, hprev, h4, h6, hbel, hrel, htot⟩ := hrel
    obtain ⟨b', o', hAA, hcp⟩ := ha k prev hprev
    cases hAA
    have hbs := hbel.size
    have hcp' : wr.cell? ⟨b, o + k, none⟩ = some (.string prev) := by rw [hbel.cell (p := ⟨b, o + k, none⟩) hb]; exact hcp
    have e1 := HSZ.out k prev hprev
    have HS := Lib.hid (slashes_any prev wr (by omega))
    obtain ⟨n, hn⟩ : ∃ n, sl prev.data.toList = n := ⟨_, rfl⟩
    have hnp : n ≤ prev.size := by rw [← hn]; have := sl_le prev.data.toList; simpa using this
    have hkb : k + 1 ≤ 1000000000 := Nat.le_trans hk HBD.out
    have r2 : (k : Int) < N := by omega
    have c0 := h6.c0
    have c1 := h6.c1
    have c2 := h6.c2
    rw [hn] at HS
    by_cases hgo : n % 2 = 1 ∧ k + 1 < N
    · have qa : bits BinOp.and IntKind.i64 ((n : Nat) : Int) 1 = 1 := by rw [Go.Proofs.and_one n (by omega), hgo.1]; rfl
      have hlt := hgo.2
      obtain ⟨m, hm⟩ : ∃ m, xs[k + 1]? = some m := ⟨_, List.getElem?_eq_getElem (by have := HN.out; omega)⟩
      obtain ⟨b', o', hAA, hcm⟩ := ha (k + 1) m hm
      cases hAA
      have hcm' : wr.cell? ⟨b, o + (k + 1), none⟩ = some (.string m) := by rw [hbel.cell (p := ⟨b, o + (k + 1), none⟩) hb]; exact hcm
      have e2 := HSZ.out (k + 1) m hm
      have HREL : Hid (goOn true m (xs.drop (k + 1 + 1)) (joinT true text m) (k + 1 + 1) = G) := by
        unfold Hid
        have := hrel.out
        rw [List.drop_eq_getElem_cons (by have := HN.out; omega), goOn, hn, if_pos hgo.1] at this
        rw [List.getElem?_eq_getElem (by have := HN.out; omega)] at hm
        rw [Option.some.inj hm] at this
        exact this
      have HM := Lib.hid hm
      have HJ : Hid (joinT true text m = text ++ (⟨#[10]⟩ ++ tp m)) := rfl
      have HT1 : Hid (∀ w', Calls Tryd.prog 16 #[.string m, .string ⟨#[9]⟩] w' fun e w'' => e = .returned (.string (tp m)) ∧ w'' = w') := fun w' => Tryd.strings_TrimPrefix m ⟨#[9]⟩ w'
      have g1 : ¬ (9223372036854775807 < 1 + (tp m).size) := by have := tp_size m; omega
      have g2 : ¬ (9223372036854775807 < text.size + (1 + (tp m).size)) := by have := tp_size m; omega
      have hvs := tp_size m
      have d2 := h6.c2
      have f2 := h6.fz 2
      clear hgo hn hrel hprev hm hcm hcp
      go_wp2_with fail
      refine HS.out.mono ?_
      rintro e w1 ⟨rfl, rfl⟩
      go_wp2_with fail
      first | (go_region_law (first
        | (go_simp; go_at_call 16; refine (HT1.out _).mono ?_; rintro e w2 ⟨rfl, rfl⟩)
        | fail)) | fail
      all_goals
        go_wp2
        refine ⟨⟨k + 1, m, text ++ (⟨#[10]⟩ ++ tp m), by go_num, by omega, by omega, HM.out, (h4.other _ (by omega)).drew, (h6.setText _).drew, (hbel.setCell (p := ⟨w.heap.size + 1, 2, none⟩) (Nat.le_succ _) _).drew, by rw [← HJ.out]; exact HREL.out, ?_⟩, by simp [intOf]; omega⟩
        simp only [ByteArray.size_append]; have : (⟨#[10]⟩ : ByteArray).size = 1 := rfl; omega
    · have hG : G = (text, k + 1) := by
        have := hrel.out
        rcases Nat.lt_or_ge (k + 1) N with h | h
        · rw [List.drop_eq_getElem_cons (by have := HN.out; omega), goOn, hn, if_neg (fun e => hgo ⟨e, h⟩)] at this
          exact this.symm
        · rw [List.drop_eq_nil_of_le (by have := HN.out; omega), goOn] at this
          exact this.symm
      have HEM := Lib.hid fun w' => empty_any text w' (by omega)
      have HFIN : Hid (fi = if k + 1 = p + 1 ∧ isBl text = true then ⟨0, (p : Int) + 1, ⟨#[]⟩, k + 1⟩ else ⟨1, (p : Int) + 1, text, k + 1⟩) := by
        unfold Hid
        rw [← HFI.out, hG]
        simp only [finish, if_true]
      have HN2 : Hid (n % 2 = 0 ∨ (n % 2 = 1 ∧ ¬ (k + 1 < N))) := by unfold Hid; omega
      clear hgo hn hrel hprev hcp hG
      rcases HN2.out with hev | ⟨hod, hge⟩
      · have qa : bits BinOp.and IntKind.i64 ((n : Nat) : Int) 1 = 0 := by rw [Go.Proofs.and_one n (by omega), hev]; rfl
        go_wp2_with fail
        refine HS.out.mono ?_
        rintro e w1 ⟨rfl, rfl⟩
        clear HS
        have d0 := h4.c0
        have d1 := h4.c1
        have d2 := h4.c2
        have f0 := h4.fz 0
        have f1 := h4.fz 1
        have f2 := h4.fz 2
        have g0 := h6.fz 0
        have g2 := h6.fz 2
        by_cases hpk2 : p < k
        · have HF2 : fi = ⟨1, (p : Int) + 1, text, k + 1⟩ := by rw [HFIN.out, if_neg (by omega)]
          subst HF2
          go_wp2
          exact ret_ln (((h4.setKind 1).setNo ((p : Int) + 1)).setText text) rfl rfl rfl ⟨rfl, ((hbel.setCell (p := ⟨w.heap.size, 0, none⟩) (Nat.le_refl _) _).setCell (p := ⟨w.heap.size, 1, none⟩) (Nat.le_refl _) _).setCell (p := ⟨w.heap.size, 2, none⟩) (Nat.le_refl _) _⟩
        · obtain rfl : k = p := by omega
          go_wp2_with fail
          refine (HEM.out _).mono ?_
          rintro e w3 ⟨rfl, hb3⟩
          have h43 := h4.below hb3
          have h63 := h6.below hb3
          have HB3 := hbel.trans (hb3.mono hbs)
          clear c0 c1 c2 d0 d1 d2 f0 f1 f2 g0 g2
          have c0 := h63.c0
          have c1 := h63.c1
          have c2 := h63.c2
          have d0 := h43.c0
          have d1 := h43.c1
          have d2 := h43.c2
          have f0 := h43.fz 0
          have f1 := h43.fz 1
          have f2 := h43.fz 2
          have g0 := h63.fz 0
          have g2 := h63.fz 2
          cases hE : (trL (trR text.data.toList)).isEmpty
          · have HF2 : fi = ⟨1, (k : Int) + 1, text, k + 1⟩ := by rw [HFIN.out]; simp [isBl, hE]
            subst HF2
            go_wp2
            exact ret_ln (((h43.setKind 1).setNo ((k : Int) + 1)).setText text) rfl rfl rfl ⟨rfl, ((HB3.setCell (p := ⟨w.heap.size, 0, none⟩) (Nat.le_refl _) _).setCell (p := ⟨w.heap.size, 1, none⟩) (Nat.le_refl _) _).setCell (p := ⟨w.heap.size, 2, none⟩) (Nat.le_refl _) _⟩
          · have HF2 : fi = ⟨0, (k : Int) + 1, ⟨#[]⟩, k + 1⟩ := by rw [HFIN.out]; simp [isBl, hE]
            subst HF2
            go_wp2
            exact ret_ln ((((((h43.other (i := 0) (.int .i64 0) (by omega)).other (C := w.heap.size + 1) (i := 2) (.string ⟨#[]⟩) (by omega)).setKind 0).setNo ((k : Int) + 1)).setText ⟨#[]⟩)) rfl rfl rfl ⟨rfl, ((((HB3.setCell (p := ⟨w.heap.size + 1, 0, none⟩) (Nat.le_succ _) _).setCell (p := ⟨w.heap.size + 1, 2, none⟩) (Nat.le_succ _) _).setCell (p := ⟨w.heap.size, 0, none⟩) (Nat.le_refl _) _).setCell (p := ⟨w.heap.size, 1, none⟩) (Nat.le_refl _) _).setCell (p := ⟨w.heap.size, 2, none⟩) (Nat.le_refl _) _⟩
      · have qa : bits BinOp.and IntKind.i64 ((n : Nat) : Int) 1 = 1 := by rw [Go.Proofs.and_one n (by omega), hod]; rfl
        have hge2 : ¬ ((k : Int) + 1 < N) := by omega
        go_wp2_with fail
        refine HS.out.mono ?_
        rintro e w1 ⟨rfl, rfl⟩
        clear HS
        have d0 := h4.c0
        have d1 := h4.c1
        have d2 := h4.c2
        have f0 := h4.fz 0
        have f1 := h4.fz 1
        have f2 := h4.fz 2
        have g0 := h6.fz 0
        have g2 := h6.fz 2
        by_cases hpk2 : p < k
        · have HF2 : fi = ⟨1, (p : Int) + 1, text, k + 1⟩ := by rw [HFIN.out, if_neg (by omega)]
          subst HF2
          go_wp2
          exact ret_ln (((h4.setKind 1).setNo ((p : Int) + 1)).setText text) rfl rfl rfl ⟨rfl, ((hbel.setCell (p := ⟨w.heap.size, 0, none⟩) (Nat.le_refl _) _).setCell (p := ⟨w.heap.size, 1, none⟩) (Nat.le_refl _) _).setCell (p := ⟨w.heap.size, 2, none⟩) (Nat.le_refl _) _⟩
        · obtain rfl : k = p := by omega
          go_wp2_with fail
          refine (HEM.out _).mono ?_
          rintro e w3 ⟨rfl, hb3⟩
          have h43 := h4.below hb3
          have h63 := h6.below hb3
          have HB3 := hbel.trans (hb3.mono hbs)
          clear c0 c1 c2 d0 d1 d2 f0 f1 f2 g0 g2
          have c0 := h63.c0
          have c1 := h63.c1
          have c2 := h63.c2
          have d0 := h43.c0
          have d1 := h43.c1
          have d2 := h43.c2
          have f0 := h43.fz 0
          have f1 := h43.fz 1
          have f2 := h43.fz 2
          have g0 := h63.fz 0
          have g2 := h63.fz 2
          cases hE : (trL (trR text.data.toList)).isEmpty
          · have HF2 : fi = ⟨1, (k : Int) + 1, text, k + 1⟩ := by rw [HFIN.out]; simp [isBl, hE]
            subst HF2
            go_wp2
            exact ret_ln (((h43.setKind 1).setNo ((k : Int) + 1)).setText text) rfl rfl rfl ⟨rfl, ((HB3.setCell (p := ⟨w.heap.size, 0, none⟩) (Nat.le_refl _) _).setCell (p := ⟨w.heap.size, 1, none⟩) (Nat.le_refl _) _).setCell (p := ⟨w.heap.size, 2, none⟩) (Nat.le_refl _) _⟩
          · have HF2 : fi = ⟨0, (k : Int) + 1, ⟨#[]⟩, k + 1⟩ := by rw [HFIN.out]; simp [isBl, hE]
            subst HF2
            go_wp2
            exact ret_ln ((((((h43.other (i := 0) (.int .i64 0) (by omega)).other (C := w.heap.size + 1) (i := 2) (.string ⟨#[]⟩) (by omega)).setKind 0).setNo ((k : Int) + 1)).setText ⟨#[]⟩)) rfl rfl rfl ⟨rfl, ((((HB3.setCell (p := ⟨w.heap.size + 1, 0, none⟩) (Nat.le_succ _) _).setCell (p := ⟨w.heap.size + 1, 2, none⟩) (Nat.le_succ _) _).setCell (p := ⟨w.heap.size, 0, none⟩) (Nat.le_refl _) _).setCell (p := ⟨w.heap.size, 1, none⟩) (Nat.le_refl _) _).setCell (p := ⟨w.heap.size, 2, none⟩) (Nat.le_refl _) _⟩
end Go.Proofs.YtndoloohdloflabDoor
