/- The lexer's tokens, comments, operators. The lexer's states: a comment, an operator. The lexer's state ahead of a token. Conditions: as each part says. -/
import Derived.Test.YtioddclglemlmaaGreatDoorLexIL
/- The lexer's tokens, comments, operators; conditions: a text of at most 65,536 bytes. -/
namespace Go.Proofs.YtioddclglemlmaaGreatDoor
open Go.RowKit

/-- a token is told, or there are too many -/
def TokA (xb : Nat) (s : ByteArray) (x : LxS) (k : Int) (t : ByteArray) (e : Ending) (W' : World) : Prop := x.out.length = 5000 ∧ e = .panicked (stopV 2) ∨ x.out.length < 5000 ∧ e = .returned (.tuple #[]) ∧ LxAt W' xb s { x with out := x.out ++ [(k, t)] }
set_option maxRecDepth 100000 in
set_option maxHeartbeats 1000000 in
theorem token_any (xb : Nat) (s : ByteArray) (x : LxS) (k : Int) (t : ByteArray) (w : World) (h : LxAt w xb s x) (hl : x.out.length ≤ 5000) :
    Calls Tryz.prog 36 #[.pointer (some ⟨xb, 0, none⟩), .int .i64 k, .string t] w fun e w' => TokA xb s x k t e w' ∧ Below xb w w' := by
  obtain ⟨hf, vw, vo, vt, h1, h2, h3, h4, h5⟩ := h
  obtain ⟨At, ct, rfl, _, _⟩ := h4.form
  obtain ⟨c0, c1, c2, c3, c4, f0, f1, f2, f3, f4⟩ := lx_row h1
  have hlt := lt_of_block h1
  obtain ⟨i29, hi, hz0, hz1, hz2⟩ := info_parts Tryz.info116
  obtain ⟨n, hn⟩ : ∃ n, x.out.length = n := ⟨_, rfl⟩
  have H1 := Lib.hid h1
  have H4 := Lib.hid h4
  have HX := Lib.hid fun (w1 : World) (v' : Value) (hg : Grew w w1 (.slice At x.out.length ct) v') (h6 : OwnG w1 xb 116 2 v' (x.out.length + 1) (tokV x.out ++ [.int .i64 k, .string t])) => lx_out hf h1 h2 h3 h4 h5 hg (x.out ++ [(k, t)]) (by simp; omega) (by rw [tokV_app]; simpa [tokV] using h6)
  have HN := Lib.hid hn
  rw [hn] at c4 hl H4 HX H1
  clear h1 h2 h3 h4 h5 hf hn
  by_cases h5k : n = 5000
  · subst h5k
    go_enter Tryz.func36, Tryz.ntmps36
    go_wp2_with (first | (at_builtin; refine wpList_append_G _ rfl _ _ 41 rfl xb 116 i29 (.agg #[.int .i64 0, .string ⟨#[]⟩]) 2 24 Tryz.underlying41 hi hz0 hz1 hz2 rfl (.slice At 5000 ct) 5000 (tokV x.out) rfl (H4.out.below ((Below.refl _ _).alloc (Nat.le_refl _) _)) ⟨_, 0, none⟩ 1 1 [.int .i64 k, .string t] rfl rfl (cell_two_new _ _ _ _) (by simp [Value.oneCell']) (by decide) (by decide) (by decide) (by simp; omega) ?_; intro g cap w1 hown hgrow hnew hglt; have HG := Lib.hid (Grew.of (n := 5001) (cap := cap) hgrow hnew); have hc3 := (HG.out.block xb hlt (H4.out.ne_row H1.out (by decide))).trans H1.out; have hk3 := (lx_row hc3).2.2.2.2.1; have hf3 := frozen_of_row w1 _ 4 _ _ hc3; have HO := Lib.hid hown; clear hown hgrow hnew hc3) | fail)
    refine (fail_any _ _ _).mono ?_
    rintro e w2 ⟨rfl, hw2⟩
    obtain rfl := hw2.symm
    go_wp2
    exact ⟨rfl, .inl ⟨HN.out, rfl⟩, (HX.out w1 _ HG.out HO.out).2⟩
  · have hlt5 : n < 5000 := by omega
    have q : ¬ (5000 : Int) < (n : Int) + 1 := by omega
    go_enter Tryz.func36, Tryz.ntmps36
    go_wp2_with (first | (at_builtin; refine wpList_append_G _ rfl _ _ 41 rfl xb 116 i29 (.agg #[.int .i64 0, .string ⟨#[]⟩]) 2 24 Tryz.underlying41 hi hz0 hz1 hz2 rfl (.slice At n ct) n (tokV x.out) rfl (H4.out.below ((Below.refl _ _).alloc (Nat.le_refl _) _)) ⟨_, 0, none⟩ 1 1 [.int .i64 k, .string t] rfl rfl (cell_two_new _ _ _ _) (by simp [Value.oneCell']) (by decide) (by unfold maxLen; omega) (by omega) (by simp; omega) ?_; intro g cap w1 hown hgrow hnew hglt; have HG := Lib.hid (Grew.of (n := n + 1) (cap := cap) hgrow hnew); have hc3 := (HG.out.block xb hlt (H4.out.ne_row H1.out (by decide))).trans H1.out; have hk3 := (lx_row hc3).2.2.2.2.1; have hf3 := frozen_of_row w1 _ 4 _ _ hc3; have HO := Lib.hid hown; clear hown hgrow hnew hc3) | fail)
    first | go_end0 | refine bodyPost_ret (results_none rfl _ _ _) rfl ?_
    exact ⟨.inr ⟨by rw [HN.out]; exact hlt5, rfl, (HX.out w1 _ HG.out HO.out).1⟩, (HX.out w1 _ HG.out HO.out).2⟩
end Go.Proofs.YtioddclglemlmaaGreatDoor

/- The lexer's states: a comment, an operator; conditions: a text of at most 65,536 bytes. -/
namespace Go.Proofs.YtioddclglemlmaaGreatDoor
open Go.RowKit

/-- on to a place -/
def LxS.at_ (x : LxS) (j : Nat) : LxS := { x with i := j }
theorem lxs_step {w : World} {xb : Nat} {s : ByteArray} {x : LxS} (h : LxAt w xb s x) (hi : x.i < s.size) : LxAt (w.setCell ⟨xb, 1, none⟩ (.int .i64 ((x.i : Int) + 1))) xb s (x.at_ (x.i + 1)) ∧ Below xb w (w.setCell ⟨xb, 1, none⟩ (.int .i64 ((x.i : Int) + 1))) := by
  obtain ⟨hf, vw, vo, vt, h1, h2, h3, h4, h5⟩ := h
  have := lx_i hf h1 h2 h3 h4 h5 (x.i + 1) (by omega) (by omega)
  rw [show ((x.i + 1 : Nat) : Int) = (x.i : Int) + 1 by omega] at this
  exact this
theorem lx_lt {w : World} {xb : Nat} {s : ByteArray} {x : LxS} (h : LxAt w xb s x) : xb < w.heap.size := by
  obtain ⟨_, vw, vo, vt, h1, _⟩ := h
  exact lt_of_block h1
theorem lx_cells {w : World} {xb : Nat} {s : ByteArray} {x : LxS} (h : LxAt w xb s x) : w.cell? ⟨xb, 0, none⟩ = some (.string s) ∧ w.cell? ⟨xb, 1, none⟩ = some (.int .i64 x.i) ∧ w.frozen? ⟨xb, 1, none⟩ = false := by
  obtain ⟨hf, vw, vo, vt, h1, _⟩ := h
  obtain ⟨c0, c1, _, _, _, _, f1, _⟩ := lx_row h1
  exact ⟨c0, c1, f1⟩

set_option maxRecDepth 100000 in
set_option maxHeartbeats 1000000 in
theorem comment_any (xb : Nat) (s : ByteArray) (x : LxS) (w : World) (h : LxAt w xb s x) (hs : s.size ≤ 70000) :
    Calls Tryz.prog 37 #[.pointer (some ⟨xb, 0, none⟩)] w fun e w' => e = .returned (.func (.func 25) #[] #[]) ∧ LxAt w' xb s (x.at_ (comF s (s.size + 1) x.i)) ∧ Below xb w w' := by
  obtain ⟨R, hR⟩ : ∃ R, comF s (s.size + 1) x.i = R := ⟨_, rfl⟩
  rw [hR]
  have HR := Lib.hid hR
  have HX := Lib.hid h
  have hfit := h.1.2.1
  clear hR h
  go_enter Tryz.func37, Tryz.ntmps37
  go_wp2
  go_loopw [] (fun wi => ∃ j f : Nat, x.i ≤ j ∧ j ≤ s.size ∧ s.size < f + j ∧ LxAt wi xb s (x.at_ j) ∧ Below xb w wi ∧ Hid (comF s f j = R)) (fun wi => s.size - iOf wi xb)
  case atStart => exact ⟨x.i, s.size + 1, Nat.le_refl _, hfit, by omega, HX.out, Below.refl _ _, HR⟩
  case round =>
    obtain ⟨j, f, hj, hj2, hf, hx, hb, hr⟩ := hrel
    obtain ⟨f, rfl⟩ : ∃ g, f = g + 1 := ⟨f - 1, by omega⟩
    have hst := hr.out
    rw [comF] at hst
    have hm := iOf_at hx
    have hm2 : (x.at_ j).i = j := rfl
    rw [hm2] at hm
    obtain ⟨c0, c1, f1⟩ := lx_cells hx
    rw [hm2] at c1
    have HX1 := Lib.hid hx
    have HM := Lib.hid hm
    have HB := Lib.hid hb
    by_cases hlt : j < s.size
    · have hb2 := bget s j hlt
      obtain ⟨c, hc⟩ : ∃ c, s.get! j = c := ⟨_, rfl⟩
      rw [hc] at hst hb2
      have qj : (j : Int) < s.size := by omega
      by_cases hq : c = 10
      · subst hq
        rw [if_neg (fun k => k.2 rfl)] at hst
        have HS := Lib.hid hst
        clear hr hst hc hm hx hb hm2
        go_wp2
        go_quiet (fail)
        go_wp2
        go_ret
        exact ⟨rfl, by rw [← HS.out]; exact HX1.out.drewN _, below_drewN HB.out _⟩
      · rw [if_pos ⟨hlt, hq⟩] at hst
        have HS := Lib.hid hst
        have hne : ((c.toNat : Int) != 10) = true := by
          have := u8_beq c 10
          rw [beq_eq_false_iff_ne.2 hq] at this
          unfold bne
          rw [show ((c.toNat : Int) == 10) = false from this]; rfl
        clear hr hst hc hm hx hb hm2
        go_wp2
        go_quiet (fail)
        have hx2 := HX1.out.drewN nq
        obtain ⟨w2, hw2⟩ : ∃ w2, wr.drewN nq = w2 := ⟨_, rfl⟩
        have hb3 := below_drewN HB.out nq
        rw [hw2] at hx2 hb3 ⊢
        have HX2 := Lib.hid (lxs_step hx2 hlt)
        have HB3 := Lib.hid (hb3.trans HX2.out.2)
        clear c0 c1 f1
        obtain ⟨c0, c1, f1⟩ := lx_cells hx2
        have hm2 : (x.at_ j).i = j := rfl
        rw [hm2] at c1
        have HX3 := Lib.hid HX2.out.1
        have HMZ := Lib.hid (iOf_at HX2.out.1)
        clear hx2 hw2 hb3 hm2
        go_wp2
        exact ⟨⟨j + 1, f, by omega, by omega, by omega, HX3.out, HB3.out, HS⟩, by rw [HM.out]; rw [show iOf (w2.setCell ⟨xb, 1, none⟩ (.int .i64 ((j : Int) + 1))) xb = j + 1 from HMZ.out]; omega⟩
    · rw [if_neg (fun k => hlt k.1)] at hst
      have HS := Lib.hid hst
      have qj : decide ((j : Int) < s.size) = false := decide_eq_false (by omega)
      clear hr hst hm hx hb hm2
      go_wp2
      go_quiet (fail)
      go_wp2
      go_ret
      exact ⟨rfl, by rw [← HS.out]; exact HX1.out.drewN _, below_drewN HB.out _⟩

theorem add_zero_off (B j : Nat) : (⟨B, 0, none⟩ : Addr).add j = ⟨B, j, none⟩ := by unfold Addr.add; split <;> simp_all
theorem conv_bytes (W : World) (B cap : Nat) (l : List UInt8) (h : ∀ j u, (u8s l)[j]? = some u → W.cell? ⟨B, j, none⟩ = some u) :
    (convert 75 9 (.slice (some ⟨B, 0, none⟩) l.length cap)).run Tryz.prog W = .ok (.string (mk l)) W := by
  refine run_convert_bytes_back W 75 9 5 ⟨B, 0, none⟩ cap l Tryz.underlying75 Tryz.underlying5 Tryz.underlying9 fun j hj => ?_
  rw [add_zero_off]
  exact h j (.int .u8 (l[j].toNat)) (by simp [u8s, hj])
/-- behind a token: on, or too many -/
def StA (xb : Nat) (s : ByteArray) (x : LxS) (t : Int × ByteArray) (j : Nat) (v : Value) (e : Ending) (W' : World) : Prop := x.out.length = 5000 ∧ e = .panicked (stopV 2) ∨ x.out.length < 5000 ∧ e = .returned v ∧ LxAt W' xb s { x.at_ j with out := x.out ++ [t] }

set_option maxRecDepth 100000 in
set_option maxHeartbeats 4000000 in
theorem operator_any (xb : Nat) (s : ByteArray) (x : LxS) (w : World) (h : LxAt w xb s x) (hs : s.size ≤ 70000) (hlt : x.i < s.size) (hl : x.out.length ≤ 5000) :
    Calls Tryz.prog 38 #[.pointer (some ⟨xb, 0, none⟩)] w fun e w' => StA xb s x (2, (opT s x.i).1) (opT s x.i).2 (.func (.func 25) #[] #[]) e w' ∧ Below xb w w' := by
  obtain ⟨T, hT⟩ : ∃ T, opT s x.i = T := ⟨_, rfl⟩
  rw [hT]
  unfold opT at hT
  obtain ⟨c0, c1, f1⟩ := lx_cells h
  have hb2 := bget s x.i hlt
  obtain ⟨c, hc⟩ : ∃ c, s.get! x.i = c := ⟨_, rfl⟩
  rw [hc] at hT hb2
  have qj : (x.i : Int) < s.size := by omega
  have H := Lib.hid h
  have HT := Lib.hid hT
  clear h hT hc
  go_enter Tryz.func38, Tryz.ntmps38
  go_wp2
  go_quiet (fail)
  have hx2 := H.out.drewN nq
  obtain ⟨w2, hw2⟩ : ∃ w2, w.drewN nq = w2 := ⟨_, rfl⟩
  have hb3 := below_drewN (Below.refl xb w) nq
  rw [hw2] at hx2 hb3 ⊢
  have HX2 := Lib.hid (lxs_step hx2 hlt)
  have HB3 := Lib.hid (hb3.trans HX2.out.2)
  clear c0 c1 f1
  obtain ⟨c0, c1, f1⟩ := lx_cells hx2
  clear hx2 hw2 hb3
  go_upto_region 3 with fail
  have hx3 := HX2.out.1
  have hb3 := HB3.out
  obtain ⟨w3, hw3⟩ : ∃ w3, w2.setCell ⟨xb, 1, none⟩ (.int .i64 ((x.i : Int) + 1)) = w3 := ⟨_, rfl⟩
  rw [hw3] at hx3 hb3 ⊢
  have HX3 := Lib.hid hx3
  have HB4 := Lib.hid hb3
  have hcv : (convert 75 9 (.slice (some ⟨w3.heap.size, 0, none⟩) 1 1)).run Tryz.prog (w3.alloc (.cells #[.int .u8 c.toNat] 5)) = .ok (.string ⟨#[c]⟩) (w3.alloc (.cells #[.int .u8 c.toNat] 5)) :=
    conv_bytes _ _ 1 [c] (fun j u h => by have := cell_one_new w3 (.int .u8 c.toNat) 5 j u h; rw [add_zero_off] at this; exact this)
  clear hw3 hx3 hb3 HX2 HB3 c0 c1 f1
  obtain ⟨S1, hS1⟩ : ∃ S1 : ByteArray, ⟨#[c]⟩ = S1 := ⟨_, rfl⟩
  have hS1z : S1.size ≤ 1 := by rw [← hS1]; exact Nat.le_refl _
  have hT := HT.out
  rw [hS1] at hcv hT
  have HT := Lib.hid hT
  clear hT hS1
  go_upto_region 4 with fail
  obtain ⟨w4, hw4⟩ : ∃ w4, w3.alloc (.cells #[.int .u8 c.toNat] 5) = w4 := ⟨_, rfl⟩
  rw [hw4]
  have HX4 := Lib.hid (show LxAt w4 xb s (x.at_ (x.i + 1)) from by rw [← hw4]; exact HX3.out.below ((Below.refl _ _).alloc (Nat.le_refl _) _))
  have HB5 := HB4
  have HB4 := Lib.hid (show Below xb w w4 from by rw [← hw4]; exact HB5.out.alloc (by have := lx_lt HX3.out; omega) _)
  clear hw4 hcv HX3 HB5
  by_cases hop : opB c = true
  · have hcs : c = 59 ∨ c = 38 ∨ c = 124 ∨ c = 62 := by
      unfold opB at hop
      simp only [Bool.or_eq_true, beq_iff_eq] at hop
      exact hop
    obtain ⟨bl, hbl⟩ : ∃ bl, (decide (x.i + 1 < s.size) && s.get! (x.i + 1) == c) = bl := ⟨_, rfl⟩
    have HBL := Lib.hid hbl
    rw [hop, hbl] at HT
    clear hop hbl
    rcases hcs with hc | hc | hc | hc
    · have n59 : ((c.toNat : Int) == 59) = true := by rw [hc]; rfl
      clear hc
      have HLk := Lib.hid (looks_any xb s (x.at_ (x.i + 1)) c w4 HX4.out)
      rw [show (decide ((x.at_ (x.i + 1)).i < s.size) && s.get! (x.at_ (x.i + 1)).i == c) = bl from HBL.out] at HLk
      cases bl
      · have hT2 : T = (S1, x.i + 1) := by exact HT.out.symm
        subst hT2
        clear HT
        go_wp2_with fail
        refine HLk.out.mono ?_
        rintro e w5 ⟨rfl, hx5, hb5⟩
        have HX5 := Lib.hid hx5
        have HB5 := Lib.hid (HB4.out.trans hb5)
        clear hx5 hb5
        go_wp2_with fail
        refine (token_any xb s (x.at_ (x.i + 1)) 2 S1 _ HX5.out hl).mono ?_
        rintro e wt ⟨ht, hbt⟩
        rcases ht with ⟨h5, rfl⟩ | ⟨h5, rfl, hxt⟩
        · have h5' : x.out.length = 5000 := h5
          go_wp2
          exact ⟨rfl, .inl ⟨h5', rfl⟩, HB5.out.trans hbt⟩
        · have h5' : x.out.length < 5000 := h5
          have HXT := Lib.hid hxt
          have HBT := Lib.hid (HB5.out.trans hbt)
          clear hxt hbt h5
          go_wp2
          go_ret
          exact ⟨.inr ⟨h5', rfl, HXT.out⟩, HBT.out⟩
      · have hT2 : T = (S1 ++ S1, x.i + 2) := by exact HT.out.symm
        have hlt2 : x.i + 1 < s.size := by have := HBL.out; simp only [Bool.and_eq_true, decide_eq_true_eq] at this; exact this.1
        subst hT2
        clear HT
        go_wp2_with fail
        refine HLk.out.mono ?_
        rintro e w5 ⟨rfl, hx5, hb5⟩
        obtain ⟨c0, c1, f1⟩ := lx_cells hx5
        have HX6 := Lib.hid (lxs_step hx5 hlt2)
        have HB6 := Lib.hid (HB4.out.trans (hb5.trans HX6.out.2))
        have c1' : w5.cell? ⟨xb, 1, none⟩ = some (.int .i64 ((x.i : Int) + 1)) := by rw [c1]; rfl
        clear hx5 hb5 c1 HLk
        go_upto_region 12 with fail
        have hx6 : LxAt (w5.setCell ⟨xb, 1, none⟩ (.int .i64 ((x.i : Int) + 1 + 1))) xb s (x.at_ (x.i + 2)) := HX6.out.1
        have hb6 : Below xb w (w5.setCell ⟨xb, 1, none⟩ (.int .i64 ((x.i : Int) + 1 + 1))) := HB6.out
        obtain ⟨w6, hw6⟩ : ∃ w6, w5.setCell ⟨xb, 1, none⟩ (.int .i64 ((x.i : Int) + 1 + 1)) = w6 := ⟨_, rfl⟩
        rw [hw6] at hx6 hb6 ⊢
        have HX7 := Lib.hid hx6
        have HB7 := Lib.hid hb6
        clear hw6 hx6 hb6 HX6 HB6 c0 f1 c1'
        go_wp2_with fail
        refine (token_any xb s (x.at_ (x.i + 2)) 2 (S1 ++ S1) _ HX7.out hl).mono ?_
        rintro e wt ⟨ht, hbt⟩
        rcases ht with ⟨h5, rfl⟩ | ⟨h5, rfl, hxt⟩
        · have h5' : x.out.length = 5000 := h5
          go_wp2
          exact ⟨rfl, .inl ⟨h5', rfl⟩, HB7.out.trans hbt⟩
        · have h5' : x.out.length < 5000 := h5
          have HXT := Lib.hid hxt
          have HBT := Lib.hid (HB7.out.trans hbt)
          clear hxt hbt h5
          go_wp2
          go_ret
          exact ⟨.inr ⟨h5', rfl, HXT.out⟩, HBT.out⟩
    · have n59 : ((c.toNat : Int) == 59) = false := by rw [hc]; rfl
      have n38 : ((c.toNat : Int) == 38) = true := by rw [hc]; rfl
      clear hc
      have HLk := Lib.hid (looks_any xb s (x.at_ (x.i + 1)) c w4 HX4.out)
      rw [show (decide ((x.at_ (x.i + 1)).i < s.size) && s.get! (x.at_ (x.i + 1)).i == c) = bl from HBL.out] at HLk
      cases bl
      · have hT2 : T = (S1, x.i + 1) := by exact HT.out.symm
        subst hT2
        clear HT
        go_wp2_with fail
        refine HLk.out.mono ?_
        rintro e w5 ⟨rfl, hx5, hb5⟩
        have HX5 := Lib.hid hx5
        have HB5 := Lib.hid (HB4.out.trans hb5)
        clear hx5 hb5
        go_wp2_with fail
        refine (token_any xb s (x.at_ (x.i + 1)) 2 S1 _ HX5.out hl).mono ?_
        rintro e wt ⟨ht, hbt⟩
        rcases ht with ⟨h5, rfl⟩ | ⟨h5, rfl, hxt⟩
        · have h5' : x.out.length = 5000 := h5
          go_wp2
          exact ⟨rfl, .inl ⟨h5', rfl⟩, HB5.out.trans hbt⟩
        · have h5' : x.out.length < 5000 := h5
          have HXT := Lib.hid hxt
          have HBT := Lib.hid (HB5.out.trans hbt)
          clear hxt hbt h5
          go_wp2
          go_ret
          exact ⟨.inr ⟨h5', rfl, HXT.out⟩, HBT.out⟩
      · have hT2 : T = (S1 ++ S1, x.i + 2) := by exact HT.out.symm
        have hlt2 : x.i + 1 < s.size := by have := HBL.out; simp only [Bool.and_eq_true, decide_eq_true_eq] at this; exact this.1
        subst hT2
        clear HT
        go_wp2_with fail
        refine HLk.out.mono ?_
        rintro e w5 ⟨rfl, hx5, hb5⟩
        obtain ⟨c0, c1, f1⟩ := lx_cells hx5
        have HX6 := Lib.hid (lxs_step hx5 hlt2)
        have HB6 := Lib.hid (HB4.out.trans (hb5.trans HX6.out.2))
        have c1' : w5.cell? ⟨xb, 1, none⟩ = some (.int .i64 ((x.i : Int) + 1)) := by rw [c1]; rfl
        clear hx5 hb5 c1 HLk
        go_upto_region 12 with fail
        have hx6 : LxAt (w5.setCell ⟨xb, 1, none⟩ (.int .i64 ((x.i : Int) + 1 + 1))) xb s (x.at_ (x.i + 2)) := HX6.out.1
        have hb6 : Below xb w (w5.setCell ⟨xb, 1, none⟩ (.int .i64 ((x.i : Int) + 1 + 1))) := HB6.out
        obtain ⟨w6, hw6⟩ : ∃ w6, w5.setCell ⟨xb, 1, none⟩ (.int .i64 ((x.i : Int) + 1 + 1)) = w6 := ⟨_, rfl⟩
        rw [hw6] at hx6 hb6 ⊢
        have HX7 := Lib.hid hx6
        have HB7 := Lib.hid hb6
        clear hw6 hx6 hb6 HX6 HB6 c0 f1 c1'
        go_wp2_with fail
        refine (token_any xb s (x.at_ (x.i + 2)) 2 (S1 ++ S1) _ HX7.out hl).mono ?_
        rintro e wt ⟨ht, hbt⟩
        rcases ht with ⟨h5, rfl⟩ | ⟨h5, rfl, hxt⟩
        · have h5' : x.out.length = 5000 := h5
          go_wp2
          exact ⟨rfl, .inl ⟨h5', rfl⟩, HB7.out.trans hbt⟩
        · have h5' : x.out.length < 5000 := h5
          have HXT := Lib.hid hxt
          have HBT := Lib.hid (HB7.out.trans hbt)
          clear hxt hbt h5
          go_wp2
          go_ret
          exact ⟨.inr ⟨h5', rfl, HXT.out⟩, HBT.out⟩
    · have n59 : ((c.toNat : Int) == 59) = false := by rw [hc]; rfl
      have n38 : ((c.toNat : Int) == 38) = false := by rw [hc]; rfl
      have n124 : ((c.toNat : Int) == 124) = true := by rw [hc]; rfl
      clear hc
      have HLk := Lib.hid (looks_any xb s (x.at_ (x.i + 1)) c w4 HX4.out)
      rw [show (decide ((x.at_ (x.i + 1)).i < s.size) && s.get! (x.at_ (x.i + 1)).i == c) = bl from HBL.out] at HLk
      cases bl
      · have hT2 : T = (S1, x.i + 1) := by exact HT.out.symm
        subst hT2
        clear HT
        go_wp2_with fail
        refine HLk.out.mono ?_
        rintro e w5 ⟨rfl, hx5, hb5⟩
        have HX5 := Lib.hid hx5
        have HB5 := Lib.hid (HB4.out.trans hb5)
        clear hx5 hb5
        go_wp2_with fail
        refine (token_any xb s (x.at_ (x.i + 1)) 2 S1 _ HX5.out hl).mono ?_
        rintro e wt ⟨ht, hbt⟩
        rcases ht with ⟨h5, rfl⟩ | ⟨h5, rfl, hxt⟩
        · have h5' : x.out.length = 5000 := h5
          go_wp2
          exact ⟨rfl, .inl ⟨h5', rfl⟩, HB5.out.trans hbt⟩
        · have h5' : x.out.length < 5000 := h5
          have HXT := Lib.hid hxt
          have HBT := Lib.hid (HB5.out.trans hbt)
          clear hxt hbt h5
          go_wp2
          go_ret
          exact ⟨.inr ⟨h5', rfl, HXT.out⟩, HBT.out⟩
      · have hT2 : T = (S1 ++ S1, x.i + 2) := by exact HT.out.symm
        have hlt2 : x.i + 1 < s.size := by have := HBL.out; simp only [Bool.and_eq_true, decide_eq_true_eq] at this; exact this.1
        subst hT2
        clear HT
        go_wp2_with fail
        refine HLk.out.mono ?_
        rintro e w5 ⟨rfl, hx5, hb5⟩
        obtain ⟨c0, c1, f1⟩ := lx_cells hx5
        have HX6 := Lib.hid (lxs_step hx5 hlt2)
        have HB6 := Lib.hid (HB4.out.trans (hb5.trans HX6.out.2))
        have c1' : w5.cell? ⟨xb, 1, none⟩ = some (.int .i64 ((x.i : Int) + 1)) := by rw [c1]; rfl
        clear hx5 hb5 c1 HLk
        go_upto_region 12 with fail
        have hx6 : LxAt (w5.setCell ⟨xb, 1, none⟩ (.int .i64 ((x.i : Int) + 1 + 1))) xb s (x.at_ (x.i + 2)) := HX6.out.1
        have hb6 : Below xb w (w5.setCell ⟨xb, 1, none⟩ (.int .i64 ((x.i : Int) + 1 + 1))) := HB6.out
        obtain ⟨w6, hw6⟩ : ∃ w6, w5.setCell ⟨xb, 1, none⟩ (.int .i64 ((x.i : Int) + 1 + 1)) = w6 := ⟨_, rfl⟩
        rw [hw6] at hx6 hb6 ⊢
        have HX7 := Lib.hid hx6
        have HB7 := Lib.hid hb6
        clear hw6 hx6 hb6 HX6 HB6 c0 f1 c1'
        go_wp2_with fail
        refine (token_any xb s (x.at_ (x.i + 2)) 2 (S1 ++ S1) _ HX7.out hl).mono ?_
        rintro e wt ⟨ht, hbt⟩
        rcases ht with ⟨h5, rfl⟩ | ⟨h5, rfl, hxt⟩
        · have h5' : x.out.length = 5000 := h5
          go_wp2
          exact ⟨rfl, .inl ⟨h5', rfl⟩, HB7.out.trans hbt⟩
        · have h5' : x.out.length < 5000 := h5
          have HXT := Lib.hid hxt
          have HBT := Lib.hid (HB7.out.trans hbt)
          clear hxt hbt h5
          go_wp2
          go_ret
          exact ⟨.inr ⟨h5', rfl, HXT.out⟩, HBT.out⟩
    · have n59 : ((c.toNat : Int) == 59) = false := by rw [hc]; rfl
      have n38 : ((c.toNat : Int) == 38) = false := by rw [hc]; rfl
      have n124 : ((c.toNat : Int) == 124) = false := by rw [hc]; rfl
      have n62 : ((c.toNat : Int) == 62) = true := by rw [hc]; rfl
      clear hc
      have HLk := Lib.hid (looks_any xb s (x.at_ (x.i + 1)) c w4 HX4.out)
      rw [show (decide ((x.at_ (x.i + 1)).i < s.size) && s.get! (x.at_ (x.i + 1)).i == c) = bl from HBL.out] at HLk
      cases bl
      · have hT2 : T = (S1, x.i + 1) := by exact HT.out.symm
        subst hT2
        clear HT
        go_wp2_with fail
        refine HLk.out.mono ?_
        rintro e w5 ⟨rfl, hx5, hb5⟩
        have HX5 := Lib.hid hx5
        have HB5 := Lib.hid (HB4.out.trans hb5)
        clear hx5 hb5
        go_wp2_with fail
        refine (token_any xb s (x.at_ (x.i + 1)) 2 S1 _ HX5.out hl).mono ?_
        rintro e wt ⟨ht, hbt⟩
        rcases ht with ⟨h5, rfl⟩ | ⟨h5, rfl, hxt⟩
        · have h5' : x.out.length = 5000 := h5
          go_wp2
          exact ⟨rfl, .inl ⟨h5', rfl⟩, HB5.out.trans hbt⟩
        · have h5' : x.out.length < 5000 := h5
          have HXT := Lib.hid hxt
          have HBT := Lib.hid (HB5.out.trans hbt)
          clear hxt hbt h5
          go_wp2
          go_ret
          exact ⟨.inr ⟨h5', rfl, HXT.out⟩, HBT.out⟩
      · have hT2 : T = (S1 ++ S1, x.i + 2) := by exact HT.out.symm
        have hlt2 : x.i + 1 < s.size := by have := HBL.out; simp only [Bool.and_eq_true, decide_eq_true_eq] at this; exact this.1
        subst hT2
        clear HT
        go_wp2_with fail
        refine HLk.out.mono ?_
        rintro e w5 ⟨rfl, hx5, hb5⟩
        obtain ⟨c0, c1, f1⟩ := lx_cells hx5
        have HX6 := Lib.hid (lxs_step hx5 hlt2)
        have HB6 := Lib.hid (HB4.out.trans (hb5.trans HX6.out.2))
        have c1' : w5.cell? ⟨xb, 1, none⟩ = some (.int .i64 ((x.i : Int) + 1)) := by rw [c1]; rfl
        clear hx5 hb5 c1 HLk
        go_upto_region 12 with fail
        have hx6 : LxAt (w5.setCell ⟨xb, 1, none⟩ (.int .i64 ((x.i : Int) + 1 + 1))) xb s (x.at_ (x.i + 2)) := HX6.out.1
        have hb6 : Below xb w (w5.setCell ⟨xb, 1, none⟩ (.int .i64 ((x.i : Int) + 1 + 1))) := HB6.out
        obtain ⟨w6, hw6⟩ : ∃ w6, w5.setCell ⟨xb, 1, none⟩ (.int .i64 ((x.i : Int) + 1 + 1)) = w6 := ⟨_, rfl⟩
        rw [hw6] at hx6 hb6 ⊢
        have HX7 := Lib.hid hx6
        have HB7 := Lib.hid hb6
        clear hw6 hx6 hb6 HX6 HB6 c0 f1 c1'
        go_wp2_with fail
        refine (token_any xb s (x.at_ (x.i + 2)) 2 (S1 ++ S1) _ HX7.out hl).mono ?_
        rintro e wt ⟨ht, hbt⟩
        rcases ht with ⟨h5, rfl⟩ | ⟨h5, rfl, hxt⟩
        · have h5' : x.out.length = 5000 := h5
          go_wp2
          exact ⟨rfl, .inl ⟨h5', rfl⟩, HB7.out.trans hbt⟩
        · have h5' : x.out.length < 5000 := h5
          have HXT := Lib.hid hxt
          have HBT := Lib.hid (HB7.out.trans hbt)
          clear hxt hbt h5
          go_wp2
          go_ret
          exact ⟨.inr ⟨h5', rfl, HXT.out⟩, HBT.out⟩
  · rw [Bool.not_eq_true] at hop
    have hT2 : T = (S1, x.i + 1) := by have := HT.out; rw [hop] at this; exact this.symm
    subst hT2
    have n59 : ((c.toNat : Int) == 59) = false := by
      have := u8_beq c 59; rw [show ((c.toNat : Int) == 59) = (c == 59) from this]; unfold opB at hop; simp only [Bool.or_eq_false_iff] at hop; exact hop.1
    have n38 : ((c.toNat : Int) == 38) = false := by
      have := u8_beq c 38; rw [show ((c.toNat : Int) == 38) = (c == 38) from this]; unfold opB at hop; simp only [Bool.or_eq_false_iff] at hop; exact hop.2.1
    have n124 : ((c.toNat : Int) == 124) = false := by
      have := u8_beq c 124; rw [show ((c.toNat : Int) == 124) = (c == 124) from this]; unfold opB at hop; simp only [Bool.or_eq_false_iff] at hop; exact hop.2.2.1
    have n62 : ((c.toNat : Int) == 62) = false := by
      have := u8_beq c 62; rw [show ((c.toNat : Int) == 62) = (c == 62) from this]; unfold opB at hop; simp only [Bool.or_eq_false_iff] at hop; exact hop.2.2.2
    clear HT hop
    go_wp2_with fail
    refine (token_any xb s (x.at_ (x.i + 1)) 2 S1 _ HX4.out hl).mono ?_
    rintro e wt ⟨ht, hbt⟩
    rcases ht with ⟨h5, rfl⟩ | ⟨h5, rfl, hxt⟩
    · have h5' : x.out.length = 5000 := h5
      go_wp2
      exact ⟨rfl, .inl ⟨h5', rfl⟩, HB4.out.trans hbt⟩
    · have h5' : x.out.length < 5000 := h5
      have HXT := Lib.hid hxt
      have HBT := Lib.hid (HB4.out.trans hbt)
      clear hxt hbt h5
      go_wp2
      go_ret
      exact ⟨.inr ⟨h5', rfl, HXT.out⟩, HBT.out⟩
end Go.Proofs.YtioddclglemlmaaGreatDoor

/- The lexer's state ahead of a token; conditions: a text of at most 65,536 bytes. -/
namespace Go.Proofs.YtioddclglemlmaaGreatDoor
open Go.RowKit

def fnV (f : Nat) : Value := .func (.func f) #[] #[]
def BtA (xb : Nat) (s : ByteArray) (x : LxS) (k : Nat) (e : Ending) (W' : World) : Prop := match k with
  | 0 => e = .returned (fnV 25) ∧ LxAt W' xb s (x.at_ (x.i + 1))
  | 1 => StA xb s x (3, ⟨#[10]⟩) (x.i + 1) (fnV 25) e W'
  | 2 => e = .returned (fnV 37) ∧ LxAt W' xb s x
  | 3 => e = .returned (fnV 38) ∧ LxAt W' xb s x
  | _ => e = .returned (fnV 39) ∧ LxAt W' xb s x

set_option maxRecDepth 100000 in
set_option maxHeartbeats 1000000 in
theorem between_end (xb : Nat) (s : ByteArray) (x : LxS) (w : World) (h : LxAt w xb s x) (hlt : ¬ x.i < s.size) (hl : x.out.length ≤ 5000) :
    Calls Tryz.prog 25 #[.pointer (some ⟨xb, 0, none⟩)] w fun e w' => StA xb s x (4, ⟨#[]⟩) x.i .nilFunc e w' ∧ Below xb w w' := by
  have HM := Lib.hid (more_any xb s x w h)
  rw [decide_eq_false hlt] at HM
  clear h
  go_enter Tryz.func25, Tryz.ntmps25
  go_wp2_with fail
  refine HM.out.mono ?_
  rintro e w1 ⟨rfl, hx1, hb1⟩
  have HX1 := Lib.hid hx1
  have HB1 := Lib.hid hb1
  clear hx1 hb1
  go_wp2_with fail
  refine (token_any xb s x 4 ⟨#[]⟩ _ HX1.out hl).mono ?_
  rintro e wt ⟨ht, hbt⟩
  rcases ht with ⟨h5, rfl⟩ | ⟨h5, rfl, hxt⟩
  · go_wp2
    exact ⟨rfl, .inl ⟨h5, rfl⟩, HB1.out.trans hbt⟩
  · have HXT := Lib.hid hxt
    have HBT := Lib.hid (HB1.out.trans hbt)
    have h5' := Lib.hid h5
    clear hxt hbt h5
    go_wp2
    go_ret
    exact ⟨.inr ⟨h5'.out, rfl, HXT.out⟩, HBT.out⟩

set_option maxRecDepth 100000 in
set_option maxHeartbeats 4000000 in
theorem between_in (xb : Nat) (s : ByteArray) (x : LxS) (w : World) (h : LxAt w xb s x) (hs : s.size ≤ 70000) (hlt : x.i < s.size) (hl : x.out.length ≤ 5000) :
    Calls Tryz.prog 25 #[.pointer (some ⟨xb, 0, none⟩)] w fun e w' => BtA xb s x (btw (s.get! x.i)) e w' ∧ Below xb w w' := by
  have HM := Lib.hid (more_any xb s x w h)
  rw [decide_eq_true hlt] at HM
  have hb2 := bget s x.i hlt
  obtain ⟨c, hc⟩ : ∃ c, s.get! x.i = c := ⟨_, rfl⟩
  rw [hc] at hb2 ⊢
  have qj : (x.i : Int) < s.size := by omega
  obtain ⟨kk, hkk⟩ : ∃ kk, btw c = kk := ⟨_, rfl⟩
  rw [hkk]
  have HKK := Lib.hid hkk
  clear h hc hkk
  go_enter Tryz.func25, Tryz.ntmps25
  go_wp2_with fail
  refine HM.out.mono ?_
  rintro e w1 ⟨rfl, hx1, hb1⟩
  obtain ⟨c0, c1, f1⟩ := lx_cells hx1
  have HX1 := Lib.hid hx1
  have HB1 := Lib.hid hb1
  clear hx1 hb1 HM
  go_wp2
  go_quiet (fail)
  have hx2 := HX1.out.drewN nq
  obtain ⟨w2, hw2⟩ : ∃ w2, w1.drewN nq = w2 := ⟨_, rfl⟩
  have hb3 := below_drewN HB1.out nq
  rw [hw2] at hx2 hb3 ⊢
  have HX2 := Lib.hid hx2
  have HB2 := Lib.hid hb3
  have HS3 := Lib.hid (lxs_step hx2 hlt)
  clear c0 c1 f1
  obtain ⟨c0, c1, f1⟩ := lx_cells hx2
  clear hx2 hw2 hb3 HX1 HB1
  by_cases h32 : c = 32
  · have hq := h32
    obtain rfl : 0 = kk := by rw [← HKK.out, hq]; rfl
    have n32 : ((c.toNat : Int) == 32) = true := by rw [hq]; rfl
    clear hq
    clear h32
    go_wp2
    go_ret
    exact ⟨⟨rfl, HS3.out.1⟩, HB2.out.trans HS3.out.2⟩
  by_cases h9 : c = 9
  · have hq := h9
    obtain rfl : 0 = kk := by rw [← HKK.out, hq]; rfl
    have n32 : ((c.toNat : Int) == 32) = false := by rw [hq]; rfl
    have n9 : ((c.toNat : Int) == 9) = true := by rw [hq]; rfl
    clear hq
    clear h32 h9
    go_wp2
    go_ret
    exact ⟨⟨rfl, HS3.out.1⟩, HB2.out.trans HS3.out.2⟩
  by_cases h10 : c = 10
  · have hq := h10
    obtain rfl : 1 = kk := by rw [← HKK.out, hq]; rfl
    have n32 : ((c.toNat : Int) == 32) = false := by rw [hq]; rfl
    have n9 : ((c.toNat : Int) == 9) = false := by rw [hq]; rfl
    have n10 : ((c.toNat : Int) == 10) = true := by rw [hq]; rfl
    clear hq
    clear h32 h9 h10
    go_upto_region 19 with fail
    have hx3 := HS3.out.1
    have hb3 := HB2.out.trans HS3.out.2
    obtain ⟨w3, hw3⟩ : ∃ w3, w2.setCell ⟨xb, 1, none⟩ (.int .i64 ((x.i : Int) + 1)) = w3 := ⟨_, rfl⟩
    rw [hw3] at hx3 hb3 ⊢
    have HX3 := Lib.hid hx3
    have HB3 := Lib.hid hb3
    clear hx3 hb3 hw3 HS3 c0 c1 f1
    go_wp2_with fail
    refine (token_any xb s (x.at_ (x.i + 1)) 3 ⟨#[10]⟩ _ HX3.out hl).mono ?_
    rintro e wt ⟨ht, hbt⟩
    rcases ht with ⟨h5, rfl⟩ | ⟨h5, rfl, hxt⟩
    · have h5' := Lib.hid (show x.out.length = 5000 from h5)
      clear h5
      go_wp2
      exact ⟨rfl, .inl ⟨h5'.out, rfl⟩, HB3.out.trans hbt⟩
    · have HXT := Lib.hid hxt
      have HBT := Lib.hid (HB3.out.trans hbt)
      have h5' := Lib.hid (show x.out.length < 5000 from h5)
      clear hxt hbt h5
      go_wp2
      go_ret
      exact ⟨.inr ⟨h5'.out, rfl, HXT.out⟩, HBT.out⟩
  by_cases h35 : c = 35
  · have hq := h35
    obtain rfl : 2 = kk := by rw [← HKK.out, hq]; rfl
    have n32 : ((c.toNat : Int) == 32) = false := by rw [hq]; rfl
    have n9 : ((c.toNat : Int) == 9) = false := by rw [hq]; rfl
    have n10 : ((c.toNat : Int) == 10) = false := by rw [hq]; rfl
    have n35 : ((c.toNat : Int) == 35) = true := by rw [hq]; rfl
    clear hq
    clear h32 h9 h10 h35
    go_wp2
    go_ret
    exact ⟨⟨rfl, HX2.out⟩, HB2.out⟩
  by_cases h59 : c = 59
  · have hq := h59
    obtain rfl : 3 = kk := by rw [← HKK.out, hq]; rfl
    have n32 : ((c.toNat : Int) == 32) = false := by rw [hq]; rfl
    have n9 : ((c.toNat : Int) == 9) = false := by rw [hq]; rfl
    have n10 : ((c.toNat : Int) == 10) = false := by rw [hq]; rfl
    have n35 : ((c.toNat : Int) == 35) = false := by rw [hq]; rfl
    have n59 : ((c.toNat : Int) == 59) = true := by rw [hq]; rfl
    clear hq
    clear h32 h9 h10 h35 h59
    go_wp2
    go_ret
    exact ⟨⟨rfl, HX2.out⟩, HB2.out⟩
  by_cases h38 : c = 38
  · have hq := h38
    obtain rfl : 3 = kk := by rw [← HKK.out, hq]; rfl
    have n32 : ((c.toNat : Int) == 32) = false := by rw [hq]; rfl
    have n9 : ((c.toNat : Int) == 9) = false := by rw [hq]; rfl
    have n10 : ((c.toNat : Int) == 10) = false := by rw [hq]; rfl
    have n35 : ((c.toNat : Int) == 35) = false := by rw [hq]; rfl
    have n59 : ((c.toNat : Int) == 59) = false := by rw [hq]; rfl
    have n38 : ((c.toNat : Int) == 38) = true := by rw [hq]; rfl
    clear hq
    clear h32 h9 h10 h35 h59 h38
    go_wp2
    go_ret
    exact ⟨⟨rfl, HX2.out⟩, HB2.out⟩
  by_cases h124 : c = 124
  · have hq := h124
    obtain rfl : 3 = kk := by rw [← HKK.out, hq]; rfl
    have n32 : ((c.toNat : Int) == 32) = false := by rw [hq]; rfl
    have n9 : ((c.toNat : Int) == 9) = false := by rw [hq]; rfl
    have n10 : ((c.toNat : Int) == 10) = false := by rw [hq]; rfl
    have n35 : ((c.toNat : Int) == 35) = false := by rw [hq]; rfl
    have n59 : ((c.toNat : Int) == 59) = false := by rw [hq]; rfl
    have n38 : ((c.toNat : Int) == 38) = false := by rw [hq]; rfl
    have n124 : ((c.toNat : Int) == 124) = true := by rw [hq]; rfl
    clear hq
    clear h32 h9 h10 h35 h59 h38 h124
    go_wp2
    go_ret
    exact ⟨⟨rfl, HX2.out⟩, HB2.out⟩
  by_cases h40 : c = 40
  · have hq := h40
    obtain rfl : 3 = kk := by rw [← HKK.out, hq]; rfl
    have n32 : ((c.toNat : Int) == 32) = false := by rw [hq]; rfl
    have n9 : ((c.toNat : Int) == 9) = false := by rw [hq]; rfl
    have n10 : ((c.toNat : Int) == 10) = false := by rw [hq]; rfl
    have n35 : ((c.toNat : Int) == 35) = false := by rw [hq]; rfl
    have n59 : ((c.toNat : Int) == 59) = false := by rw [hq]; rfl
    have n38 : ((c.toNat : Int) == 38) = false := by rw [hq]; rfl
    have n124 : ((c.toNat : Int) == 124) = false := by rw [hq]; rfl
    have n40 : ((c.toNat : Int) == 40) = true := by rw [hq]; rfl
    clear hq
    clear h32 h9 h10 h35 h59 h38 h124 h40
    go_wp2
    go_ret
    exact ⟨⟨rfl, HX2.out⟩, HB2.out⟩
  by_cases h41 : c = 41
  · have hq := h41
    obtain rfl : 3 = kk := by rw [← HKK.out, hq]; rfl
    have n32 : ((c.toNat : Int) == 32) = false := by rw [hq]; rfl
    have n9 : ((c.toNat : Int) == 9) = false := by rw [hq]; rfl
    have n10 : ((c.toNat : Int) == 10) = false := by rw [hq]; rfl
    have n35 : ((c.toNat : Int) == 35) = false := by rw [hq]; rfl
    have n59 : ((c.toNat : Int) == 59) = false := by rw [hq]; rfl
    have n38 : ((c.toNat : Int) == 38) = false := by rw [hq]; rfl
    have n124 : ((c.toNat : Int) == 124) = false := by rw [hq]; rfl
    have n40 : ((c.toNat : Int) == 40) = false := by rw [hq]; rfl
    have n41 : ((c.toNat : Int) == 41) = true := by rw [hq]; rfl
    clear hq
    clear h32 h9 h10 h35 h59 h38 h124 h40 h41
    go_wp2
    go_ret
    exact ⟨⟨rfl, HX2.out⟩, HB2.out⟩
  by_cases h60 : c = 60
  · have hq := h60
    obtain rfl : 3 = kk := by rw [← HKK.out, hq]; rfl
    have n32 : ((c.toNat : Int) == 32) = false := by rw [hq]; rfl
    have n9 : ((c.toNat : Int) == 9) = false := by rw [hq]; rfl
    have n10 : ((c.toNat : Int) == 10) = false := by rw [hq]; rfl
    have n35 : ((c.toNat : Int) == 35) = false := by rw [hq]; rfl
    have n59 : ((c.toNat : Int) == 59) = false := by rw [hq]; rfl
    have n38 : ((c.toNat : Int) == 38) = false := by rw [hq]; rfl
    have n124 : ((c.toNat : Int) == 124) = false := by rw [hq]; rfl
    have n40 : ((c.toNat : Int) == 40) = false := by rw [hq]; rfl
    have n41 : ((c.toNat : Int) == 41) = false := by rw [hq]; rfl
    have n60 : ((c.toNat : Int) == 60) = true := by rw [hq]; rfl
    clear hq
    clear h32 h9 h10 h35 h59 h38 h124 h40 h41 h60
    go_wp2
    go_ret
    exact ⟨⟨rfl, HX2.out⟩, HB2.out⟩
  by_cases h62 : c = 62
  · have hq := h62
    obtain rfl : 3 = kk := by rw [← HKK.out, hq]; rfl
    have n32 : ((c.toNat : Int) == 32) = false := by rw [hq]; rfl
    have n9 : ((c.toNat : Int) == 9) = false := by rw [hq]; rfl
    have n10 : ((c.toNat : Int) == 10) = false := by rw [hq]; rfl
    have n35 : ((c.toNat : Int) == 35) = false := by rw [hq]; rfl
    have n59 : ((c.toNat : Int) == 59) = false := by rw [hq]; rfl
    have n38 : ((c.toNat : Int) == 38) = false := by rw [hq]; rfl
    have n124 : ((c.toNat : Int) == 124) = false := by rw [hq]; rfl
    have n40 : ((c.toNat : Int) == 40) = false := by rw [hq]; rfl
    have n41 : ((c.toNat : Int) == 41) = false := by rw [hq]; rfl
    have n60 : ((c.toNat : Int) == 60) = false := by rw [hq]; rfl
    have n62 : ((c.toNat : Int) == 62) = true := by rw [hq]; rfl
    clear hq
    clear h32 h9 h10 h35 h59 h38 h124 h40 h41 h60 h62
    go_wp2
    go_ret
    exact ⟨⟨rfl, HX2.out⟩, HB2.out⟩
  obtain rfl : 4 = kk := by rw [← HKK.out]; unfold btw opsB; simp [h32, h9, h10, h35, h59, h38, h124, h40, h41, h60, h62]
  have n32 : ((c.toNat : Int) == 32) = false := (u8_beq c 32).trans (beq_eq_false_iff_ne.2 h32)
  have n9 : ((c.toNat : Int) == 9) = false := (u8_beq c 9).trans (beq_eq_false_iff_ne.2 h9)
  have n10 : ((c.toNat : Int) == 10) = false := (u8_beq c 10).trans (beq_eq_false_iff_ne.2 h10)
  have n35 : ((c.toNat : Int) == 35) = false := (u8_beq c 35).trans (beq_eq_false_iff_ne.2 h35)
  have n59 : ((c.toNat : Int) == 59) = false := (u8_beq c 59).trans (beq_eq_false_iff_ne.2 h59)
  have n38 : ((c.toNat : Int) == 38) = false := (u8_beq c 38).trans (beq_eq_false_iff_ne.2 h38)
  have n124 : ((c.toNat : Int) == 124) = false := (u8_beq c 124).trans (beq_eq_false_iff_ne.2 h124)
  have n40 : ((c.toNat : Int) == 40) = false := (u8_beq c 40).trans (beq_eq_false_iff_ne.2 h40)
  have n41 : ((c.toNat : Int) == 41) = false := (u8_beq c 41).trans (beq_eq_false_iff_ne.2 h41)
  have n60 : ((c.toNat : Int) == 60) = false := (u8_beq c 60).trans (beq_eq_false_iff_ne.2 h60)
  have n62 : ((c.toNat : Int) == 62) = false := (u8_beq c 62).trans (beq_eq_false_iff_ne.2 h62)
  clear h32 h9 h10 h35 h59 h38 h124 h40 h41 h60 h62
  go_wp2
  go_ret
  exact ⟨⟨rfl, HX2.out⟩, HB2.out⟩
end Go.Proofs.YtioddclglemlmaaGreatDoor
