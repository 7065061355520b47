/- The lexer's next byte, its looks, its tokens, and what it enters; conditions: a text of at most 65,536 bytes. -/
import Derived.Test.YtioddclglemlmaaGreatDoorLexS
import Derived.Deep.Cut
namespace Go.Proofs.YtioddclglemlmaaGreatDoor
open Go.RowKit

set_option maxRecDepth 100000 in
set_option maxHeartbeats 1000000 in
theorem next_any (xb : Nat) (s : ByteArray) (x : LxS) (w : World) (h : LxAt w xb s x) (hs : s.size ≤ 70000) (hlt : x.i < s.size) :
    Calls Tryz.prog 54 #[.pointer (some ⟨xb, 0, none⟩)] w fun e w' => e = .returned (.int .u8 (s.get! x.i).toNat) ∧ LxAt w' xb s { x with i := x.i + 1, word := x.word ++ [s.get! x.i] } ∧ Below xb w w' := by
  obtain ⟨c, hc⟩ : ∃ c, s.get! x.i = c := ⟨_, rfl⟩
  have hb := bget s x.i hlt
  rw [hc] at hb ⊢
  clear hc
  obtain ⟨i, wd, op, out⟩ := x
  have hlen : wd.length ≤ i := h.1.1
  simp only at hlt hb ⊢
  have HM := Lib.hid (more_any xb s ⟨i, wd, op, out⟩ w h)
  simp only [decide_eq_true hlt] at HM
  have qi : (i : Int) < s.size := by omega
  have wi : IntKind.i64.wrap ((i : Int) + 1) = ((i + 1 : Nat) : Int) := by rw [IntWalk.i64_in _ (by omega)]; omega
  obtain ⟨i5, hi, hz0, hz1, hz2⟩ := info_parts Tryz.info5
  clear h
  go_enter Tryz.func54, Tryz.ntmps54
  go_wp2_with fail
  refine HM.out.mono ?_
  rintro e w1 ⟨rfl, hx1, hb1⟩
  have HX1 := Lib.hid hx1
  have HB1 := Lib.hid hb1
  obtain ⟨_, vw, vo, vt, hr, _⟩ := hx1
  obtain ⟨c0, c1, c2, c3, c4, f0, f1, f2, f3, f4⟩ := lx_row hr
  clear hr hb1 HM
  go_wp2
  go_quiet (fail)
  obtain ⟨w2, hw2⟩ : ∃ w2, w1.drewN nq = w2 := ⟨_, rfl⟩
  rw [hw2]
  have hx2 : LxAt w2 xb s ⟨i, wd, op, out⟩ := by rw [← hw2]; exact HX1.out.drewN _
  have HB2 := Lib.hid (show Below xb w w2 from by rw [← hw2]; exact below_drewN HB1.out _)
  clear hw2 c0 c1 c2 c3 c4 f0 f1 f2 f3 f4 HX1 HB1
  obtain ⟨hf, vw, vo, vt, h1, h2, h3, h4, h5⟩ := hx2
  have HX3 := Lib.hid (lx_i hf h1 h2 h3 h4 h5 (i + 1) (by simp) hlt)
  obtain ⟨c0, c1, c2, c3, c4, f0, f1, f2, f3, f4⟩ := lx_row h1
  clear h1 h2 h3 h4 h5 hf
  go_upto_region 5 with fail
  obtain ⟨w3, hw3⟩ : ∃ w3, w2.setCell ⟨xb, 1, none⟩ (.int .i64 ((i : Int) + 1)) = w3 := ⟨_, rfl⟩
  have hx3 := HX3.out
  rw [show ((i + 1 : Nat) : Int) = (i : Int) + 1 by omega, hw3] at hx3
  rw [hw3]
  have HB3 := Lib.hid (HB2.out.trans hx3.2)
  obtain ⟨hf, vw, vo, vt, h1, h2, h3, h4, h5⟩ := hx3.1
  obtain ⟨Aw, cw, rfl, _, _⟩ := h2.form
  clear hw3 hx3 HX3 HB2 c0 c1 c2 c3 c4 f0 f1 f2 f3 f4
  obtain ⟨c0, c1, c2, c3, c4, f0, f1, f2, f3, f4⟩ := lx_row h1
  have hlt3 := lt_of_block h1
  have hwl := hf.1
  simp only at c1 c2 hwl
  have HR := Lib.hid h1
  have HW := Lib.hid h2
  have HX := Lib.hid fun (wz : World) (v' : Value) (hg : Grew w3 wz (.slice Aw wd.length cw) v') (h6 : OwnG wz xb 5 1 v' (wd.length + 1) (u8s wd ++ [.int .u8 c.toNat])) => lxs_word hf h1 h2 h3 h4 h5 hg (wd ++ [c]) (by have := hlen; simp; omega) (by rw [u8s_app]; simpa [u8s] using h6)
  clear h1 h2 h3 h4 h5 hf
  go_wp2_with (at_builtin; refine wpList_append_G _ rfl _ _ 75 rfl xb 5 i5 (.int .u8 0) 1 1 Tryz.underlying75 hi hz0 hz1 hz2 rfl (.slice Aw wd.length cw) wd.length (u8s wd) rfl (HW.out.below ((Below.refl _ _).alloc (Nat.le_refl _) _)) ⟨_, 0, none⟩ 1 1 [.int .u8 c.toNat] rfl rfl (cell_one_new _ _ _) (by simp [Value.oneCell']) (by decide) (by unfold maxLen; omega) (by omega) (by simp; omega) ?_; intro g cap w4 hown hgrow hnew hglt; have HG := Lib.hid (Grew.of (n := wd.length + 1) (cap := cap) hgrow hnew); have hc3 := (HG.out.block xb hlt3 (HW.out.ne_row HR.out (by decide))).trans HR.out; have hk3 := (lx_row hc3).2.2.1; have hf3 := frozen_of_row w4 _ 2 _ _ hc3; have HO := Lib.hid hown; clear hown hgrow hnew hc3)
  go_ret
  exact ⟨rfl, (HX.out w4 _ HG.out HO.out).1, HB3.out.trans (HX.out w4 _ HG.out HO.out).2⟩

set_option maxRecDepth 100000 in
theorem next_end (xb : Nat) (s : ByteArray) (x : LxS) (w : World) (h : LxAt w xb s x) (hlt : ¬ x.i < s.size) :
    Calls Tryz.prog 54 #[.pointer (some ⟨xb, 0, none⟩)] w fun e w' => e = .panicked (stopV 30) ∧ Below xb w w' := by
  have HM := Lib.hid (more_any xb s x w h)
  simp only [decide_eq_false hlt] at HM
  clear h
  go_enter Tryz.func54, Tryz.ntmps54
  go_wp2_with fail
  refine HM.out.mono ?_
  rintro e w1 ⟨rfl, hx1, hb1⟩
  go_wp2_with fail
  refine (fail_any _ _ _).mono ?_
  rintro e w2 ⟨rfl, hw2⟩
  obtain rfl := hw2.symm
  go_wp2
  exact ⟨rfl, rfl, hb1⟩

set_option maxRecDepth 100000 in
theorem looks_q (xb : Nat) (s : ByteArray) (x : LxS) (c : UInt8) (w : World) (h : LxAt w xb s x) :
    Calls Tryz.prog 52 #[.pointer (some ⟨xb, 0, none⟩), .int .u8 c.toNat] w fun e w' => e = .returned (.bool (decide (x.i < s.size) && s.get! x.i == c)) ∧ ∃ m, w' = w.drewN m := by
  have HM := Lib.hid fun n => more_q xb s x (w.drewN n) (h.drewN n)
  obtain ⟨_, vw, vo, vt, h1, _⟩ := id h
  obtain ⟨c0, c1, c2, c3, c4, f0, f1, f2, f3, f4⟩ := lx_row h1
  clear h h1
  obtain ⟨i, wd, op, out⟩ := x
  simp only at HM c1 ⊢
  by_cases hlt : i < s.size
  · rw [decide_eq_true hlt] at HM ⊢
    have hb := bget s i hlt
    obtain ⟨d, hd⟩ : ∃ d, s.get! i = d := ⟨_, rfl⟩
    rw [hd] at hb ⊢
    have qi : (i : Int) < s.size := by omega
    have hE : Hid ((((d.toNat : Int) == (c.toNat : Int)) : Bool) = (d == c)) := by
      unfold Hid
      by_cases e : d = c
      · subst e; simp
      · rw [beq_eq_false_iff_ne.2 e, beq_eq_false_iff_ne.2]
        intro e2; exact e (UInt8.toNat_inj.1 (by omega))
    clear hd
    go_enter Tryz.func52, Tryz.ntmps52
    go_wp2
    go_quiet (first | (go_at_call 35; exact Calls.quiet_of (HM.out _)) | fail)
    go_wp2
    go_ret
    exact ⟨ret_bool (by rw [Bool.true_and]; exact hE.out), _, rfl⟩
  · rw [decide_eq_false hlt] at HM ⊢
    go_enter Tryz.func52, Tryz.ntmps52
    go_wp2
    go_quiet (first | (go_at_call 35; exact Calls.quiet_of (HM.out _)) | fail)
    go_wp2
    go_ret
    exact ⟨rfl, _, rfl⟩
theorem looks_any (xb : Nat) (s : ByteArray) (x : LxS) (c : UInt8) (w : World) (h : LxAt w xb s x) :
    Calls Tryz.prog 52 #[.pointer (some ⟨xb, 0, none⟩), .int .u8 c.toNat] w fun e w' => e = .returned (.bool (decide (x.i < s.size) && s.get! x.i == c)) ∧ LxAt w' xb s x ∧ Below xb w w' :=
  (looks_q xb s x c w h).mono fun _ _ k => lx_quiet (P := fun e => e = _) h k

set_option maxRecDepth 100000 in
theorem enter_any (xb : Nat) (s : ByteArray) (x : LxS) (c : UInt8) (w : World) (h : LxAt w xb s x) (hl : x.op.length ≤ 60) :
    Calls Tryz.prog 65 #[.pointer (some ⟨xb, 0, none⟩), .int .u8 c.toNat] w fun e w' => (x.op.length = 60 ∧ e = .panicked (stopV 42) ∨ x.op.length < 60 ∧ e = .returned (.tuple #[]) ∧ LxAt w' xb s { x with op := x.op ++ [c] }) ∧ Below xb w w' := by
  have HP := Lib.hid (push_any xb s x c w h hl)
  clear h
  by_cases h60 : x.op.length = 60
  · go_enter Tryz.func65, Tryz.ntmps65
    go_wp2_with fail
    refine HP.out.mono ?_
    rintro e w1 ⟨rfl, hx1, hb1⟩
    obtain ⟨_, vw, vo, vt, h1, _, h3, _⟩ := id hx1
    obtain ⟨Ao, co, rfl, hc1, hc2⟩ := h3.form
    obtain ⟨c0, c1, c2, c3, c4, f0, f1, f2, f3, f4⟩ := lx_row h1
    have e61 : (x.op ++ [c]).length = 61 := by simp; omega
    simp only [e61] at c3
    clear h1 h3 hx1
    go_wp2_with fail
    refine (fail_any _ _ _).mono ?_
    rintro e w2 ⟨rfl, hw2⟩
    obtain rfl := hw2.symm
    go_wp2
    exact ⟨rfl, .inl ⟨h60, rfl⟩, hb1⟩
  · go_enter Tryz.func65, Tryz.ntmps65
    go_wp2_with fail
    refine HP.out.mono ?_
    rintro e w1 ⟨rfl, hx1, hb1⟩
    have HX1 := Lib.hid hx1
    obtain ⟨_, vw, vo, vt, h1, _, h3, _⟩ := id hx1
    obtain ⟨Ao, co, rfl, hc1, hc2⟩ := h3.form
    obtain ⟨c0, c1, c2, c3, c4, f0, f1, f2, f3, f4⟩ := lx_row h1
    obtain ⟨n, hn⟩ : ∃ n, (x.op ++ [c]).length = n := ⟨_, rfl⟩
    have hn1 : n = x.op.length + 1 := by rw [← hn]; simp
    simp only [hn] at c3
    have hn2 : ¬ (60 : Int) < n := by omega
    have hn3 : x.op.length < 60 := by omega
    clear h1 h3 hx1 hc1 hn hn1
    go_wp2
    first | go_end0 | refine bodyPost_ret (results_none rfl _ _ _) rfl ?_
    exact ⟨.inr ⟨hn3, rfl, HX1.out⟩, hb1⟩
end Go.Proofs.YtioddclglemlmaaGreatDoor
