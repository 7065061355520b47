/- The lexer's tokens, comments, operators; conditions: a text of at most 65,536 bytes. -/
import Derived.Test.YtioddclglemlmaaDoorLexL
namespace Go.Proofs.YtioddclglemlmaaDoor
open Go.RowKit

/-- a token is told, or there are too many -/
def TokA (xb : Nat) (s : ByteArray) (x : Lx) (k : Int) (t : ByteArray) (e : Ending) (W' : World) : Prop := x.out.length = 5000 ∧ e = .panicked (stopV 2) ∨ x.out.length < 5000 ∧ e = .returned (.tuple #[]) ∧ LxAt W' xb s { x with out := x.out ++ [(k, t)] }
set_option maxRecDepth 100000 in
set_option maxHeartbeats 1000000 in
theorem token_any (xb : Nat) (s : ByteArray) (x : Lx) (k : Int) (t : ByteArray) (w : World) (h : LxAt w xb s x) (hl : x.out.length ≤ 5000) :
    Calls Tryd.prog 14 #[.pointer (some ⟨xb, 0, none⟩), .int .i64 k, .string t] w fun e w' => TokA xb s x k t e w' ∧ Below xb w w' := by
  obtain ⟨hf, vw, vo, vt, h1, h2, h3, h4, h5⟩ := h
  obtain ⟨At, ct, rfl, _, _⟩ := h4.form
  obtain ⟨c0, c1, c2, c3, c4, f0, f1, f2, f3, f4⟩ := lx_row h1
  have hlt := lt_of_block h1
  obtain ⟨i29, hi, hz0, hz1, hz2⟩ := info_parts Tryd.info29
  obtain ⟨n, hn⟩ : ∃ n, x.out.length = n := ⟨_, rfl⟩
  have H1 := Lib.hid h1
  have H4 := Lib.hid h4
  have HX := Lib.hid fun (w1 : World) (v' : Value) (hg : Grew w w1 (.slice At x.out.length ct) v') (h6 : OwnG w1 xb 29 2 v' (x.out.length + 1) (tokV x.out ++ [.int .i64 k, .string t])) => lx_out hf h1 h2 h3 h4 h5 hg (x.out ++ [(k, t)]) (by simp; omega) (by rw [tokV_app]; simpa [tokV] using h6)
  have HN := Lib.hid hn
  rw [hn] at c4 hl H4 HX H1
  clear h1 h2 h3 h4 h5 hf hn
  by_cases h5k : n = 5000
  · subst h5k
    go_enter Tryd.func14, Tryd.ntmps14
    go_wp2_with (first | (at_builtin; refine wpList_append_G _ rfl _ _ 23 rfl xb 29 i29 (.agg #[.int .i64 0, .string ⟨#[]⟩]) 2 24 Tryd.underlying23 hi hz0 hz1 hz2 rfl (.slice At 5000 ct) 5000 (tokV x.out) rfl (H4.out.below ((Below.refl _ _).alloc (Nat.le_refl _) _)) ⟨_, 0, none⟩ 1 1 [.int .i64 k, .string t] rfl rfl (cell_two_new _ _ _ _) (by simp [Value.oneCell']) (by decide) (by decide) (by decide) (by simp; omega) ?_; intro g cap w1 hown hgrow hnew hglt; have HG := Lib.hid (Grew.of (n := 5001) (cap := cap) hgrow hnew); have hc3 := (HG.out.block xb hlt (H4.out.ne_row H1.out (by decide))).trans H1.out; have hk3 := (lx_row hc3).2.2.2.2.1; have hf3 := frozen_of_row w1 _ 4 _ _ hc3; have HO := Lib.hid hown; clear hown hgrow hnew hc3) | fail)
    refine (fail_any _ _ _).mono ?_
    rintro e w2 ⟨rfl, hw2⟩
    obtain rfl := hw2.symm
    go_wp2
    exact ⟨rfl, .inl ⟨HN.out, rfl⟩, (HX.out w1 _ HG.out HO.out).2⟩
  · have hlt5 : n < 5000 := by omega
    have q : ¬ (5000 : Int) < (n : Int) + 1 := by omega
    go_enter Tryd.func14, Tryd.ntmps14
    go_wp2_with (first | (at_builtin; refine wpList_append_G _ rfl _ _ 23 rfl xb 29 i29 (.agg #[.int .i64 0, .string ⟨#[]⟩]) 2 24 Tryd.underlying23 hi hz0 hz1 hz2 rfl (.slice At n ct) n (tokV x.out) rfl (H4.out.below ((Below.refl _ _).alloc (Nat.le_refl _) _)) ⟨_, 0, none⟩ 1 1 [.int .i64 k, .string t] rfl rfl (cell_two_new _ _ _ _) (by simp [Value.oneCell']) (by decide) (by unfold maxLen; omega) (by omega) (by simp; omega) ?_; intro g cap w1 hown hgrow hnew hglt; have HG := Lib.hid (Grew.of (n := n + 1) (cap := cap) hgrow hnew); have hc3 := (HG.out.block xb hlt (H4.out.ne_row H1.out (by decide))).trans H1.out; have hk3 := (lx_row hc3).2.2.2.2.1; have hf3 := frozen_of_row w1 _ 4 _ _ hc3; have HO := Lib.hid hown; clear hown hgrow hnew hc3) | fail)
    first | go_end0 | refine bodyPost_ret (results_none rfl _ _ _) rfl ?_
    exact ⟨.inr ⟨by rw [HN.out]; exact hlt5, rfl, (HX.out w1 _ HG.out HO.out).1⟩, (HX.out w1 _ HG.out HO.out).2⟩
end Go.Proofs.YtioddclglemlmaaDoor
