/- LinesOn answers true at every number, word and kind; condition: a word that lies in memory. -/
import Derived.Test.YtndoloohdloflabDoorOnP
namespace Go.Proofs.YtndoloohdloflabDoor
open Go.RowKit

theorem strsAt_own {W : World} {base n c : Nat} {A : Option Addr} {xs : List ByteArray} (h : OwnG W base 9 1 (.slice A n c) n (xs.map .string)) : StrsAt W A xs := by
  rcases h.2 with ⟨h2, h3⟩ | ⟨g, cap, cur, h3, hb, hg, hn, hm, hs, ht⟩
  · have hl := h.1
    subst h3
    intro j x hx
    have : xs = [] := by
      rw [List.length_map] at hl
      exact List.eq_nil_of_length_eq_zero (by omega)
    subst this
    simp at hx
  · injection h3 with h4 h5 h6
    subst h4
    intro j x hx
    exact ⟨g, 0, rfl, by rw [Nat.zero_add]; exact h.cells j (.string x) (by rw [List.getElem?_map, hx]; rfl)⟩
theorem appd_below {w0 w w1 : World} {base : Nat} {v : Value} {n : Nat} {xs : List Value} {o : Obj} (hb : Below base w0 w) (hbs : base ≤ w.heap.size) (HO : OwnG (w.alloc o) base 9 1 v n xs) (hg : (w.alloc o).grownBy w1 v.ownBlock) : Below base w0 w1 :=
  (hb.alloc hbs o).grown hg (by simp; omega) (fun j hj => (HO.block_lt j hj).1)
def spec (c : UInt8) : Bool := c == 32 || c == 9 || c == 10 || c == 92 || c == 35
theorem good_of {w : ByteArray} (h0 : w.toList.isEmpty = false) (h : ∀ c ∈ w.data.toList, spec c = false) : Good w := by
  refine ⟨fun e => ?_, fun c hc => ?_, fun c hc e => ?_, fun c hc e => ?_⟩
  · rw [ba_toList, e] at h0; cases h0
  · have := h c hc; unfold spec at this; unfold bl
    simp only [Bool.or_eq_false_iff] at this ⊢
    exact this.1.1
  · subst e; have := h 92 hc; revert this; decide
  · subst e; have := h 35 hc; revert this; decide
theorem want_size (rc : Bool) (w : ByteArray) : ∀ k, (wantB rc w k).size ≤ k * (w.size + 2) := by
  intro k
  induction k with
  | zero => simp only [wantB]; exact Nat.zero_le _
  | succ k ih =>
    rw [wantB, Nat.succ_mul]
    have h2 : (⟨#[92, 10]⟩ : ByteArray).size = 2 := rfl
    have h1 : (⟨#[32]⟩ : ByteArray).size = 1 := rfl
    by_cases hk : k = 0
    · rw [if_pos hk, ByteArray.size_append]; omega
    · rw [if_neg hk]
      cases rc
      · simp only [Bool.false_eq_true, if_false, ByteArray.size_append]; omega
      · simp only [if_true, ByteArray.size_append]; omega
theorem linesB_snoc (rc : Bool) (w : ByteArray) (n k : Nat) : linesB rc w n (k + 1) = linesB rc w n k ++ [pieceB rc w (decide (k + 1 < n))] := by
  unfold linesB; rw [List.range_succ, List.map_append]; rfl
theorem linesB_len (rc : Bool) (w : ByteArray) (n k : Nat) : (linesB rc w n k).length = k := by simp [linesB]
theorem piece_size (rc : Bool) (w : ByteArray) (b : Bool) : (pieceB rc w b).size ≤ w.size + 5 := by
  have h1 : (⟨#[92]⟩ : ByteArray).size = 1 := rfl
  have h2 : (⟨#[9]⟩ : ByteArray).size = 1 := rfl
  have h3 : (⟨#[32, 32]⟩ : ByteArray).size = 2 := rfl
  have h4 : (⟨#[32, 9]⟩ : ByteArray).size = 2 := rfl
  cases rc <;> cases b <;> simp only [pieceB, baseB, Bool.false_eq_true, if_false, if_true, ByteArray.size_append] <;> omega
theorem linesB_total (rc : Bool) (w : ByteArray) (n : Nat) : ∀ k, total (linesB rc w n k) ≤ k * (w.size + 7) := by
  intro k
  induction k with
  | zero => simp [linesB, total]
  | succ k ih =>
    rw [linesB_snoc, Nat.succ_mul]
    have := piece_size rc w (decide (k + 1 < n))
    unfold total at ih ⊢
    simp only [List.map_append, List.sum_append, List.map_cons, List.map_nil, List.sum_cons, List.sum_nil]
    omega

set_option maxRecDepth 100000 in
set_option maxHeartbeats 4000000 in
theorem LinesOn_walk (n : Int) (word : ByteArray) (rc : Bool) (w : World) (_ : word.size ≤ 140737488351232) (hn1 : -9223372036854775808 ≤ n) (hn2 : n ≤ 9223372036854775807) :
    Calls Tryd.prog 3 #[.int .i64 n, .string word, .bool rc] w fun e w' => e = .returned (.bool true) ∧ Below w.heap.size w w' := by
  obtain ⟨i0, hi, hz0, hz1, hz2⟩ := info_parts Tryd.info9
  have HA := Lib.hid alive_any
  by_cases h1 : n < 1
  · go_enter Tryd.func3, Tryd.ntmps3
    go_wp2_with fail
    refine (HA.out _).mono ?_
    rintro e w1 ⟨rfl, hb1⟩
    go_wp2
    go_ret
    exact ⟨rfl, hb1⟩
  by_cases h2 : 40 < n
  · go_enter Tryd.func3, Tryd.ntmps3
    go_wp2_with fail
    refine (HA.out _).mono ?_
    rintro e w1 ⟨rfl, hb1⟩
    go_wp2
    go_ret
    exact ⟨rfl, hb1⟩
  by_cases h3 : (50 : Int) < word.size
  · go_enter Tryd.func3, Tryd.ntmps3
    go_wp2_with fail
    refine (HA.out _).mono ?_
    rintro e w1 ⟨rfl, hb1⟩
    go_wp2
    go_ret
    exact ⟨rfl, hb1⟩
  cases h4 : word.toList.isEmpty
  · obtain ⟨N, rfl⟩ : ∃ N : Nat, n = (N : Int) := ⟨n.toNat, by omega⟩
    go_enter Tryd.func3, Tryd.ntmps3
    go_wp2_with fail
    refine (HA.out _).mono ?_
    rintro e w1 ⟨rfl, hb1⟩
    go_wp2
    have hb1s := hb1.size
    have H4 := Lib.hid h4
    clear h4
    go_loopw [8] (fun i wi => ∃ k : Nat, i = .int .i64 k ∧ k ≤ word.size ∧ wi = w1 ∧ Hid (∀ c ∈ word.data.toList.take k, spec c = false)) (fun i _ => word.size - (intOf i).toNat)
    case atStart => exact ⟨0, rfl, Nat.zero_le _, rfl, fun c hc => by simp at hc⟩
    case round =>
      obtain ⟨k, rfl, hk, rfl, hsp⟩ := hrel
      by_cases hlt : k < word.size
      · have q1 : (k : Int) < word.size := by omega
        obtain ⟨x, hx⟩ : ∃ x, word[k] = x := ⟨_, rfl⟩
        cases hq : spec x
        · have hx1 : ¬ x = 32 := fun e => by subst e; revert hq; decide
          have hx2 : ¬ x = 9 := fun e => by subst e; revert hq; decide
          have hx3 : ¬ x = 10 := fun e => by subst e; revert hq; decide
          have hx4 : ¬ x = 92 := fun e => by subst e; revert hq; decide
          have hx5 : ¬ x = 35 := fun e => by subst e; revert hq; decide
          have n1 : ((x.toNat : Int) == 32) = false := by rw [beq_eq_false_iff_ne]; intro h; exact hx1 (UInt8.toNat_inj.1 (by show x.toNat = 32; omega))
          have n2 : ((x.toNat : Int) == 9) = false := by rw [beq_eq_false_iff_ne]; intro h; exact hx2 (UInt8.toNat_inj.1 (by show x.toNat = 9; omega))
          have n3 : ((x.toNat : Int) == 10) = false := by rw [beq_eq_false_iff_ne]; intro h; exact hx3 (UInt8.toNat_inj.1 (by show x.toNat = 10; omega))
          have n4 : ((x.toNat : Int) == 92) = false := by rw [beq_eq_false_iff_ne]; intro h; exact hx4 (UInt8.toNat_inj.1 (by show x.toNat = 92; omega))
          have n5 : ((x.toNat : Int) == 35) = false := by rw [beq_eq_false_iff_ne]; intro h; exact hx5 (UInt8.toNat_inj.1 (by show x.toNat = 35; omega))
          have HSP : Hid (∀ c ∈ word.data.toList.take (k + 1), spec c = false) := by
            intro c hc
            rw [take_snoc word k hlt, hx] at hc
            rcases List.mem_append.1 hc with h | h
            · exact hsp c h
            · rw [List.mem_singleton.1 h]; exact hq
          clear hsp hq hx1 hx2 hx3 hx4 hx5
          go_wp2
          exact ⟨⟨k + 1, by go_num, by omega, by trivial, HSP⟩, by simp [intOf]; omega⟩
        · have hz : (x.toNat : Int) = 32 ∨ (x.toNat : Int) = 9 ∨ (x.toNat : Int) = 10 ∨ (x.toNat : Int) = 92 ∨ (x.toNat : Int) = 35 := by
            unfold spec at hq
            simp only [Bool.or_eq_true, beq_iff_eq] at hq
            rcases hq with (((h | h) | h) | h) | h <;> subst h <;> simp
          clear hq hsp
          rcases hz with h | h | h | h | h
          all_goals
            go_wp2
            go_ret
            exact ⟨rfl, hb1⟩
      · obtain rfl : k = word.size := by omega
        have HGD : Hid (Good word) := good_of H4.out (by have := hsp; rw [Hid, List.take_of_length_le (by simp)] at this; exact this)
        clear hsp hlt
        go_wp2
        go_loopw [10, 11, 12] (fun v want iv wi => ∃ k : Nat, iv = .int .i64 k ∧ k ≤ N ∧ want = .string (wantB rc word k) ∧ OwnG wi w.heap.size 9 1 v k ((linesB rc word N k).map Value.string) ∧ Below w.heap.size w wi) (fun _ _ iv _ => N - (intOf iv).toNat)
        case atStart => exact ⟨0, rfl, Nat.zero_le _, rfl, OwnG.nil _ _ _ _, hb1⟩
        case round =>
          obtain ⟨k, rfl, hkN, rfl, hown, hbel⟩ := hrel
          have hsz := hbel.size
          obtain ⟨A, c, rfl, hc1, hc2⟩ := hown.form
          obtain ⟨Wt, hW⟩ : ∃ Wt, wantB rc word k = Wt := ⟨_, rfl⟩
          have hws : Wt.size ≤ 2080 := by
            rw [← hW]
            refine Nat.le_trans (want_size rc word k) (Nat.le_trans (Nat.mul_le_mul (show k ≤ 40 by omega) (show word.size + 2 ≤ 52 by omega)) (by decide))
          rw [hW]
          by_cases hkl : k < N
          · have q1 : (k : Int) < N := by omega
            have HO := Lib.hid fun o => hown.below ((Below.refl _ wr).alloc (Nat.le_refl _) o)
            clear hown
            cases rc
            · by_cases hlast : k + 1 < N
              · have q2 : (k : Int) + 1 < N := by omega
                by_cases hk0 : k = 0
                · have HPC : Hid (pieceB false word (decide (k + 1 < N)) = (⟨#[32, 32]⟩ ++ word ++ ⟨#[32, 9]⟩) ++ ⟨#[92]⟩) := by unfold Hid; rw [decide_eq_true hlast]; rfl
                  have HWN : Hid (wantB false word (k + 1) = Wt ++ word) := by unfold Hid; rw [wantB, if_pos hk0, hW]
                  obtain rfl := hk0
                  clear hW
                  go_wp2_with (at_builtin; refine wpList_append_G _ rfl _ _ 23 rfl w.heap.size 9 i0 (.string ⟨#[]⟩) 1 16 Tryd.underlying23 hi hz0 hz1 hz2 rfl (.slice A 0 c) 0 ((linesB false word N 0).map Value.string) rfl (HO.out _) ⟨wr.heap.size, 0, none⟩ 1 1 [.string _] rfl rfl (cell_one_new _ _ _) (by simp [Value.oneCell']) (by omega) (by unfold maxLen; omega) (by omega) (by simp; omega) ?_; intro g cap w2 hown1 hgrow1 hat hlt1; have HG1 := Lib.hid (appd_below hbel hsz (HO.out _) hgrow1); have HO1 := Lib.hid hown1; clear hown1 hgrow1 hat)
                  exact ⟨⟨0 + 1, by go_num, by omega, by rw [HWN.out], by rw [linesB_snoc, HPC.out, List.map_append]; exact HO1.out, HG1.out⟩, by simp [intOf]; omega⟩
                · have HPC : Hid (pieceB false word (decide (k + 1 < N)) = (⟨#[32, 32]⟩ ++ word ++ ⟨#[32, 9]⟩) ++ ⟨#[92]⟩) := by unfold Hid; rw [decide_eq_true hlast]; rfl
                  have HWN : Hid (wantB false word (k + 1) = Wt ++ ⟨#[32]⟩ ++ word) := by unfold Hid; rw [wantB, if_neg hk0, hW]; rfl
                  have hk1 : (0 : Int) < k := by omega
                  clear hW
                  go_wp2_with (at_builtin; refine wpList_append_G _ rfl _ _ 23 rfl w.heap.size 9 i0 (.string ⟨#[]⟩) 1 16 Tryd.underlying23 hi hz0 hz1 hz2 rfl (.slice A k c) k ((linesB false word N k).map Value.string) rfl (HO.out _) ⟨wr.heap.size, 0, none⟩ 1 1 [.string _] rfl rfl (cell_one_new _ _ _) (by simp [Value.oneCell']) (by omega) (by unfold maxLen; omega) (by omega) (by simp; omega) ?_; intro g cap w2 hown1 hgrow1 hat hlt1; have HG1 := Lib.hid (appd_below hbel hsz (HO.out _) hgrow1); have HO1 := Lib.hid hown1; clear hown1 hgrow1 hat)
                  exact ⟨⟨k + 1, by go_num, by omega, by rw [HWN.out], by rw [linesB_snoc, HPC.out, List.map_append]; exact HO1.out, HG1.out⟩, by simp [intOf]; omega⟩
              · have q2 : ¬ ((k : Int) + 1 < N) := by omega
                by_cases hk0 : k = 0
                · have HPC : Hid (pieceB false word (decide (k + 1 < N)) = (⟨#[32, 32]⟩ ++ word ++ ⟨#[32, 9]⟩)) := by unfold Hid; rw [decide_eq_false hlast]; rfl
                  have HWN : Hid (wantB false word (k + 1) = Wt ++ word) := by unfold Hid; rw [wantB, if_pos hk0, hW]
                  obtain rfl := hk0
                  clear hW
                  go_wp2_with (at_builtin; refine wpList_append_G _ rfl _ _ 23 rfl w.heap.size 9 i0 (.string ⟨#[]⟩) 1 16 Tryd.underlying23 hi hz0 hz1 hz2 rfl (.slice A 0 c) 0 ((linesB false word N 0).map Value.string) rfl (HO.out _) ⟨wr.heap.size, 0, none⟩ 1 1 [.string _] rfl rfl (cell_one_new _ _ _) (by simp [Value.oneCell']) (by omega) (by unfold maxLen; omega) (by omega) (by simp; omega) ?_; intro g cap w2 hown1 hgrow1 hat hlt1; have HG1 := Lib.hid (appd_below hbel hsz (HO.out _) hgrow1); have HO1 := Lib.hid hown1; clear hown1 hgrow1 hat)
                  exact ⟨⟨0 + 1, by go_num, by omega, by rw [HWN.out], by rw [linesB_snoc, HPC.out, List.map_append]; exact HO1.out, HG1.out⟩, by simp [intOf]; omega⟩
                · have HPC : Hid (pieceB false word (decide (k + 1 < N)) = (⟨#[32, 32]⟩ ++ word ++ ⟨#[32, 9]⟩)) := by unfold Hid; rw [decide_eq_false hlast]; rfl
                  have HWN : Hid (wantB false word (k + 1) = Wt ++ ⟨#[32]⟩ ++ word) := by unfold Hid; rw [wantB, if_neg hk0, hW]; rfl
                  have hk1 : (0 : Int) < k := by omega
                  clear hW
                  go_wp2_with (at_builtin; refine wpList_append_G _ rfl _ _ 23 rfl w.heap.size 9 i0 (.string ⟨#[]⟩) 1 16 Tryd.underlying23 hi hz0 hz1 hz2 rfl (.slice A k c) k ((linesB false word N k).map Value.string) rfl (HO.out _) ⟨wr.heap.size, 0, none⟩ 1 1 [.string _] rfl rfl (cell_one_new _ _ _) (by simp [Value.oneCell']) (by omega) (by unfold maxLen; omega) (by omega) (by simp; omega) ?_; intro g cap w2 hown1 hgrow1 hat hlt1; have HG1 := Lib.hid (appd_below hbel hsz (HO.out _) hgrow1); have HO1 := Lib.hid hown1; clear hown1 hgrow1 hat)
                  exact ⟨⟨k + 1, by go_num, by omega, by rw [HWN.out], by rw [linesB_snoc, HPC.out, List.map_append]; exact HO1.out, HG1.out⟩, by simp [intOf]; omega⟩
            · by_cases hlast : k + 1 < N
              · have q2 : (k : Int) + 1 < N := by omega
                by_cases hk0 : k = 0
                · have HPC : Hid (pieceB true word (decide (k + 1 < N)) = (⟨#[9]⟩ ++ word) ++ ⟨#[92]⟩) := by unfold Hid; rw [decide_eq_true hlast]; rfl
                  have HWN : Hid (wantB true word (k + 1) = Wt ++ word) := by unfold Hid; rw [wantB, if_pos hk0, hW]
                  obtain rfl := hk0
                  clear hW
                  go_wp2_with (at_builtin; refine wpList_append_G _ rfl _ _ 23 rfl w.heap.size 9 i0 (.string ⟨#[]⟩) 1 16 Tryd.underlying23 hi hz0 hz1 hz2 rfl (.slice A 0 c) 0 ((linesB true word N 0).map Value.string) rfl (HO.out _) ⟨wr.heap.size, 0, none⟩ 1 1 [.string _] rfl rfl (cell_one_new _ _ _) (by simp [Value.oneCell']) (by omega) (by unfold maxLen; omega) (by omega) (by simp; omega) ?_; intro g cap w2 hown1 hgrow1 hat hlt1; have HG1 := Lib.hid (appd_below hbel hsz (HO.out _) hgrow1); have HO1 := Lib.hid hown1; clear hown1 hgrow1 hat)
                  exact ⟨⟨0 + 1, by go_num, by omega, by rw [HWN.out], by rw [linesB_snoc, HPC.out, List.map_append]; exact HO1.out, HG1.out⟩, by simp [intOf]; omega⟩
                · have HPC : Hid (pieceB true word (decide (k + 1 < N)) = (⟨#[9]⟩ ++ word) ++ ⟨#[92]⟩) := by unfold Hid; rw [decide_eq_true hlast]; rfl
                  have HWN : Hid (wantB true word (k + 1) = Wt ++ ⟨#[92, 10]⟩ ++ word) := by unfold Hid; rw [wantB, if_neg hk0, hW]; rfl
                  have hk1 : (0 : Int) < k := by omega
                  clear hW
                  go_wp2_with (at_builtin; refine wpList_append_G _ rfl _ _ 23 rfl w.heap.size 9 i0 (.string ⟨#[]⟩) 1 16 Tryd.underlying23 hi hz0 hz1 hz2 rfl (.slice A k c) k ((linesB true word N k).map Value.string) rfl (HO.out _) ⟨wr.heap.size, 0, none⟩ 1 1 [.string _] rfl rfl (cell_one_new _ _ _) (by simp [Value.oneCell']) (by omega) (by unfold maxLen; omega) (by omega) (by simp; omega) ?_; intro g cap w2 hown1 hgrow1 hat hlt1; have HG1 := Lib.hid (appd_below hbel hsz (HO.out _) hgrow1); have HO1 := Lib.hid hown1; clear hown1 hgrow1 hat)
                  exact ⟨⟨k + 1, by go_num, by omega, by rw [HWN.out], by rw [linesB_snoc, HPC.out, List.map_append]; exact HO1.out, HG1.out⟩, by simp [intOf]; omega⟩
              · have q2 : ¬ ((k : Int) + 1 < N) := by omega
                by_cases hk0 : k = 0
                · have HPC : Hid (pieceB true word (decide (k + 1 < N)) = (⟨#[9]⟩ ++ word)) := by unfold Hid; rw [decide_eq_false hlast]; rfl
                  have HWN : Hid (wantB true word (k + 1) = Wt ++ word) := by unfold Hid; rw [wantB, if_pos hk0, hW]
                  obtain rfl := hk0
                  clear hW
                  go_wp2_with (at_builtin; refine wpList_append_G _ rfl _ _ 23 rfl w.heap.size 9 i0 (.string ⟨#[]⟩) 1 16 Tryd.underlying23 hi hz0 hz1 hz2 rfl (.slice A 0 c) 0 ((linesB true word N 0).map Value.string) rfl (HO.out _) ⟨wr.heap.size, 0, none⟩ 1 1 [.string _] rfl rfl (cell_one_new _ _ _) (by simp [Value.oneCell']) (by omega) (by unfold maxLen; omega) (by omega) (by simp; omega) ?_; intro g cap w2 hown1 hgrow1 hat hlt1; have HG1 := Lib.hid (appd_below hbel hsz (HO.out _) hgrow1); have HO1 := Lib.hid hown1; clear hown1 hgrow1 hat)
                  exact ⟨⟨0 + 1, by go_num, by omega, by rw [HWN.out], by rw [linesB_snoc, HPC.out, List.map_append]; exact HO1.out, HG1.out⟩, by simp [intOf]; omega⟩
                · have HPC : Hid (pieceB true word (decide (k + 1 < N)) = (⟨#[9]⟩ ++ word)) := by unfold Hid; rw [decide_eq_false hlast]; rfl
                  have HWN : Hid (wantB true word (k + 1) = Wt ++ ⟨#[92, 10]⟩ ++ word) := by unfold Hid; rw [wantB, if_neg hk0, hW]; rfl
                  have hk1 : (0 : Int) < k := by omega
                  clear hW
                  go_wp2_with (at_builtin; refine wpList_append_G _ rfl _ _ 23 rfl w.heap.size 9 i0 (.string ⟨#[]⟩) 1 16 Tryd.underlying23 hi hz0 hz1 hz2 rfl (.slice A k c) k ((linesB true word N k).map Value.string) rfl (HO.out _) ⟨wr.heap.size, 0, none⟩ 1 1 [.string _] rfl rfl (cell_one_new _ _ _) (by simp [Value.oneCell']) (by omega) (by unfold maxLen; omega) (by omega) (by simp; omega) ?_; intro g cap w2 hown1 hgrow1 hat hlt1; have HG1 := Lib.hid (appd_below hbel hsz (HO.out _) hgrow1); have HO1 := Lib.hid hown1; clear hown1 hgrow1 hat)
                  exact ⟨⟨k + 1, by go_num, by omega, by rw [HWN.out], by rw [linesB_snoc, HPC.out, List.map_append]; exact HO1.out, HG1.out⟩, by simp [intOf]; omega⟩
          · obtain rfl : k = N := by omega
            have hNX := Next_any wr A c (linesB rc word k k) 0 (strsAt_own (n := k) hown) (Nat.le_trans (linesB_total rc word k k) (Nat.le_trans (Nat.mul_le_mul (show k ≤ 40 by omega) (show word.size + 7 ≤ 57 by omega)) (by decide))) (by decide)
            obtain ⟨m, hm⟩ : ∃ m, k = m + 1 := ⟨k - 1, by omega⟩
            have hF : nextF (linesB rc word k k) 0 = ⟨if rc then 1 else 2, 1, txtB rc word k false, k⟩ := by rw [hm]; exact nextOn HGD.out rc m
            rw [linesB_len, hF] at hNX
            clear hown hF hm
            cases rc
            · have HNX : Hid (Calls Tryd.prog 7 #[.slice A k c, .int .i64 0] wr fun e w' => e = .returned (.tuple #[.agg #[.int .i64 2, .int .i64 1, .string (⟨#[32, 32]⟩ ++ Wt ++ ⟨#[32, 9]⟩)], .int .i64 k]) ∧ Below wr.heap.size wr w') := by
                rw [← hW]; exact hNX
              clear hNX hW
              go_wp2_with fail
              refine HNX.out.mono ?_
              rintro e w3 ⟨rfl, hb3⟩
              go_wp2
              go_ret
              refine ⟨?_, ?_⟩
              · rfl
              · exact (hbel.trans (hb3.mono hsz)).alloc (Nat.le_trans hsz hb3.size) _
            · have HNX : Hid (Calls Tryd.prog 7 #[.slice A k c, .int .i64 0] wr fun e w' => e = .returned (.tuple #[.agg #[.int .i64 1, .int .i64 1, .string Wt], .int .i64 k]) ∧ Below wr.heap.size wr w') := by
                rw [← hW]; exact hNX
              clear hNX hW
              go_wp2_with fail
              refine HNX.out.mono ?_
              rintro e w3 ⟨rfl, hb3⟩
              go_wp2
              go_ret
              refine ⟨?_, ?_⟩
              · rfl
              · exact (hbel.trans (hb3.mono hsz)).alloc (Nat.le_trans hsz hb3.size) _
  · go_enter Tryd.func3, Tryd.ntmps3
    go_wp2_with fail
    refine (HA.out _).mono ?_
    rintro e w1 ⟨rfl, hb1⟩
    go_wp2
    go_ret
    exact ⟨rfl, hb1⟩
end Go.Proofs.YtndoloohdloflabDoor
