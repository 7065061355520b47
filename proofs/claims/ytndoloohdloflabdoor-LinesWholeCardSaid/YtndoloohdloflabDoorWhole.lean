/- LinesWhole answers true at every text; conditions: a text that lies in memory, the library's one number in its cell. -/
import Derived.Test.YtndoloohdloflabDoorSplit
namespace Go.Proofs.YtndoloohdloflabDoor
open Go.RowKit

theorem goOn_next (rc : Bool) : ∀ (r : List ByteArray) (prev text : ByteArray) (k : Nat), k ≤ (goOn rc prev r text k).2 ∧ (goOn rc prev r text k).2 ≤ k + r.length := by
  intro r
  induction r with
  | nil => intro prev text k; simp [goOn]
  | cons m r ih =>
    intro prev text k
    rw [goOn]
    split
    · have := ih m (joinT rc text m) (k + 1); simp; omega
    · simp
theorem finish_facts (rc : Bool) (p : Nat) (t : ByteArray × Nat) : (finish rc p t).no = p + 1 ∧ (finish rc p t).next = t.2 ∧ ((finish rc p t).kind = 0 → (finish rc p t).text = ⟨#[]⟩) := by
  unfold finish
  cases rc
  · rw [if_neg (by simp)]
    split
    · exact ⟨rfl, rfl, fun _ => rfl⟩
    · exact ⟨rfl, rfl, fun h => by cases h⟩
  · rw [if_pos rfl]
    split
    · exact ⟨rfl, rfl, fun _ => rfl⟩
    · exact ⟨rfl, rfl, fun h => by cases h⟩
theorem next_facts (xs : List ByteArray) (p : Nat) (hpx : p < xs.length) : (nextF xs p).no = p + 1 ∧ p < (nextF xs p).next ∧ (nextF xs p).next ≤ xs.length ∧ ((nextF xs p).kind = 0 → (nextF xs p).text = ⟨#[]⟩) := by
  unfold nextF
  have hd := List.drop_eq_getElem_cons hpx
  rw [hd]
  have h1 := finish_facts (hp xs[p]) p (goOn (hp xs[p]) xs[p] (xs.drop (p + 1)) (if hp xs[p] then tp xs[p] else xs[p]) (p + 1))
  have h2 := goOn_next (hp xs[p]) (xs.drop (p + 1)) xs[p] (if hp xs[p] then tp xs[p] else xs[p]) (p + 1)
  rw [List.length_drop] at h2
  obtain ⟨a, b, c⟩ := h1
  refine ⟨a, ?_, ?_, c⟩
  · rw [show (finish _ p _).next = _ from b]; omega
  · rw [show (finish _ p _).next = _ from b]; omega

set_option maxRecDepth 100000 in
set_option maxHeartbeats 2000000 in
theorem LinesWhole_law (s : ByteArray) (w : World) (_ : s.size ≤ 140737488351232) (h0w : 0 < w.heap.size) (m : Int) (hm : w.cell? ⟨0, 0, none⟩ = some (.int .i64 m)) :
    Calls Tryd.prog 5 #[.string s] w fun e w' => e = .returned (.bool true) ∧ Below w.heap.size w w' := by
  have HA := Lib.hid alive_any
  by_cases h1 : (20000 : Int) < s.size
  · go_enter Tryd.func5, Tryd.ntmps5
    go_wp2_with fail
    refine (HA.out _).mono ?_
    rintro e w1 ⟨rfl, hb1⟩
    go_wp2
    go_ret
    exact ⟨rfl, hb1⟩
  have hm1 : ∀ w', Below w.heap.size w w' → w'.cell? ⟨0, 0, none⟩ = some (.int .i64 m) := fun w' hb => by rw [hb.cell (p := ⟨0, 0, none⟩) h0w]; exact hm
  have hp1 : ∀ w', Below w.heap.size w w' → 0 < w'.heap.size := fun w' hb => Nat.lt_of_lt_of_le h0w hb.size
  have HM := Lib.hid hm1
  have HP := Lib.hid hp1
  have HS := Lib.hid fun w1 h0 hm => Split_any s (by omega) w1 m h0 hm
  have hsl := phB_len s
  have hst := phB_total s
  obtain ⟨xs, hxs⟩ : ∃ xs, phB s = xs := ⟨_, rfl⟩
  rw [hxs] at hsl hst HS
  obtain ⟨N, hN⟩ : ∃ N, xs.length = N := ⟨_, rfl⟩
  rw [hN] at hsl HS
  have HN := Lib.hid hN
  have HT : Hid (total xs ≤ 1000000000) := by unfold Hid; omega
  clear hm hm1 hp1 hxs hN hst
  go_enter Tryd.func5, Tryd.ntmps5
  go_wp2_with fail
  refine (HA.out _).mono ?_
  rintro e w1 ⟨rfl, hb1⟩
  go_wp2_with fail
  refine (HS.out w1 (HP.out _ hb1) (HM.out _ hb1)).mono ?_
  rintro e w2 ⟨v, rfl, ho2, hb2⟩
  have hB2 := hb1.trans (hb2.mono hb1.size)
  obtain ⟨A, c, rfl, _, _⟩ := ho2.form
  have HO2 := Lib.hid ho2
  clear ho2
  go_wp2_with fail
  go_loopw [5] (fun iv wi => ∃ k : Nat, iv = .int .i64 k ∧ k ≤ N ∧ Below w2.heap.size w2 wi) (fun iv _ => N - (intOf iv).toNat)
  case atStart => exact ⟨0, rfl, Nat.zero_le _, Below.refl _ _⟩
  case round =>
    obtain ⟨k, rfl, hk, hbel⟩ := hrel
    have hBr := hB2.trans (hbel.mono hB2.size)
    have hNX := Next_any wr A c xs k (strsAt_own (n := N) (HO2.out.below hbel)) HT.out (by omega)
    rw [HN.out] at hNX
    by_cases hlt : k < N
    · have q1 : (k : Int) < N := by omega
      obtain ⟨f1, f2, f3, f4⟩ := next_facts xs k (by rw [HN.out]; exact hlt)
      rw [f1] at hNX
      rw [HN.out] at f3
      obtain ⟨kd, hkd⟩ : ∃ kd, (nextF xs k).kind = kd := ⟨_, rfl⟩
      obtain ⟨tx, htx⟩ : ∃ tx, (nextF xs k).text = tx := ⟨_, rfl⟩
      obtain ⟨nx, hnx⟩ : ∃ nx, (nextF xs k).next = nx := ⟨_, rfl⟩
      rw [hkd, htx] at f4
      rw [hkd, htx, hnx] at hNX
      rw [hnx] at f2 f3
      have HNX := Lib.hid hNX
      clear hNX f1 hkd htx hnx
      by_cases hz : kd = 0
      · subst hz
        obtain rfl := f4 rfl
        clear f4
        go_wp2_with fail
        refine HNX.out.mono ?_
        rintro e w3 ⟨rfl, hb3⟩
        go_wp2
        exact ⟨⟨nx, rfl, f3, (hbel.trans (hb3.mono hbel.size)).alloc (Nat.le_trans hbel.size hb3.size) _⟩, by simp [intOf]; omega⟩
      · have hzb : (kd == 0) = false := by simpa using hz
        clear f4 hz
        go_wp2_with fail
        refine HNX.out.mono ?_
        rintro e w3 ⟨rfl, hb3⟩
        go_wp2
        exact ⟨⟨nx, rfl, f3, (hbel.trans (hb3.mono hbel.size)).alloc (Nat.le_trans hbel.size hb3.size) _⟩, by simp [intOf]; omega⟩
    · obtain rfl : k = N := by omega
      have hnf : nextF xs k = ⟨0, 0, ⟨#[]⟩, k⟩ := by
        unfold nextF
        rw [List.drop_eq_nil_of_le (by rw [HN.out]; exact Nat.le_refl _)]
      rw [hnf] at hNX
      have HNX := Lib.hid hNX
      clear hNX hnf
      go_wp2_with fail
      refine HNX.out.mono ?_
      rintro e w3 ⟨rfl, hb3⟩
      go_wp2
      go_ret
      exact ⟨rfl, (hBr.trans (hb3.mono hBr.size)).alloc (Nat.le_trans hBr.size hb3.size) _⟩
end Go.Proofs.YtndoloohdloflabDoor
