/- LinesSplit and LinesWhole answer true at every text; conditions: texts that lie in memory, the library's one number in its cell. -/
import Derived.Test.YtndoloohdloflabDoorSplit
namespace Go.Proofs.YtndoloohdloflabDoor
open Go.RowKit

set_option maxRecDepth 100000 in
set_option maxHeartbeats 1000000 in
theorem Wipe_any (w : World) (base n : Nat) (v : Value) (xs : List Value) (h : OwnG w base 9 1 v n xs) (hn : n ≤ 140737488351232) :
    Calls Tryd.prog 9 #[v] w fun e w' => e = .returned (.tuple #[]) ∧ Below base w w' := by
  rcases h.2 with ⟨rfl, rfl⟩ | ⟨g, cap, cur, rfl, hg, hb, hnc, hcm, hcs, _⟩
  · go_enter Tryd.func9, Tryd.ntmps9
    go_wp2
    go_loopw [2] (fun i wi => i = .int .i64 0 ∧ wi = w) (fun i _ => 0)
    case atStart => exact ⟨rfl, rfl⟩
    case round =>
      obtain ⟨rfl, rfl⟩ := hrel
      go_wp2
      go_end0
      exact ⟨rfl, Below.refl _ _⟩
  · go_enter Tryd.func9, Tryd.ntmps9
    go_wp2
    go_loopw [2] (fun i wi => ∃ (k : Nat) (cs : Array Value), i = .int .i64 k ∧ k ≤ n ∧ cs.size = cur.size ∧ wi.heap[g]? = some (.cells cs 9 (0, 0)) ∧ Below base w wi) (fun i _ => n - (intOf i).toNat)
    case atStart => exact ⟨0, cur, rfl, Nat.zero_le _, rfl, hb, Below.refl _ w⟩
    case round =>
      obtain ⟨k, cs, rfl, hk, hcz, hbk, hbel⟩ := hrel
      by_cases hlt : k < n
      · have q1 : (k : Int) < n := by omega
        have hlg : g < wr.heap.size := (Array.getElem?_eq_some_iff.1 hbk).1
        have hkc : k < cs.size := by omega
        have hc : wr.cell? ⟨g, k, none⟩ = some cs[k] := by simp [World.cell?, hbk, hkc]
        have hf : wr.frozen? ⟨g, k, none⟩ = false := frozen_of_row wr _ _ _ _ hbk
        have hb2 := Lib.hid (heap_setCell_same wr g k cs 9 (.string ⟨#[63]⟩) hbk)
        have hbl := Lib.hid (hbel.setCell (p := ⟨g, k, none⟩) hg (.string ⟨#[63]⟩))
        generalize cs[k] = old at hc
        go_wp2
        exact ⟨⟨k + 1, _, by go_num, by omega, by rw [Array.size_setIfInBounds]; exact hcz, hb2.out, hbl.out⟩, by simp [intOf]; omega⟩
      · go_wp2
        go_end0
        exact ⟨rfl, hbel⟩

set_option maxRecDepth 100000 in
set_option maxHeartbeats 2000000 in
theorem LinesSplit_law (s o : ByteArray) (w : World) (_ : s.size ≤ 140737488351232) (_ : o.size ≤ 140737488351232) (h0w : 0 < w.heap.size) (m : Int) (hm : w.cell? ⟨0, 0, none⟩ = some (.int .i64 m)) :
    Calls Tryd.prog 4 #[.string s, .string o] w fun e w' => e = .returned (.bool true) ∧ Below w.heap.size w w' := by
  have HA := Lib.hid alive_any
  by_cases h1 : (20000 : Int) < s.size
  · go_enter Tryd.func4, Tryd.ntmps4
    go_wp2_with fail
    refine (HA.out _).mono ?_
    rintro e w1 ⟨rfl, hb1⟩
    go_wp2
    go_ret
    exact ⟨rfl, hb1⟩
  by_cases h2 : (20000 : Int) < o.size
  · go_enter Tryd.func4, Tryd.ntmps4
    go_wp2_with fail
    refine (HA.out _).mono ?_
    rintro e w1 ⟨rfl, hb1⟩
    go_wp2
    go_ret
    exact ⟨rfl, hb1⟩
  have hm1 : ∀ w', Below w.heap.size w w' → w'.cell? ⟨0, 0, none⟩ = some (.int .i64 m) := fun w' hb => by rw [hb.cell (p := ⟨0, 0, none⟩) h0w]; exact hm
  have hp1 : ∀ w', Below w.heap.size w w' → 0 < w'.heap.size := fun w' hb => Nat.lt_of_lt_of_le h0w hb.size
  have HM := Lib.hid hm1
  have HP := Lib.hid hp1
  have HS := Lib.hid fun w1 h0 hm => Split_any s (by omega) w1 m h0 hm
  have HO := Lib.hid fun w1 h0 hm => Split_any o (by omega) w1 m h0 hm
  have HPH := Lib.hid fun w1 => Physical_any s w1 (by omega)
  have HB := Lib.hid fun w1 => Bare_any s w1 (by omega)
  have HBR := Lib.hid fun w1 => BareR_any s w1 (by omega)
  have hsl := phB_len s
  have hol := phB_len o
  clear hm hm1 hp1
  go_enter Tryd.func4, Tryd.ntmps4
  go_wp2_with fail
  refine (HA.out _).mono ?_
  rintro e w1 ⟨rfl, hb1⟩
  go_wp2_with fail
  refine (HS.out w1 (HP.out _ hb1) (HM.out _ hb1)).mono ?_
  rintro e w2 ⟨v, rfl, ho2, hb2⟩
  have hB2 := hb1.trans (hb2.mono hb1.size)
  go_wp2_with fail
  refine (HO.out w2 (HP.out _ hB2) (HM.out _ hB2)).mono ?_
  rintro e w3 ⟨v3, rfl, ho3, hb3⟩
  have hB3 := hB2.trans (hb3.mono hB2.size)
  have HW := Lib.hid (Wipe_any w3 w2.heap.size _ v3 _ ho3 (by omega))
  go_wp2_with fail
  refine HW.out.mono ?_
  rintro e w4 ⟨rfl, hb4⟩
  have hB4 := hB3.trans (hb4.mono hB2.size)
  go_wp2_with fail
  refine (HPH.out w4).mono ?_
  rintro e w5 ⟨v5, rfl, ho5, hb5⟩
  have hB5 := hB4.trans (hb5.mono hB4.size)
  have h25 : Below w2.heap.size w2 w5 := (hb3.trans hb4).trans (hb5.mono (Nat.le_trans hb3.size hb4.size))
  have ho2' := ho2.below h25
  clear ho2 ho3 HW
  obtain ⟨A, c, rfl, _, _⟩ := ho2'.form
  obtain ⟨A5, c5, rfl, _, _⟩ := ho5.form
  have HSA := Lib.hid (Same_any w5 A A5 c c5 (phB s) (phB s) (strsAt_own ho2') (strsAt_own ho5) (by omega))
  rw [sameL_self] at HSA
  clear ho2' ho5
  go_wp2_with fail
  refine HSA.out.mono ?_
  rintro e w6 ⟨rfl, hb6⟩
  have hB6 := hB5.trans (hb6.mono hB5.size)
  go_wp2_with fail
  refine (HB.out w6).mono ?_
  rintro e w7 ⟨rfl, hb7⟩
  have hB7 := hB6.trans (hb7.mono hB6.size)
  go_wp2_with fail
  refine (HBR.out w7).mono ?_
  rintro e w8 ⟨rfl, hb8⟩
  have hB8 := hB7.trans (hb8.mono hB7.size)
  go_wp2
  go_ret
  exact ⟨rfl, hB8⟩
end Go.Proofs.YtndoloohdloflabDoor
