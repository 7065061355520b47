/- Wipe, and the reference's Split: the words of a text; condition: a text of at most 10^9 bytes. -/
import Derived.Test.YtndoloohdloflabLists
import Derived.Test.YtndoloohdloflabTrim
namespace Go.Proofs.Ytndoloohdloflab
open Go.RowKit

theorem OwnG.strsAt {W : World} {base n c : Nat} {A : Option Addr} {xs : List ByteArray} (h : OwnG W base 9 1 (.slice A n c) n (xs.map Value.string)) : StrsAt W A xs := by
  intro j x hj
  have hg := h
  rcases h.2 with ⟨e, h0⟩ | ⟨g, cap, cur, e, hb, _⟩
  · have hl := h.1
    have hlt := (List.getElem?_eq_some_iff.1 hj).1
    simp [h0] at hl
    rw [hl] at hlt; simp at hlt
  · cases e
    exact ⟨g, 0, rfl, by rw [Nat.zero_add]; exact hg.cells j _ (by simp [hj])⟩

/-- where a list is written over: below base all is as it was -/
theorem Wipe_any (w : World) (base n : Nat) (v : Value) (xs : List Value) (h : OwnG w base 9 1 v n xs) (hn : n ≤ 140737488351232) :
    Calls Try.prog 23 #[v] w fun e w' => e = .returned (.tuple #[]) ∧ Below base w w' := by
  rcases h.2 with ⟨rfl, rfl⟩ | ⟨g, cap, cur, rfl, hg, hb, hnc, hcm, hcs, _⟩
  · go_enter Try.func23, Try.ntmps23
    go_wp2
    go_loopw [2] (fun i wi => i = .int .i64 0 ∧ wi = w) (fun i _ => 0)
    case atStart => exact ⟨rfl, rfl⟩
    case round =>
      obtain ⟨rfl, rfl⟩ := hrel
      go_wp2
      go_end0
      exact ⟨rfl, Below.refl _ _⟩
  · go_enter Try.func23, Try.ntmps23
    go_wp2
    go_loopw [2] (fun i wi => ∃ (k : Nat) (cs : Array Value), i = .int .i64 k ∧ k ≤ n ∧ cs.size = cur.size ∧ wi.heap[g]? = some (.cells cs 9 (0, 0)) ∧ Below base w wi) (fun i _ => n - (intOf i).toNat)
    case atStart => exact ⟨0, cur, rfl, Nat.zero_le _, rfl, hb, Below.refl _ w⟩
    case round =>
      obtain ⟨k, cs, rfl, hk, hcz, hbk, hbel⟩ := hrel
      by_cases hlt : k < n
      · have q1 : (k : Int) < n := by omega
        have hlg : g < wr.heap.size := (Array.getElem?_eq_some_iff.1 hbk).1
        have hkc : k < cs.size := by omega
        have hc : wr.cell? ⟨g, k, none⟩ = some cs[k] := by simp [World.cell?, hbk, hkc]
        have hf : wr.frozen? ⟨g, k, none⟩ = false := frozen_of_row wr _ _ _ _ hbk
        have hb2 := Lib.hid (heap_setCell_same wr g k cs 9 (.string ⟨#[63]⟩) hbk)
        have hbl := Lib.hid (hbel.setCell (p := ⟨g, k, none⟩) hg (.string ⟨#[63]⟩))
        generalize cs[k] = old at hc
        go_wp2
        exact ⟨⟨k + 1, _, by go_num, by omega, by rw [Array.size_setIfInBounds]; exact hcz, hb2.out, hbl.out⟩, by simp [intOf]; omega⟩
      · go_wp2
        go_end0
        exact ⟨rfl, hbel⟩
end Go.Proofs.Ytndoloohdloflab
