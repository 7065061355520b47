/- Stays on lists of texts; conditions: lists that lie in memory. -/
import Derived.Test.YtmcemaphhlcjfaaDoorLent
namespace Go.Proofs.YtmcemaphhlcjfaaDoor
open Go.RowKit

theorem StrsAt.below {w w' : World} {B : Nat} {A : Option Addr} {xs : List ByteArray} (h : StrsAt w A xs) (hB : w.heap.size ≤ B) (hb : Below B w w') : StrsAt w' A xs := by
  intro j x hj
  obtain ⟨b, o, e, hc⟩ := h j x hj
  have hlt := World.block_lt_of_cell? _ _ hc
  exact ⟨b, o, e, by rw [hb.cell (p := ⟨b, o + j, none⟩) (Nat.lt_of_lt_of_le hlt hB)]; exact hc⟩

theorem lent_at {w : World} {base g cap : Nat} {xs : List ByteArray} (h : OwnG w base 9 1 (.slice (some ⟨g, 0, none⟩) (xs.length + 1) cap) (xs.length + 1) ((xs ++ [lentX]).map Value.string)) :
    StrsAt w (some ⟨g, 0, none⟩) xs ∧ w.cell? ⟨g, xs.length, none⟩ = some (.string lentX) ∧ xs.length + 1 ≤ cap := by
  have hc := h.cells
  refine ⟨fun j x hj => ⟨g, 0, rfl, ?_⟩, ?_, ?_⟩
  · have hlt := (List.getElem?_eq_some_iff.1 hj).1
    rw [Nat.zero_add]
    refine hc j _ ?_
    rw [List.getElem?_map, List.getElem?_append_left hlt, hj]; rfl
  · refine hc _ _ ?_
    rw [List.getElem?_map, List.getElem?_append_right (Nat.le_refl _)]; simp
  · obtain ⟨A', c', e, h1, _⟩ := h.form
    cases e; exact h1

set_option maxRecDepth 100000 in
set_option maxHeartbeats 1000000 in
theorem Stays_any (w : World) (g cap : Nat) (A : Option Addr) (ca : Nat) (xs : List ByteArray) (h1 : StrsAt w (some ⟨g, 0, none⟩) xs) (hx : w.cell? ⟨g, xs.length, none⟩ = some (.string lentX)) (hcap : xs.length + 1 ≤ cap) (_ : cap ≤ 9223372036854775807) (h2 : StrsAt w A xs) (hz : xs.length ≤ 20000) :
    Calls Tryd.prog 24 #[.slice (some ⟨g, 0, none⟩) xs.length cap, .slice A xs.length ca] w fun e w' => e = .returned (.bool true) ∧ Below w.heap.size w w' := by
  have HS := Lib.hid fun (n : Nat) => Same_any (w.drewN n) (some ⟨g, 0, none⟩) A cap ca xs xs (h1.below (Nat.le_refl _) (below_drewN (Below.refl _ w) n)) (h2.below (Nat.le_refl _) (below_drewN (Below.refl _ w) n)) (by omega)
  rw [sameL_self] at HS
  have hgl := World.block_lt_of_cell? _ _ hx
  obtain ⟨N, hN⟩ : ∃ N, xs.length = N := ⟨_, rfl⟩
  rw [hN] at hx hcap hz HS ⊢
  have q1 : (N : Int) + 1 ≤ cap := by omega
  have q2 : IntKind.i64.wrap ((N : Int) + 1) = ((N + 1 : Nat) : Int) := by rw [IntWalk.i64_in _ (by omega)]; omega
  clear h1 h2 hN
  have hlx : lentX.toList = [45, 55, 49] := by decide +kernel
  go_enter Tryd.func24, Tryd.ntmps24
  go_wp2_with (go_at_call 18; refine (HS.out 0).mono ?_; rintro e w' ⟨rfl, hb⟩)
  go_ret
  exact ⟨rfl, hb⟩
end Go.Proofs.YtmcemaphhlcjfaaDoor
