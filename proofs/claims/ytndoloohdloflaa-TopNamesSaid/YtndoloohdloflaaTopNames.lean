/- The numbers of package api are what the document says: the walk of the law TopNames; no condition. -/
import Derived.Test.YtndoloohdloflaaBase
namespace Go.Proofs.Ytndoloohdloflaa
open Go.RowKit

def pairsL : List Int → List Value
  | [] => []
  | n :: ns => .int .i64 n :: .int .i64 n :: pairsL ns
theorem pairsL_get (ns : List Int) : ∀ i (h : i < ns.length), (pairsL ns)[i * 2]? = some (.int .i64 ns[i]) ∧ (pairsL ns)[i * 2 + 1]? = some (.int .i64 ns[i]) := by
  induction ns with
  | nil => intro i h; simp at h
  | cons n ns ih =>
    intro i h
    cases i with
    | zero => simp [pairsL]
    | succ i => 
      have := ih i (by simpa using h)
      rw [show (i + 1) * 2 = i * 2 + 1 + 1 by omega, show i * 2 + 1 + 1 + 1 = (i * 2 + 1) + 1 + 1 by omega]
      simpa [pairsL] using this
theorem cell_alloc_self (w : World) (C : Array Value) (t : TypeId) (o : Nat) : (w.alloc (.cells C t (0, 0))).cell? ⟨w.heap.size, o, none⟩ = C[o]? := by
  simp
theorem pairs_cells (w : World) (ns : List Int) (C : Array Value) (t : TypeId) (hC : C = (pairsL ns).toArray) : ∀ i (h : i < ns.length), (w.alloc (.cells C t (0, 0))).cell? ⟨w.heap.size, i * 2, none⟩ = some (.int .i64 ns[i]) ∧ (w.alloc (.cells C t (0, 0))).cell? ⟨w.heap.size, i * 2 + 1, none⟩ = some (.int .i64 ns[i]) := by
  intro i h
  subst hC
  rw [cell_alloc_self, cell_alloc_self]
  simpa using pairsL_get ns i h

set_option maxRecDepth 100000 in
set_option maxHeartbeats 400000 in
theorem are_walk (b : Nat) (ns : List Int) (w : World) (hn : ns.length ≤ 1000) (hc : ∀ i (h : i < ns.length), w.cell? ⟨b, i * 2, none⟩ = some (.int .i64 ns[i]) ∧ w.cell? ⟨b, i * 2 + 1, none⟩ = some (.int .i64 ns[i])) :
    Calls Try.prog 89 #[.slice (some ⟨b, 0, none⟩) ns.length ns.length] w fun e w' => e = .returned (.bool true) ∧ Below w.heap.size w w' := by
  have HC := Lib.hid hc; clear hc
  go_enter Try.func89, Try.ntmps89
  go_wp2
  go_loopw [3] (fun i wr => ∃ k : Nat, k ≤ ns.length ∧ i = .int .i64 k ∧ ∃ n, wr = w.drewN n) (fun i _ => ns.length - (intOf i).toNat)
  case atStart => exact ⟨0, Nat.zero_le _, rfl, 0, rfl⟩
  case round =>
    obtain ⟨k, hk, rfl, n, rfl⟩ := hrel
    by_cases hlt : k < ns.length
    · obtain ⟨h1, h2⟩ := HC.out k hlt
      have e1 : (k : Int).toNat = k := by omega
      go_wp2
      go_quiet (fail)
      go_wp2
      exact ⟨⟨k + 1, by omega, by go_num, _, rfl⟩, by simp [intOf]; omega⟩
    · go_wp2
      go_ret
      exact ⟨rfl, below_drewN (Below.refl _ _) n⟩

set_option maxRecDepth 100000 in
set_option maxHeartbeats 1000000 in
theorem first_walk (w : World) : Calls Try.prog 61 #[] w fun e w' => e = .returned (.bool true) ∧ Below w.heap.size w w' := by
  go_enter Try.func61, Try.ntmps61
  go_wp2_with fail
  refine (are_walk w.heap.size [0, 1, 2, 3, 10, 11, 12, 13, 14, 15, 16, 20, 30, 31, 40, 41, 42, 43, 44, 45, 50, 51, 52, 53, 54, 55, 56, 57, 60, 61, 62, 63, 64, 65, 255] _ (by decide) (pairs_cells w _ _ _ rfl)).mono ?_
  rintro e w1 ⟨rfl, HB⟩
  go_wp2
  go_ret
  exact ⟨rfl, ((Below.refl w.heap.size w).alloc (Nat.le_refl _) _).trans (HB.mono (by simp))⟩

set_option maxRecDepth 100000 in
set_option maxHeartbeats 1000000 in
theorem second_walk (w : World) : Calls Try.prog 62 #[] w fun e w' => e = .returned (.bool true) ∧ Below w.heap.size w w' := by
  go_enter Try.func62, Try.ntmps62
  go_wp2_with fail
  refine (are_walk w.heap.size [1000, 1000, 65536, 1048576, 60, 500, 1000, 5000, 6, 500, 16, 5, 4, 1000000, 262144, 8000, 1, 2, 3, 4, 1, 2, 3, 4, 5, 6, 7, 8, 9, 10, 11, 0, 1, 2, 0] _ (by decide) (pairs_cells w _ _ _ rfl)).mono ?_
  rintro e w1 ⟨rfl, HB⟩
  go_wp2
  go_ret
  exact ⟨rfl, ((Below.refl w.heap.size w).alloc (Nat.le_refl _) _).trans (HB.mono (by simp))⟩

set_option maxRecDepth 100000 in
set_option maxHeartbeats 1000000 in
theorem third_walk (w : World) : Calls Try.prog 63 #[] w fun e w' => e = .returned (.bool true) ∧ Below w.heap.size w w' := by
  go_enter Try.func63, Try.ntmps63
  go_wp2_with fail
  refine (are_walk w.heap.size [1, 2, 3, 4, 5, 6, 7, 1, 2, 3, 4, 5, 0, 1, 2, 1, 2, 3, 4, 5, 6, 7, 8, 9, 1, 2, 3, 4, 5, 6, 7, 8, 9] _ (by decide) (pairs_cells w _ _ _ rfl)).mono ?_
  rintro e w1 ⟨rfl, HB⟩
  go_wp2
  go_ret
  exact ⟨rfl, ((Below.refl w.heap.size w).alloc (Nat.le_refl _) _).trans (HB.mono (by simp))⟩

theorem topNames_walk (w : World) : Calls Try.prog 14 #[] w fun e w' => e = .returned (.bool true) ∧ Below w.heap.size w w' := by
  have H1 := Lib.hid first_walk
  have H2 := Lib.hid second_walk
  have H3 := Lib.hid third_walk
  go_enter Try.func14, Try.ntmps14
  go_wp2_with (first | (go_at_call 61; refine (H1.out _).mono ?_; rintro e w1 ⟨rfl, HB1⟩) | (go_at_call 62; refine (H2.out _).mono ?_; rintro e w2 ⟨rfl, HB2⟩) | (go_at_call 63; refine (H3.out _).mono ?_; rintro e w3 ⟨rfl, HB3⟩))
  go_ret
  exact ⟨rfl, (HB1.trans (HB2.mono HB1.size)).trans (HB3.mono (Nat.le_trans HB1.size HB2.size))⟩
end Go.Proofs.Ytndoloohdloflaa
