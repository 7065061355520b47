/- Next by one contract, and alive's answer; condition: lists and texts that lie in memory. -/
import Derived.Test.YtndoloohdloflabDoorNexT
namespace Go.Proofs.YtndoloohdloflabDoor
open Go.RowKit

theorem Next_any (w : World) (A : Option Addr) (ca : Nat) (xs : List ByteArray) (p : Nat) (ha : StrsAt w A xs) (hsz : total xs ≤ 1000000000) (hp2 : p ≤ 1000000000) :
    Calls Tryd.prog 7 #[.slice A xs.length ca, .int .i64 p] w fun e w' => e = .returned (.tuple #[.agg #[.int .i64 (nextF xs p).kind, .int .i64 (nextF xs p).no, .string (nextF xs p).text], .int .i64 (nextF xs p).next]) ∧ Below w.heap.size w w' := by
  cases hd : xs.drop p with
  | nil =>
    have h := Next_out w A ca xs.length p (List.drop_eq_nil_iff.1 hd) hp2
    unfold nextF
    rw [hd]
    exact h
  | cons s r =>
    unfold nextF
    rw [hd]
    cases hh : hp s
    · simpa [hh] using Next_f w A ca xs p s r ha hd hh hsz
    · simpa [hh] using Next_t w A ca xs p s r ha hd hh hsz

theorem StrsAt.new (w : World) (l : List ByteArray) : StrsAt (w.alloc (.cells (l.map Value.string).toArray 9)) (some ⟨w.heap.size, 0, none⟩) l := by
  intro j x hx
  refine ⟨w.heap.size, 0, rfl, ?_⟩
  have := World.alloc_heap_new w (.cells (l.map Value.string).toArray 9)
  rw [Lib.cell_of_heap this]
  simp [hx]

theorem bareE : bare ⟨#[97, 92, 35, 98, 32, 35, 32, 99]⟩ = ⟨#[97, 35, 98, 32]⟩ := by kernel_rfl
theorem nextE : nextF [⟨#[97, 32, 92]⟩, ⟨#[32, 32, 98]⟩, ⟨#[99]⟩] 0 = ⟨2, 1, ⟨#[97, 32, 98]⟩, 2⟩ := by kernel_rfl

set_option maxRecDepth 100000 in
theorem alive_any (w : World) : Calls Tryd.prog 6 #[] w fun e w' => e = .returned (.bool true) ∧ Below w.heap.size w w' := by
  have H1 : Hid (∀ w, Calls Tryd.prog 7 #[.slice (some ⟨w.heap.size, 0, none⟩) 3 3, .int .i64 0] (w.alloc (.cells #[.string ⟨#[97, 32, 92]⟩, .string ⟨#[32, 32, 98]⟩, .string ⟨#[99]⟩] 9)) fun e w' => e = .returned (.tuple #[.agg #[.int .i64 2, .int .i64 1, .string ⟨#[97, 32, 98]⟩], .int .i64 2]) ∧ Below w.heap.size w w') := fun w => by
    have hs := StrsAt.new w [⟨#[97, 32, 92]⟩, ⟨#[32, 32, 98]⟩, ⟨#[99]⟩]
    have h := Next_any _ _ 3 _ 0 hs (by decide) (by decide)
    rw [nextE] at h
    exact h.mono fun e w' ⟨h1, h2⟩ => ⟨h1, ((Below.refl _ w).alloc (Nat.le_refl _) _).trans (h2.mono (by simp))⟩
  have H2 : Hid (∀ w, Calls Tryd.prog 12 #[.string ⟨#[97, 92, 35, 98, 32, 35, 32, 99]⟩] w fun e w' => e = .returned (.string ⟨#[97, 35, 98, 32]⟩) ∧ Below w.heap.size w w') := fun w => by
    have := Bare_any ⟨#[97, 92, 35, 98, 32, 35, 32, 99]⟩ w (by decide)
    rw [bareE] at this
    exact this
  go_enter Tryd.func6, Tryd.ntmps6
  go_wp2_with fail
  refine (H1.out _).mono ?_
  rintro e w1 ⟨rfl, hb1⟩
  go_wp2_with fail
  refine (H2.out _).mono ?_
  rintro e w2 ⟨rfl, hb2⟩
  go_wp2
  go_ret
  exact ⟨rfl, (hb1.alloc hb1.size _).trans (hb2.mono (by have := hb1.size; simp; omega))⟩
end Go.Proofs.YtndoloohdloflabDoor
