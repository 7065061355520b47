/- The reference's store: what Get answers; conditions: a store that lies in memory, its names rising. -/
import Derived.Test.YtndoloohdloflabVarsRef
import Derived.Deep.WholeRow
namespace Go.Proofs.Ytndoloohdloflab
open Go.RowKit Go.Maps

theorem RefAt.row {w : World} {r : Nat} {l : List Vr} (H : RefAt w r l) {p : Nat} {y : Vr} (hy : l[p]? = some y) : ∃ g c, w.cell? ⟨r, 0, none⟩ = some (.slice (some ⟨g, 0, none⟩) l.length c) ∧ r + 1 ≤ g ∧ l.length ≤ c ∧ c ≤ maxLen ∧
    w.cell? ⟨g, p * 5, none⟩ = some (.string y.name) ∧ w.cell? ⟨g, p * 5 + 1, none⟩ = some (.string y.value) ∧ w.cell? ⟨g, p * 5 + 2, none⟩ = some (.int .i64 y.flav) ∧ w.cell? ⟨g, p * 5 + 3, none⟩ = some (.int .i64 y.origin) ∧ w.cell? ⟨g, p * 5 + 4, none⟩ = some (.int .i64 y.export_) ∧
    OwnG w (r + 1) 64 5 (.slice (some ⟨g, 0, none⟩) l.length c) l.length (vRows l) ∧ w.heap[r]? = some (.cells #[.slice (some ⟨g, 0, none⟩) l.length c] 50 (0, 0)) := by
  obtain ⟨v, hbx, hv⟩ := H.own
  have hp := (List.getElem?_eq_some_iff.1 hy).1
  have hv2 := hv
  rcases hv.2 with ⟨h0, h2⟩ | ⟨g, cap, cur, e, hg, hbk, hnc, hcm, hcs, ht⟩
  · omega
  · subst e
    obtain ⟨h1, h2, h3, h4, h5⟩ := vrow_at l p y hy
    exact ⟨g, cap, by simp [World.cell?, hbx], hg, hnc, hcm, hv2.cells _ _ h1, hv2.cells _ _ h2, hv2.cells _ _ h3, hv2.cells _ _ h4, hv2.cells _ _ h5, hv2, hbx⟩

set_option maxRecDepth 100000 in
theorem refGet_any (w : World) (r : Nat) (l : List Vr) (k : ByteArray) (H : RefAt w r l) :
    Calls Try.prog 47 #[.pointer (some ⟨r, 0, none⟩), .string k] w fun e w' => e = .returned (.tuple #[((getV l k).getD vr0).val, .bool (getV l k).isSome]) ∧ Below w.heap.size w w' := by
  have HA := Lib.hid fun w1 (h : RefAt w1 r l) => refAt_any w1 r l k h
  have H0 := Lib.hid (fun o => H.below ((Below.refl _ w).alloc (Nat.le_refl _) o))
  have HL := Lib.hid H.len
  have HU := Lib.hid H.up
  clear H
  obtain ⟨R, hR⟩ : ∃ R, getV l k = R := ⟨_, rfl⟩
  rw [hR]
  have HR := Lib.hid hR
  clear hR
  go_enter Try.func47, Try.ntmps47
  go_wp2_with fail
  refine (HA.out _ (H0.out _)).mono ?_
  rintro e w1 ⟨p, nq, rfl, hp, hw1⟩
  have HR1 : RefAt w1 r l := by rw [hw1]; exact (H0.out _).below (below_drewN (Below.refl _ _) nq)
  have HP := Lib.hid hp
  have hblk : w1.heap[w.heap.size]? = some (.cells #[.string ⟨#[]⟩, .string ⟨#[]⟩, .int .i64 0, .int .i64 0, .int .i64 0] 64 (0, 0)) := by rw [hw1]; exact heap_alloc_last w _
  have c0 : w1.cell? ⟨w.heap.size, 0, none⟩ = some (.string ⟨#[]⟩) := by simp [World.cell?, hblk]
  have c1 : w1.cell? ⟨w.heap.size, 1, none⟩ = some (.string ⟨#[]⟩) := by simp [World.cell?, hblk]
  have c2 : w1.cell? ⟨w.heap.size, 2, none⟩ = some (.int .i64 0) := by simp [World.cell?, hblk]
  have c3 : w1.cell? ⟨w.heap.size, 3, none⟩ = some (.int .i64 0) := by simp [World.cell?, hblk]
  have c4 : w1.cell? ⟨w.heap.size, 4, none⟩ = some (.int .i64 0) := by simp [World.cell?, hblk]
  have f0 : w1.frozen? ⟨w.heap.size, 0, none⟩ = false := frozen_of_row w1 _ _ _ _ hblk
  have f1 : w1.frozen? ⟨w.heap.size, 1, none⟩ = false := frozen_of_row w1 _ _ _ _ hblk
  have f2 : w1.frozen? ⟨w.heap.size, 2, none⟩ = false := frozen_of_row w1 _ _ _ _ hblk
  have f3 : w1.frozen? ⟨w.heap.size, 3, none⟩ = false := frozen_of_row w1 _ _ _ _ hblk
  have f4 : w1.frozen? ⟨w.heap.size, 4, none⟩ = false := frozen_of_row w1 _ _ _ _ hblk
  have HB1 : Below w.heap.size w w1 := by rw [hw1]; exact below_drewN ((Below.refl _ w).alloc (Nat.le_refl _) _) nq
  clear hw1
  cases hf : foundAt l k.data.toList p
  · have e1 := get_not HU.out hp hf
    have e2 := get_some HU.out hp
    obtain rfl : none = R := by rw [← e1]; exact HR.out
    clear hp e1 e2 HP hblk
    go_wp2
    refine bodyPost_ret (v := .tuple #[.agg #[.string ⟨#[]⟩, .string ⟨#[]⟩, .int .i64 0, .int .i64 0, .int .i64 0], .bool false]) (by simp [results, Try.results47, go_sem, c0, c1, c2, c3, c4]) rfl ⟨rfl, ((((HB1.setCell (p := ⟨w.heap.size, 0, none⟩) (Nat.le_refl _) _).setCell (p := ⟨w.heap.size, 1, none⟩) (Nat.le_refl _) _).setCell (p := ⟨w.heap.size, 2, none⟩) (Nat.le_refl _) _).setCell (p := ⟨w.heap.size, 3, none⟩) (Nat.le_refl _) _).setCell (p := ⟨w.heap.size, 4, none⟩) (Nat.le_refl _) _⟩
  · have e1 := get_found HU.out hp hf
    obtain ⟨y, hy⟩ : ∃ y, l[p]? = some y := by
      unfold foundAt at hf; split at hf
      · exact ⟨_, by assumption⟩
      · cases hf
    obtain rfl : some y = R := by rw [← hy, ← e1]; exact HR.out
    obtain ⟨g, c, d1, d2, d3, d4, d5, d6, d7, d8, d9, d10, -⟩ := HR1.row hy
    have q1 : (p : Int) < l.length := by have := (List.getElem?_eq_some_iff.1 hy).1; omega
    obtain ⟨y1, y2, y3, y4, y5⟩ := y
    simp only at d5 d6 d7 d8 d9
    clear hp e1 hy d10 hblk
    go_wp2
    refine bodyPost_ret (v := .tuple #[.agg #[.string y1, .string y2, .int .i64 y3, .int .i64 y4, .int .i64 y5], .bool true]) (by simp [results, Try.results47, go_sem, c0, c1, c2, c3, c4]) rfl ⟨rfl, ((((HB1.setCell (p := ⟨w.heap.size, 0, none⟩) (Nat.le_refl _) _).setCell (p := ⟨w.heap.size, 1, none⟩) (Nat.le_refl _) _).setCell (p := ⟨w.heap.size, 2, none⟩) (Nat.le_refl _) _).setCell (p := ⟨w.heap.size, 3, none⟩) (Nat.le_refl _) _).setCell (p := ⟨w.heap.size, 4, none⟩) (Nat.le_refl _) _⟩
end Go.Proofs.Ytndoloohdloflab
