/- An assignment taken apart, in the program; conditions: texts that lie in memory. -/
import Derived.Test.YtmcemaphhlcjfaaDoorTake2
namespace Go.Proofs.YtmcemaphhlcjfaaDoor
open Go.RowKit

theorem lt_of_block {w : World} {b : Nat} {o : Obj} (h : w.heap[b]? = some o) : b < w.heap.size := (Array.getElem?_eq_some_iff.1 h).1
theorem row8 {w : World} {b : Nat} {a0 a1 a2 a3 a4 a5 a6 a7 : Value} {t : TypeId} (h : w.heap[b]? = some (.cells #[a0, a1, a2, a3, a4, a5, a6, a7] t (0, 0))) :
    w.cell? ⟨b, 0, none⟩ = some a0 ∧ w.cell? ⟨b, 1, none⟩ = some a1 ∧ w.cell? ⟨b, 2, none⟩ = some a2 ∧ w.cell? ⟨b, 3, none⟩ = some a3 ∧ w.cell? ⟨b, 4, none⟩ = some a4 ∧ w.cell? ⟨b, 5, none⟩ = some a5 ∧ w.cell? ⟨b, 6, none⟩ = some a6 ∧ w.cell? ⟨b, 7, none⟩ = some a7 ∧
    w.frozen? ⟨b, 0, none⟩ = false ∧ w.frozen? ⟨b, 1, none⟩ = false ∧ w.frozen? ⟨b, 2, none⟩ = false ∧ w.frozen? ⟨b, 3, none⟩ = false ∧ w.frozen? ⟨b, 4, none⟩ = false ∧ w.frozen? ⟨b, 5, none⟩ = false ∧ w.frozen? ⟨b, 6, none⟩ = false ∧ w.frozen? ⟨b, 7, none⟩ = false := by
  simp [World.cell?, World.frozen?, h]
def put8 (w : World) (b : Nat) (a0 a1 a2 a3 a4 a5 a6 a7 : Value) : World :=
  (((((((w.setCell ⟨b, 0, none⟩ a0).setCell ⟨b, 1, none⟩ a1).setCell ⟨b, 2, none⟩ a2).setCell ⟨b, 3, none⟩ a3).setCell ⟨b, 4, none⟩ a4).setCell ⟨b, 5, none⟩ a5).setCell ⟨b, 6, none⟩ a6).setCell ⟨b, 7, none⟩ a7
theorem set8 {w : World} {b : Nat} {z0 z1 z2 z3 z4 z5 z6 z7 : Value} {t : TypeId} (h : w.heap[b]? = some (.cells #[z0, z1, z2, z3, z4, z5, z6, z7] t (0, 0))) (a0 a1 a2 a3 a4 a5 a6 a7 : Value) :
    (put8 w b a0 a1 a2 a3 a4 a5 a6 a7).heap[b]? = some (.cells #[a0, a1, a2, a3, a4, a5, a6, a7] t (0, 0)) := by
  have h0 := heap_setCell_same w b 0 _ t a0 h
  have h1 := heap_setCell_same _ b 1 _ t a1 h0
  have h2 := heap_setCell_same _ b 2 _ t a2 h1
  have h3 := heap_setCell_same _ b 3 _ t a3 h2
  have h4 := heap_setCell_same _ b 4 _ t a4 h3
  have h5 := heap_setCell_same _ b 5 _ t a5 h4
  have h6 := heap_setCell_same _ b 6 _ t a6 h5
  have h7 := heap_setCell_same _ b 7 _ t a7 h6
  simpa [put8] using h7
theorem put8_below {B b : Nat} {w0 w : World} (h : Below B w0 w) (hb : B ≤ b) (a0 a1 a2 a3 a4 a5 a6 a7 : Value) : Below B w0 (put8 w b a0 a1 a2 a3 a4 a5 a6 a7) :=
  (((((((h.setCell (p := ⟨b, 0, none⟩) hb _).setCell (p := ⟨b, 1, none⟩) hb _).setCell (p := ⟨b, 2, none⟩) hb _).setCell (p := ⟨b, 3, none⟩) hb _).setCell (p := ⟨b, 4, none⟩) hb _).setCell (p := ⟨b, 5, none⟩) hb _).setCell (p := ⟨b, 6, none⟩) hb _).setCell (p := ⟨b, 7, none⟩) hb _
theorem fin8 {fn : Func} {tmps : Array Value} {tm : Tmp} {w w1 : World} {z0 z1 z2 z3 z4 z5 z6 z7 : Value} (hr : fn.results = #[.cell tm 24]) (hp : tmps.getD tm undef = .pointer (some ⟨w.heap.size, 0, none⟩))
    (hz : w1.heap[w.heap.size]? = some (.cells #[z0, z1, z2, z3, z4, z5, z6, z7] 24 (0, 0))) (hB : Below w.heap.size w w1) (_ : w.heap.size < w1.heap.size) (o : Obj) (a0 a1 a2 a3 a4 a5 a6 a7 : Value) {V : Value} (hV : V = .agg #[a0, a1, a2, a3, a4, a5, a6, a7]) :
    bodyPost Tryd.prog fn (fun e w' => e = .returned V ∧ Below w.heap.size w w') Exit.ret { tmps := tmps, defers := [] } ((put8 w1 w.heap.size a0 a1 a2 a3 a4 a5 a6 a7).alloc o) := by
  subst hV
  exact bodyPost_ret (results_cell hr hp (load8 ((Below.heap_alloc _ _ _ (lt_of_block (set8 hz a0 a1 a2 a3 a4 a5 a6 a7))).trans (set8 hz a0 a1 a2 a3 a4 a5 a6 a7)))) rfl ⟨rfl, (put8_below hB (Nat.le_refl _) _ _ _ _ _ _ _ _).alloc (Nat.le_of_lt (lt_of_block (set8 hz a0 a1 a2 a3 a4 a5 a6 a7))) _⟩

set_option maxRecDepth 100000 in
set_option maxHeartbeats 1000000 in
theorem assignment_2 (l r : ByteArray) (w : World) (hl : l.size ≤ 140737488351232) (hr : r.size ≤ 140737488351232) :
    Calls Tryd.prog 35 #[.string l, .string r, .int .i64 2] w fun e w' => e = .returned (headV (asgP l r 2)) ∧ Below w.heap.size w w' := by
  have HT := Lib.hid fun w => Trim26_any l w hl
  have HL : Hid (∀ w, Calls Tryd.prog 37 #[.string r, .string ⟨#[32, 9, 10]⟩] w fun e w' => e = .returned (.string (lftB r)) ∧ Below w.heap.size w w') := fun w => TrimLeft_any r w hr
  have e1 : asgP l r 2 = ⟨1, trimB l, lftB r, bE, bE, 2, false, false⟩ := by unfold asgP; rw [if_neg (by decide)]
  rw [e1]
  clear e1
  generalize trimB l = T at *
  generalize lftB r = L at *
  go_enter Tryd.func35, Tryd.ntmps35
  go_wp2_with fail
  refine (HT.out _).mono ?_
  rintro e w' ⟨rfl, rfl⟩
  go_wp2_with fail
  refine (HL.out _).mono ?_
  rintro e w1 ⟨rfl, hb1⟩
  have hz : w1.heap[w.heap.size]? = some (.cells #[.int .i64 0, .string ⟨#[]⟩, .string ⟨#[]⟩, .string ⟨#[]⟩, .string ⟨#[]⟩, .int .i64 0, .bool false, .bool false] 24 (0, 0)) := (hb1.block _ (by simp)).trans (World.alloc_heap_new w _)
  have hB : Below w.heap.size w w1 := ((Below.refl _ w).alloc (Nat.le_refl _) _).trans (hb1.mono (by simp))
  have hlt : w.heap.size < w1.heap.size := lt_of_block hz
  obtain ⟨c0, c1, c2, c3, c4, c5, c6, c7, f0, f1, f2, f3, f4, f5, f6, f7⟩ := row8 hz
  have HZ := Lib.hid hz
  clear hz hb1
  go_wp2
  exact fin8 (tm := 6) (by kernel_rfl) rfl HZ.out hB hlt _ (.int .i64 1) (.string T) (.string L) (.string ⟨#[]⟩) (.string ⟨#[]⟩) (.int .i64 2) (.bool false) (.bool false) rfl

set_option maxRecDepth 100000 in
set_option maxHeartbeats 1000000 in
theorem assignment_0 (l r : ByteArray) (w : World) (hl : l.size ≤ 140737488351232) (hr : r.size ≤ 140737488351232) :
    Calls Tryd.prog 35 #[.string l, .string r, .int .i64 0] w fun e w' => e = .returned (headV (asgP l r 0)) ∧ Below w.heap.size w w' := by
  have HT := Lib.hid fun w => Trim26_any l w hl
  have HL : Hid (∀ w, Calls Tryd.prog 37 #[.string r, .string ⟨#[32, 9, 10]⟩] w fun e w' => e = .returned (.string (lftB r)) ∧ Below w.heap.size w w') := fun w => TrimLeft_any r w hr
  have e1 : asgP l r 0 = ⟨1, (asgK (trimB l)).2, lftB r, bE, bE, (asgK (trimB l)).1, false, false⟩ := by unfold asgP; rw [if_pos rfl]
  have hT : (trimB l).size ≤ 140737488351232 := by have := trimB_le l; omega
  rw [e1]
  clear e1
  generalize trimB l = T at *
  generalize lftB r = L at *
  by_cases h0 : T.size = 0
  · rw [asgK_0 h0]
    obtain rfl : T = ⟨#[]⟩ := ba_ext (List.eq_nil_of_length_eq_zero (by rw [Array.length_toList]; exact h0))
    clear h0
    go_enter Tryd.func35, Tryd.ntmps35
    go_wp2_with fail
    refine (HT.out _).mono ?_
    rintro e w' ⟨rfl, rfl⟩
    go_wp2_with fail
    refine (HL.out _).mono ?_
    rintro e w1 ⟨rfl, hb1⟩
    have hz : w1.heap[w.heap.size]? = some (.cells #[.int .i64 0, .string ⟨#[]⟩, .string ⟨#[]⟩, .string ⟨#[]⟩, .string ⟨#[]⟩, .int .i64 0, .bool false, .bool false] 24 (0, 0)) := (hb1.block _ (by simp)).trans (World.alloc_heap_new w _)
    have hB : Below w.heap.size w w1 := ((Below.refl _ w).alloc (Nat.le_refl _) _).trans (hb1.mono (by simp))
    have hlt : w.heap.size < w1.heap.size := lt_of_block hz
    obtain ⟨c0, c1, c2, c3, c4, c5, c6, c7, f0, f1, f2, f3, f4, f5, f6, f7⟩ := row8 hz
    have HZ := Lib.hid hz
    clear hz hb1
    go_wp2
    exact fin8 (tm := 6) (by kernel_rfl) rfl HZ.out hB hlt _ (.int .i64 1) (.string ⟨#[]⟩) (.string L) (.string ⟨#[]⟩) (.string ⟨#[]⟩) (.int .i64 1) (.bool false) (.bool false) rfl
  · obtain ⟨c, hc⟩ : ∃ c, T[T.size - 1]'(by omega) = c := ⟨_, rfl⟩
    have HT2 := Lib.hid fun w => Trim26_any (T.extract 0 (T.size - 1)) w (by simp; omega)
    have hx2 : ((T[T.size - 1]'(by omega)).toNat : Int) = c.toNat := by rw [hc]
    have hne : (T.toList == []) = false := by rw [ba_toList, beq_eq_false_iff_ne]; intro h; apply h0; have : T.data.toList.length = 0 := by rw [h]; rfl
                                              rw [Array.length_toList] at this; exact this
    rw [asgK_1 h0 c hc]
    have p0 : (0 : Int) < T.size := by omega
    have p1 : IntKind.i64.wrap ((T.size : Int) - 1) = ((T.size - 1 : Nat) : Int) := by rw [IntWalk.i64_in _ (by omega)]; omega
    have p2 : T.size - 1 < T.size := by omega
    have p3 : T.size - 1 ≤ T.size := by omega
    generalize trimB (T.extract 0 (T.size - 1)) = T2 at *
    clear hc
    by_cases c43 : c = 43
    · rw [if_pos c43]
      have hx3 : (c.toNat : Int) = 43 := by rw [c43]; rfl
      rw [hx3] at hx2
      clear hx3 c43
      go_enter Tryd.func35, Tryd.ntmps35
      go_wp2_with fail
      refine (HT.out _).mono ?_
      rintro e w' ⟨rfl, rfl⟩
      go_wp2_with fail
      refine (HL.out _).mono ?_
      rintro e w1 ⟨rfl, hb1⟩
      have hz : w1.heap[w.heap.size]? = some (.cells #[.int .i64 0, .string ⟨#[]⟩, .string ⟨#[]⟩, .string ⟨#[]⟩, .string ⟨#[]⟩, .int .i64 0, .bool false, .bool false] 24 (0, 0)) := (hb1.block _ (by simp)).trans (World.alloc_heap_new w _)
      have hB : Below w.heap.size w w1 := ((Below.refl _ w).alloc (Nat.le_refl _) _).trans (hb1.mono (by simp))
      have hlt : w.heap.size < w1.heap.size := lt_of_block hz
      obtain ⟨c0, c1, c2, c3, c4, c5, c6, c7, f0, f1, f2, f3, f4, f5, f6, f7⟩ := row8 hz
      have HZ := Lib.hid hz
      clear hz hb1
      go_wp2_with fail
      refine (HT2.out _).mono ?_
      rintro e w' ⟨rfl, rfl⟩
      go_wp2
      exact fin8 (tm := 6) (by kernel_rfl) rfl HZ.out hB hlt _ (.int .i64 1) (.string T2) (.string L) (.string ⟨#[]⟩) (.string ⟨#[]⟩) (.int .i64 4) (.bool false) (.bool false) rfl
    rw [if_neg c43]
    have n43 := ne_u8 (n := 43) (by decide) c43
    rw [← hx2] at n43
    have m43 : (((T[T.size - 1]'(by omega)).toNat : Int) == 43) = false := n43
    by_cases c63 : c = 63
    · rw [if_pos c63]
      have hx3 : (c.toNat : Int) = 63 := by rw [c63]; rfl
      rw [hx3] at hx2
      clear hx3 c63
      go_enter Tryd.func35, Tryd.ntmps35
      go_wp2_with fail
      refine (HT.out _).mono ?_
      rintro e w' ⟨rfl, rfl⟩
      go_wp2_with fail
      refine (HL.out _).mono ?_
      rintro e w1 ⟨rfl, hb1⟩
      have hz : w1.heap[w.heap.size]? = some (.cells #[.int .i64 0, .string ⟨#[]⟩, .string ⟨#[]⟩, .string ⟨#[]⟩, .string ⟨#[]⟩, .int .i64 0, .bool false, .bool false] 24 (0, 0)) := (hb1.block _ (by simp)).trans (World.alloc_heap_new w _)
      have hB : Below w.heap.size w w1 := ((Below.refl _ w).alloc (Nat.le_refl _) _).trans (hb1.mono (by simp))
      have hlt : w.heap.size < w1.heap.size := lt_of_block hz
      obtain ⟨c0, c1, c2, c3, c4, c5, c6, c7, f0, f1, f2, f3, f4, f5, f6, f7⟩ := row8 hz
      have HZ := Lib.hid hz
      clear hz hb1
      go_wp2_with fail
      refine (HT2.out _).mono ?_
      rintro e w' ⟨rfl, rfl⟩
      go_wp2
      exact fin8 (tm := 6) (by kernel_rfl) rfl HZ.out hB hlt _ (.int .i64 1) (.string T2) (.string L) (.string ⟨#[]⟩) (.string ⟨#[]⟩) (.int .i64 3) (.bool false) (.bool false) rfl
    rw [if_neg c63]
    have n63 := ne_u8 (n := 63) (by decide) c63
    rw [← hx2] at n63
    have m63 : (((T[T.size - 1]'(by omega)).toNat : Int) == 63) = false := n63
    by_cases c33 : c = 33
    · rw [if_pos c33]
      have hx3 : (c.toNat : Int) = 33 := by rw [c33]; rfl
      rw [hx3] at hx2
      clear hx3 c33
      go_enter Tryd.func35, Tryd.ntmps35
      go_wp2_with fail
      refine (HT.out _).mono ?_
      rintro e w' ⟨rfl, rfl⟩
      go_wp2_with fail
      refine (HL.out _).mono ?_
      rintro e w1 ⟨rfl, hb1⟩
      have hz : w1.heap[w.heap.size]? = some (.cells #[.int .i64 0, .string ⟨#[]⟩, .string ⟨#[]⟩, .string ⟨#[]⟩, .string ⟨#[]⟩, .int .i64 0, .bool false, .bool false] 24 (0, 0)) := (hb1.block _ (by simp)).trans (World.alloc_heap_new w _)
      have hB : Below w.heap.size w w1 := ((Below.refl _ w).alloc (Nat.le_refl _) _).trans (hb1.mono (by simp))
      have hlt : w.heap.size < w1.heap.size := lt_of_block hz
      obtain ⟨c0, c1, c2, c3, c4, c5, c6, c7, f0, f1, f2, f3, f4, f5, f6, f7⟩ := row8 hz
      have HZ := Lib.hid hz
      clear hz hb1
      go_wp2_with fail
      refine (HT2.out _).mono ?_
      rintro e w' ⟨rfl, rfl⟩
      go_wp2
      exact fin8 (tm := 6) (by kernel_rfl) rfl HZ.out hB hlt _ (.int .i64 1) (.string T2) (.string L) (.string ⟨#[]⟩) (.string ⟨#[]⟩) (.int .i64 5) (.bool false) (.bool false) rfl
    rw [if_neg c33]
    have n33 := ne_u8 (n := 33) (by decide) c33
    rw [← hx2] at n33
    have m33 : (((T[T.size - 1]'(by omega)).toNat : Int) == 33) = false := n33
    clear c43 c63 c33 n43 n63 n33 hx2
    go_enter Tryd.func35, Tryd.ntmps35
    go_wp2_with fail
    refine (HT.out _).mono ?_
    rintro e w' ⟨rfl, rfl⟩
    go_wp2_with fail
    refine (HL.out _).mono ?_
    rintro e w1 ⟨rfl, hb1⟩
    have hz : w1.heap[w.heap.size]? = some (.cells #[.int .i64 0, .string ⟨#[]⟩, .string ⟨#[]⟩, .string ⟨#[]⟩, .string ⟨#[]⟩, .int .i64 0, .bool false, .bool false] 24 (0, 0)) := (hb1.block _ (by simp)).trans (World.alloc_heap_new w _)
    have hB : Below w.heap.size w w1 := ((Below.refl _ w).alloc (Nat.le_refl _) _).trans (hb1.mono (by simp))
    have hlt : w.heap.size < w1.heap.size := lt_of_block hz
    obtain ⟨c0, c1, c2, c3, c4, c5, c6, c7, f0, f1, f2, f3, f4, f5, f6, f7⟩ := row8 hz
    have HZ := Lib.hid hz
    clear hz hb1
    go_wp2
    exact fin8 (tm := 6) (by kernel_rfl) rfl HZ.out hB hlt _ (.int .i64 1) (.string T) (.string L) (.string ⟨#[]⟩) (.string ⟨#[]⟩) (.int .i64 1) (.bool false) (.bool false) rfl
end Go.Proofs.YtmcemaphhlcjfaaDoor
