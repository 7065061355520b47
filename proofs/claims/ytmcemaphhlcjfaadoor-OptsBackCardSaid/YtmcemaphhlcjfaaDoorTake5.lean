/- A line that is no assignment taken apart, in the reference; conditions: texts that lie in memory. -/
import Derived.Test.YtmcemaphhlcjfaaDoorTake4
import Derived.Deep.Cut
namespace Go.Proofs.YtmcemaphhlcjfaaDoor
open Go.RowKit

set_option maxRecDepth 100000 in
set_option maxHeartbeats 1000000 in
theorem takeR_own (s : ByteArray) (w : World) (hs : s.size ≤ 140737488351232) (h0 : ¬ scanI s bEC < 0) (h : setsB s (scanI s bEC).toNat = false) (ho : ownB (cutC (s.extract ((scanI s bEC).toNat + 1) s.size)) = true) :
    Calls Tryd.prog 12 #[.string s] w fun e w' => e = .returned (headV (takeP s)) ∧ Below w.heap.size w w' := by
  have HS : Hid (∀ w, Calls Tryd.prog 38 #[.string s, .string ⟨#[61, 58]⟩] w fun e w' => e = .returned (.int .i64 (scanI s bEC)) ∧ w' = w) := fun w => ScanR_any s bEC w hs (by decide)
  have hin := scanI_in s bEC
  obtain ⟨k, hk⟩ : ∃ k : Nat, scanI s bEC = k := ⟨(scanI s bEC).toNat, by omega⟩
  have HSe := Lib.hid fun w => sets_any s k w hs (by omega)
  have e1 : takeP s = restP (s.extract 0 k) (cutC (s.extract (k + 1) s.size)) (dblB (s.extract (k + 1) s.size)) := by unfold takeP; rw [if_neg h0, if_neg (by rw [h]; simp), hk, Int.toNat_natCast]
  rw [hk, Int.toNat_natCast] at h ho
  rw [hk] at HS
  rw [h] at HSe
  have hlt1 : k + 1 ≤ s.size := by omega
  have hlt0 : k ≤ s.size := by omega
  have w1 : IntKind.i64.wrap ((k : Int) + 1) = ((k + 1 : Nat) : Int) := by rw [IntWalk.i64_in _ (by omega)]; omega
  rw [e1]
  clear e1 hin h0 h hk
  have hrs : (s.extract (k + 1) s.size).size ≤ 140737488351232 := by simp; omega
  obtain ⟨r0, hr0⟩ : ∃ r0, s.extract (k + 1) s.size = r0 := ⟨_, rfl⟩
  rw [hr0] at hrs ho ⊢
  obtain ⟨r, hr⟩ : ∃ r, cutC r0 = r := ⟨_, rfl⟩
  have hrz : r.size ≤ 140737488351232 := by have := cutC_le r0; rw [hr] at this; omega
  rw [hr] at ho ⊢
  unfold restP
  rw [if_pos ho]
  have hq := scanI_in r bECS
  have HQ : Hid (∀ w, Calls Tryd.prog 38 #[.string r, .string ⟨#[61, 58, 59]⟩] w fun e w' => e = .returned (.int .i64 (scanI r bECS)) ∧ w' = w) := fun w => ScanR_any r bECS w hrz (by decide)
  unfold ownB at ho
  simp only [Bool.and_eq_true, decide_eq_true_eq] at ho
  obtain ⟨ho1, ho2, ho3⟩ := ho
  obtain ⟨q, hqq⟩ : ∃ q : Nat, scanI r bECS = q := ⟨(scanI r bECS).toNat, by omega⟩
  rw [hqq] at hq
  rw [hqq, Int.toNat_natCast] at ho2 ho3 ⊢
  rw [hqq] at HQ
  have hqr : q < r.size := by omega
  have HSq := Lib.hid fun w => sets_any r q w hrz hqr
  rw [ho3] at HSq
  have HA := Lib.hid fun w => assigned_any r q w hrz hqr ho3
  have hne : ((r[q].toNat : Int) == 59) = false := by
    rw [← bget r q hqr] at ho2
    generalize r[q] = c at ho2
    have e : ((c.toNat : Int) == 59) = (c == 59) := u8_eq c 59
    rw [e]; simpa using ho2
  have qn : (q : Int) < r.size := by omega
  have hne2 : ((r[q].toNat : Int) != 59) = true := by rw [bne, hne]; rfl
  obtain ⟨X, hX⟩ : ∃ X, asgAt r q = X := ⟨_, rfl⟩
  rw [hX] at HA ⊢
  clear hX ho1 ho2 ho3 hqq hq
  obtain ⟨xk, xl, xr, xn, xrc, xs, xd, xh⟩ := X
  cases hd : dblB r0
  · skip
    have hr2 : r0 = r := by rw [cutC_eq r0 false hd] at hr; simpa using hr
    subst hr2
    clear hr
    have hp0 : 0 < r0.size := by omega
    have q0 : (0 : Int) < r0.size := by omega
    have hx := hd58f r0 hp0 hd
    clear hd
    go_enter Tryd.func12, Tryd.ntmps12
    go_wp2_with fail
    refine (HS.out _).mono ?_
    rintro e w' ⟨rfl, rfl⟩
    go_wp2_with fail
    refine (HSe.out _).mono ?_
    rintro e w' ⟨rfl, rfl⟩
    go_wp2_with fail
    refine (HQ.out _).mono ?_
    rintro e w' ⟨rfl, rfl⟩
    go_wp2_with fail
    refine (HSq.out _).mono ?_
    rintro e w' ⟨rfl, rfl⟩
    go_wp2_with fail
    refine (HA.out _).mono ?_
    rintro e w1 ⟨rfl, hb1⟩
    obtain ⟨hz, hy, hB, hlt⟩ := two8 hb1
    obtain ⟨c0, c1, c2, c3, c4, c5, c6, c7, f0, f1, f2, f3, f4, f5, f6, f7⟩ := row8 hz
    obtain ⟨d0, d1, d2, d3, d4, d5, d6, d7, g0, g1, g2, g3, g4, g5, g6, g7⟩ := row8 hy
    have HZ := Lib.hid hz
    have HY := Lib.hid hy
    clear hz hy hb1
    unfold headV
    go_upto_region 20 with fail
    obtain ⟨w2, hw2⟩ : ∃ w2, (((((w1.setCell ⟨w.heap.size + 1, 0, none⟩ (.int .i64 3)).setCell ⟨w.heap.size + 1, 3, none⟩ (.string xl)).setCell ⟨w.heap.size + 1, 2, none⟩ (.string xr)).setCell ⟨w.heap.size + 1, 5, none⟩ (.int .i64 xs)).alloc (.cells #[.int .i64 xk, .string xl, .string xr, .string xn, .string xrc, .int .i64 xs, .bool xd, .bool xh] 24)) = w2 := ⟨_, rfl⟩
    rw [hw2]
    have p1 := heap_setCell_same _ _ 5 _ _ (.int .i64 xs) (heap_setCell_same _ _ 2 _ _ (.string xr) (heap_setCell_same _ _ 3 _ _ (.string xl) (heap_setCell_same w1 (w.heap.size + 1) 0 _ 24 (.int .i64 3) HY.out)))
    have p2 := (Below.heap_alloc _ (.cells #[.int .i64 xk, .string xl, .string xr, .string xn, .string xrc, .int .i64 xs, .bool xd, .bool xh] 24) _ (lt_of_block p1)).trans p1
    rw [hw2] at p2
    have p3 : w2.heap[w.heap.size]? = some (.cells #[.int .i64 0, .string ⟨#[]⟩, .string ⟨#[]⟩, .string ⟨#[]⟩, .string ⟨#[]⟩, .int .i64 0, .bool false, .bool false] 24 (0, 0)) := by
      rw [← hw2, Below.heap_alloc _ _ _ (by simp; omega), Below.heap_setCell _ _ _ _ (by simp), Below.heap_setCell _ _ _ _ (by simp), Below.heap_setCell _ _ _ _ (by simp), Below.heap_setCell _ _ _ _ (by simp)]
      exact HZ.out
    have p4 : Below w.heap.size w w2 := by
      rw [← hw2]
      exact (((((hB.setCell (p := ⟨w.heap.size + 1, 0, none⟩) (by simp) _).setCell (p := ⟨w.heap.size + 1, 3, none⟩) (by simp) _).setCell (p := ⟨w.heap.size + 1, 2, none⟩) (by simp) _).setCell (p := ⟨w.heap.size + 1, 5, none⟩) (by simp) _).alloc (by simp; omega) _)
    clear hw2 p1 c0 c1 c2 c3 c4 c5 c6 c7 f0 f1 f2 f3 f4 f5 f6 f7 d0 d1 d2 d3 d4 d5 d6 d7 g0 g1 g2 g3 g4 g5 g6 g7 HZ HY hB hlt
    simp at p2
    obtain ⟨c0, c1, c2, c3, c4, c5, c6, c7, f0, f1, f2, f3, f4, f5, f6, f7⟩ := row8 p3
    obtain ⟨d0, d1, d2, d3, d4, d5, d6, d7, g0, g1, g2, g3, g4, g5, g6, g7⟩ := row8 p2
    have HZ := Lib.hid p3
    have HB := Lib.hid p4
    clear p2 p3 p4
    go_wp2
    exact fin8w (tm := 2) (by kernel_rfl) rfl _ _ _ _ _ _ _ _ (set8 HZ.out (.int .i64 3) (.string (s.extract 0 k)) (.string xr) (.string xl) (.string ⟨#[]⟩) (.int .i64 xs) (.bool false) (.bool false)) (put8_below HB.out (Nat.le_refl _) _ _ _ _ _ _ _ _) rfl
  · skip
    rw [cutC_eq r0 true hd] at hr
    have hp0 : 0 < r0.size := dbl_pos r0 hd
    have hx := hd58t r0 hp0 hd
    have q0 : (0 : Int) < r0.size := by omega
    have q1 : 1 ≤ r0.size := by omega
    have hr2 : r0.extract 1 r0.size = r := by simpa using hr
    clear hr hd
    go_enter Tryd.func12, Tryd.ntmps12
    go_wp2_with fail
    refine (HS.out _).mono ?_
    rintro e w' ⟨rfl, rfl⟩
    go_wp2_with fail
    refine (HSe.out _).mono ?_
    rintro e w' ⟨rfl, rfl⟩
    go_wp2_with fail
    refine (HQ.out _).mono ?_
    rintro e w' ⟨rfl, rfl⟩
    go_wp2_with fail
    refine (HSq.out _).mono ?_
    rintro e w' ⟨rfl, rfl⟩
    go_wp2_with fail
    refine (HA.out _).mono ?_
    rintro e w1 ⟨rfl, hb1⟩
    obtain ⟨hz, hy, hB, hlt⟩ := two8 hb1
    obtain ⟨c0, c1, c2, c3, c4, c5, c6, c7, f0, f1, f2, f3, f4, f5, f6, f7⟩ := row8 hz
    obtain ⟨d0, d1, d2, d3, d4, d5, d6, d7, g0, g1, g2, g3, g4, g5, g6, g7⟩ := row8 hy
    have HZ := Lib.hid hz
    have HY := Lib.hid hy
    clear hz hy hb1
    unfold headV
    go_upto_region 20 with fail
    obtain ⟨w2, hw2⟩ : ∃ w2, (((((w1.setCell ⟨w.heap.size + 1, 0, none⟩ (.int .i64 3)).setCell ⟨w.heap.size + 1, 3, none⟩ (.string xl)).setCell ⟨w.heap.size + 1, 2, none⟩ (.string xr)).setCell ⟨w.heap.size + 1, 5, none⟩ (.int .i64 xs)).alloc (.cells #[.int .i64 xk, .string xl, .string xr, .string xn, .string xrc, .int .i64 xs, .bool xd, .bool xh] 24)) = w2 := ⟨_, rfl⟩
    rw [hw2]
    have p1 := heap_setCell_same _ _ 5 _ _ (.int .i64 xs) (heap_setCell_same _ _ 2 _ _ (.string xr) (heap_setCell_same _ _ 3 _ _ (.string xl) (heap_setCell_same w1 (w.heap.size + 1) 0 _ 24 (.int .i64 3) HY.out)))
    have p2 := (Below.heap_alloc _ (.cells #[.int .i64 xk, .string xl, .string xr, .string xn, .string xrc, .int .i64 xs, .bool xd, .bool xh] 24) _ (lt_of_block p1)).trans p1
    rw [hw2] at p2
    have p3 : w2.heap[w.heap.size]? = some (.cells #[.int .i64 0, .string ⟨#[]⟩, .string ⟨#[]⟩, .string ⟨#[]⟩, .string ⟨#[]⟩, .int .i64 0, .bool false, .bool false] 24 (0, 0)) := by
      rw [← hw2, Below.heap_alloc _ _ _ (by simp; omega), Below.heap_setCell _ _ _ _ (by simp), Below.heap_setCell _ _ _ _ (by simp), Below.heap_setCell _ _ _ _ (by simp), Below.heap_setCell _ _ _ _ (by simp)]
      exact HZ.out
    have p4 : Below w.heap.size w w2 := by
      rw [← hw2]
      exact (((((hB.setCell (p := ⟨w.heap.size + 1, 0, none⟩) (by simp) _).setCell (p := ⟨w.heap.size + 1, 3, none⟩) (by simp) _).setCell (p := ⟨w.heap.size + 1, 2, none⟩) (by simp) _).setCell (p := ⟨w.heap.size + 1, 5, none⟩) (by simp) _).alloc (by simp; omega) _)
    clear hw2 p1 c0 c1 c2 c3 c4 c5 c6 c7 f0 f1 f2 f3 f4 f5 f6 f7 d0 d1 d2 d3 d4 d5 d6 d7 g0 g1 g2 g3 g4 g5 g6 g7 HZ HY hB hlt
    simp at p2
    obtain ⟨c0, c1, c2, c3, c4, c5, c6, c7, f0, f1, f2, f3, f4, f5, f6, f7⟩ := row8 p3
    obtain ⟨d0, d1, d2, d3, d4, d5, d6, d7, g0, g1, g2, g3, g4, g5, g6, g7⟩ := row8 p2
    have HZ := Lib.hid p3
    have HB := Lib.hid p4
    clear p2 p3 p4
    go_wp2
    exact fin8w (tm := 2) (by kernel_rfl) rfl _ _ _ _ _ _ _ _ (set8 HZ.out (.int .i64 3) (.string (s.extract 0 k)) (.string xr) (.string xl) (.string ⟨#[]⟩) (.int .i64 xs) (.bool true) (.bool false)) (put8_below HB.out (Nat.le_refl _) _ _ _ _ _ _ _ _) rfl
end Go.Proofs.YtmcemaphhlcjfaaDoor
