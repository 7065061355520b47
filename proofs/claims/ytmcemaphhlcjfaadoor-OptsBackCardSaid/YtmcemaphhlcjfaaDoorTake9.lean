/- A line that is a rule, taken apart in the program; and Take for every line; conditions: texts that lie in memory. -/
import Derived.Test.YtmcemaphhlcjfaaDoorTake8
namespace Go.Proofs.YtmcemaphhlcjfaaDoor
open Go.RowKit

set_option maxRecDepth 100000 in
set_option maxHeartbeats 4000000 in
theorem take_tail (s : ByteArray) (w : World) (hs : s.size ≤ 140737488351232) (h0 : ¬ scanI s bEC < 0) (h : setsB s (scanI s bEC).toNat = false) (ho : ownB (cutC (s.extract ((scanI s bEC).toNat + 1) s.size)) = false)
    (HREC : Hid (∀ (r : ByteArray) (w : World), r.size < s.size → Calls Tryd.prog 11 #[.string r] w fun e w' => e = .returned (headV (takeP r)) ∧ Below w.heap.size w w')) :
    Calls Tryd.prog 11 #[.string s] w fun e w' => e = .returned (headV (takeP s)) ∧ Below w.heap.size w w' := by
  have HS : Hid (∀ w, Calls Tryd.prog 33 #[.string s, .string ⟨#[61, 58]⟩] w fun e w' => e = .returned (.int .i64 (scanI s bEC)) ∧ w' = w) := fun w => Scan_any s bEC w hs (by decide)
  have hin := scanI_in s bEC
  obtain ⟨k, hk⟩ : ∃ k : Nat, scanI s bEC = k := ⟨(scanI s bEC).toNat, by omega⟩
  have hks : k < s.size := by omega
  have hlt0 : k ≤ s.size := by omega
  have H3 : Hid (∀ w, Calls Tryd.prog 34 #[.string (s.extract k s.size), .string ⟨#[58, 58, 61]⟩] w fun e w' => e = .returned (.bool (bgn s k bCCE)) ∧ w' = w) := fun w => by
    have h := Tryd.strings_HasPrefix (s.extract k s.size) bCCE w
    rw [ext_list] at h; exact h
  have H2 : Hid (∀ w, Calls Tryd.prog 34 #[.string (s.extract k s.size), .string ⟨#[58, 61]⟩] w fun e w' => e = .returned (.bool (bgn s k bCE)) ∧ w' = w) := fun w => by
    have h := Tryd.strings_HasPrefix (s.extract k s.size) bCE w
    rw [ext_list] at h; exact h
  have hrz : (s.extract k s.size).size = s.size - k := by simp
  have hrp : 0 < (s.extract k s.size).size := by omega
  have hget := ext_get s k hks hrp
  have hex : ∀ j, (s.extract k s.size).extract j (s.extract k s.size).size = s.extract (k + j) s.size := ext_ext s k
  rw [hk] at HS
  rw [hk, Int.toNat_natCast] at h ho
  have hs2 := sets_false h
  have e1 : takeP s = restP (s.extract 0 k) (cutC (s.extract (k + 1) s.size)) (dblB (s.extract (k + 1) s.size)) := by unfold takeP; rw [if_neg h0, hk, Int.toNat_natCast, if_neg (by rw [h]; simp)]
  rw [e1]
  clear e1 hin h0 h
  obtain ⟨rs, hrs⟩ : ∃ rs, s.extract k s.size = rs := ⟨_, rfl⟩
  rw [hrs] at H3 H2 hrz
  rw [hs2.2.1] at H2
  rw [hs2.2.2] at H3
  have hrp' : 0 < rs.size := by omega
  have hx : ((rs[0].toNat : Int) == 61) = false := by
    have e : rs[0] = s.get! k := by subst hrs; rw [hget, bget s k hks]
    rw [e]
    have e2 : (((s.get! k).toNat : Int) == 61) = (s.get! k == 61) := by generalize s.get! k = c; exact u8_eq c 61
    rw [e2]; exact beq_eq_false_iff_ne.2 hs2.1
  obtain ⟨r0, hr0⟩ : ∃ r0, rs.extract 1 rs.size = r0 := ⟨_, rfl⟩
  have ej : s.extract (k + 1) s.size = r0 := by rw [← hr0, ← hrs]; exact (hex 1).symm
  rw [ej] at ho ⊢
  have hr0z : r0.size = s.size - (k + 1) := by rw [← ej]; simp
  have HCP : Hid (∀ w, Calls Tryd.prog 36 #[.string r0, .string ⟨#[58]⟩] w fun e w' => e = .returned (.tuple #[.string (cutC r0), .bool (dblB r0)]) ∧ w' = w) := fun w => by
    have h := Tryd.strings_CutPrefix r0 bC w
    rw [trim_cutC] at h; exact h
  have hrl := cutC_le r0
  generalize dblB r0 = d at *
  generalize cutC r0 = r at *
  have hrz2 : r.size ≤ 140737488351232 := by omega
  have hrec : r.size < s.size := by omega
  have HQ : Hid (∀ w, Calls Tryd.prog 33 #[.string r, .string ⟨#[59]⟩] w fun e w' => e = .returned (.int .i64 (scanI r bS)) ∧ w' = w) := fun w => Scan_any r bS w hrz2 (by decide)
  have HE : Hid (∀ w, Calls Tryd.prog 33 #[.string r, .string ⟨#[61]⟩] w fun e w' => e = .returned (.int .i64 (scanI r bEq)) ∧ w' = w) := fun w => Scan_any r bEq w hrz2 (by decide)
  have HT := Lib.hid fun w => HREC.out r w hrec
  have q0 : (0 : Int) < rs.size := by omega
  have q1 : 1 ≤ rs.size := by omega
  have q2 : (1 : Int) ≤ rs.size := by omega
  have hq := scanI_in r bS
  have hown := own_iff r
  have hown2 := own_take r
  unfold restP
  clear hs2 hget hex hrp hrz hr0z ej HREC hrec hrl
  rw [if_neg (by rw [ho]; simp)]
  unfold tailP
  have hcase : ¬ (takeP r).k = 1 ∨ ((takeP r).k = 1 ∧ 0 ≤ scanI r bS ∧ ¬ scanI r bEq < scanI r bS) := by
    by_cases hk1 : (takeP r).k = 1
    · right
      refine ⟨hk1, ?_, ?_⟩
      · rcases hq with hq | hq
        · exact absurd (hown.1 ⟨hk1, .inl (by omega)⟩) (by rw [ho]; simp)
        · exact hq.1
      · intro hc
        exact absurd (hown.1 ⟨hk1, .inr hc⟩) (by rw [ho]; simp)
    · exact .inl hk1
  have htail : (scanI r bS < 0 ∧ scanI r bS = -1) ∨ ∃ q2 : Nat, scanI r bS = q2 ∧ q2 < r.size := by
    rcases hq with hq | ⟨h1, h2⟩
    · left; omega
    · right; exact ⟨(scanI r bS).toNat, by omega, by omega⟩
  clear hown hown2 ho hq
  generalize scanI r bS = Q at *
  generalize scanI r bEq = E at *
  obtain ⟨X, hX⟩ : ∃ X, takeP r = X := ⟨_, rfl⟩
  rw [hX] at HT hcase
  clear hX
  obtain ⟨xk, xl, xr, xn, xrc, xs, xd, xh⟩ := X
  have hcase' : ¬ xk = 1 ∨ (xk = 1 ∧ 0 ≤ Q ∧ ¬ E < Q) := hcase
  clear hcase
  rcases htail with ⟨t1, rfl⟩ | ⟨q2, rfl, t1⟩
  · rw [if_pos t1]
    clear t1
    have hcase : ¬ xk = 1 := by rcases hcase' with h | h; exact h; exact absurd h.2.1 (by decide)
    have hcb : (xk == 1) = false := beq_eq_false_iff_ne.2 hcase
    clear hcase hcase'
    go_enter Tryd.func11, Tryd.ntmps11
    go_wp2_with fail
    refine (HS.out _).mono ?_
    rintro e w' ⟨rfl, rfl⟩
    go_wp2_with fail
    refine (H3.out _).mono ?_
    rintro e w' ⟨rfl, rfl⟩
    go_wp2_with fail
    refine (H2.out _).mono ?_
    rintro e w' ⟨rfl, rfl⟩
    go_wp2_with fail
    refine (HCP.out _).mono ?_
    rintro e w' ⟨rfl, rfl⟩
    go_wp2_with fail
    refine (HQ.out _).mono ?_
    rintro e w' ⟨rfl, rfl⟩
    go_wp2_with fail
    refine (HT.out _).mono ?_
    rintro e w1 ⟨rfl, hb1⟩
    obtain ⟨hz, hy, hB, hlt⟩ := two8 hb1
    obtain ⟨c0, c1, c2, c3, c4, c5, c6, c7, f0, f1, f2, f3, f4, f5, f6, f7⟩ := row8 hz
    obtain ⟨d0, d1, d2, d3, d4, d5, d6, d7, g0, g1, g2, g3, g4, g5, g6, g7⟩ := row8 hy
    have HZ := Lib.hid hz
    have HY := Lib.hid hy
    have HB := Lib.hid hB
    clear hz hy hb1 hB
    unfold headV
    go_upto_region 24 with fail
    obtain ⟨w2, hw2⟩ : ∃ w2, (((w1.setCell ⟨w.heap.size + 1, 0, none⟩ (.int .i64 2)).setCell ⟨w.heap.size + 1, 2, none⟩ (.string r)).alloc (.cells #[.int .i64 xk, .string xl, .string xr, .string xn, .string xrc, .int .i64 xs, .bool xd, .bool xh] 24)) = w2 := ⟨_, rfl⟩
    rw [hw2]
    have p1 := (heap_setCell_same _ (w.heap.size + 1) 2 _ 24 (.string r) (heap_setCell_same w1 (w.heap.size + 1) 0 _ 24 (.int .i64 2) HY.out))
    have p2 := (Below.heap_alloc _ (.cells #[.int .i64 xk, .string xl, .string xr, .string xn, .string xrc, .int .i64 xs, .bool xd, .bool xh] 24) _ (lt_of_block p1)).trans p1
    replace p2 := (show (((w1.setCell ⟨w.heap.size + 1, 0, none⟩ (.int .i64 2)).setCell ⟨w.heap.size + 1, 2, none⟩ (.string r)).alloc (.cells #[.int .i64 xk, .string xl, .string xr, .string xn, .string xrc, .int .i64 xs, .bool xd, .bool xh] 24)).heap[w.heap.size + 1]? = _ from p2)
    rw [hw2] at p2
    have p3 : w2.heap[w.heap.size]? = some (.cells #[.int .i64 0, .string ⟨#[]⟩, .string ⟨#[]⟩, .string ⟨#[]⟩, .string ⟨#[]⟩, .int .i64 0, .bool false, .bool false] 24 (0, 0)) := by
      rw [← hw2]
      rw [Below.heap_alloc _ _ _ (by simp; omega), Below.heap_setCell _ _ _ _ (by simp), Below.heap_setCell _ _ _ _ (by simp)]
      exact HZ.out
    have p4 : Below w.heap.size w w2 := by
      rw [← hw2]
      exact (((HB.out.setCell (p := ⟨w.heap.size + 1, 0, none⟩) (by simp) _).setCell (p := ⟨w.heap.size + 1, 2, none⟩) (by simp) _).alloc (by simp; omega) _)
    have hlt3 : w.heap.size + 1 < w2.heap.size := lt_of_block p2
    clear hw2 p1 c0 c1 c2 c3 c4 c5 c6 c7 f0 f1 f2 f3 f4 f5 f6 f7 d0 d1 d2 d3 d4 d5 d6 d7 g0 g1 g2 g3 g4 g5 g6 g7 HZ HY HB
    simp at p2
    obtain ⟨c0, c1, c2, c3, c4, c5, c6, c7, f0, f1, f2, f3, f4, f5, f6, f7⟩ := row8 p3
    obtain ⟨d0, d1, d2, d3, d4, d5, d6, d7, g0, g1, g2, g3, g4, g5, g6, g7⟩ := row8 p2
    have HZ := Lib.hid p3
    have HY := Lib.hid p2
    have HB := Lib.hid p4
    clear p2 p3 p4
    go_wp2
    exact fin8w (tm := 2) (by kernel_rfl) rfl _ _ _ _ _ _ _ _ (set8 HZ.out (.int .i64 2) (.string (s.extract 0 k)) (.string r) (.string ⟨#[]⟩) (.string ⟨#[]⟩) (.int .i64 0) (.bool d) (.bool false)) (put8_below HB.out (Nat.le_refl _) _ _ _ _ _ _ _ _) rfl
  · rw [if_neg (by omega), Int.toNat_natCast]
    have HL : Hid (∀ w, Calls Tryd.prog 37 #[.string (r.extract (q2 + 1) r.size), .string ⟨#[32, 9, 10]⟩] w fun e w' => e = .returned (.string (lftB (r.extract (q2 + 1) r.size))) ∧ Below w.heap.size w w') := fun w => TrimLeft_any _ w (by simp; omega)
    have v1 : IntKind.i64.wrap ((q2 : Int) + 1) = ((q2 + 1 : Nat) : Int) := by rw [IntWalk.i64_in _ (by omega)]; omega
    have v2 : q2 + 1 ≤ r.size := by omega
    have v3 : q2 ≤ r.size := by omega
    generalize lftB (r.extract (q2 + 1) r.size) = L at *
    rcases hcase' with hc | ⟨rfl, hc1, hc2⟩
    · have hcb : (xk == 1) = false := beq_eq_false_iff_ne.2 hc
      clear hc
      go_enter Tryd.func11, Tryd.ntmps11
      go_wp2_with fail
      refine (HS.out _).mono ?_
      rintro e w' ⟨rfl, rfl⟩
      go_wp2_with fail
      refine (H3.out _).mono ?_
      rintro e w' ⟨rfl, rfl⟩
      go_wp2_with fail
      refine (H2.out _).mono ?_
      rintro e w' ⟨rfl, rfl⟩
      go_wp2_with fail
      refine (HCP.out _).mono ?_
      rintro e w' ⟨rfl, rfl⟩
      go_wp2_with fail
      refine (HQ.out _).mono ?_
      rintro e w' ⟨rfl, rfl⟩
      go_wp2_with fail
      refine (HT.out _).mono ?_
      rintro e w1 ⟨rfl, hb1⟩
      obtain ⟨hz, hy, hB, hlt⟩ := two8 hb1
      obtain ⟨c0, c1, c2, c3, c4, c5, c6, c7, f0, f1, f2, f3, f4, f5, f6, f7⟩ := row8 hz
      obtain ⟨d0, d1, d2, d3, d4, d5, d6, d7, g0, g1, g2, g3, g4, g5, g6, g7⟩ := row8 hy
      have HZ := Lib.hid hz
      have HY := Lib.hid hy
      have HB := Lib.hid hB
      clear hz hy hb1 hB
      unfold headV
      go_upto_region 23 with fail
      obtain ⟨w2, hw2⟩ : ∃ w2, (((((w1.setCell ⟨w.heap.size + 1, 0, none⟩ (.int .i64 2)).setCell ⟨w.heap.size + 1, 2, none⟩ (.string r)).setCell ⟨w.heap.size + 1, 2, none⟩ (.string (r.extract 0 q2))).setCell ⟨w.heap.size + 1, 7, none⟩ (.bool true)).alloc (.cells #[.int .i64 xk, .string xl, .string xr, .string xn, .string xrc, .int .i64 xs, .bool xd, .bool xh] 24)) = w2 := ⟨_, rfl⟩
      rw [hw2]
      have p1 := (heap_setCell_same _ (w.heap.size + 1) 7 _ 24 (.bool true) (heap_setCell_same _ (w.heap.size + 1) 2 _ 24 (.string (r.extract 0 q2)) (heap_setCell_same _ (w.heap.size + 1) 2 _ 24 (.string r) (heap_setCell_same w1 (w.heap.size + 1) 0 _ 24 (.int .i64 2) HY.out))))
      have p2 := (Below.heap_alloc _ (.cells #[.int .i64 xk, .string xl, .string xr, .string xn, .string xrc, .int .i64 xs, .bool xd, .bool xh] 24) _ (lt_of_block p1)).trans p1
      replace p2 := (show (((((w1.setCell ⟨w.heap.size + 1, 0, none⟩ (.int .i64 2)).setCell ⟨w.heap.size + 1, 2, none⟩ (.string r)).setCell ⟨w.heap.size + 1, 2, none⟩ (.string (r.extract 0 q2))).setCell ⟨w.heap.size + 1, 7, none⟩ (.bool true)).alloc (.cells #[.int .i64 xk, .string xl, .string xr, .string xn, .string xrc, .int .i64 xs, .bool xd, .bool xh] 24)).heap[w.heap.size + 1]? = _ from p2)
      rw [hw2] at p2
      have p3 : w2.heap[w.heap.size]? = some (.cells #[.int .i64 0, .string ⟨#[]⟩, .string ⟨#[]⟩, .string ⟨#[]⟩, .string ⟨#[]⟩, .int .i64 0, .bool false, .bool false] 24 (0, 0)) := by
        rw [← hw2]
        rw [Below.heap_alloc _ _ _ (by simp; omega), Below.heap_setCell _ _ _ _ (by simp), Below.heap_setCell _ _ _ _ (by simp), Below.heap_setCell _ _ _ _ (by simp), Below.heap_setCell _ _ _ _ (by simp)]
        exact HZ.out
      have p4 : Below w.heap.size w w2 := by
        rw [← hw2]
        exact (((((HB.out.setCell (p := ⟨w.heap.size + 1, 0, none⟩) (by simp) _).setCell (p := ⟨w.heap.size + 1, 2, none⟩) (by simp) _).setCell (p := ⟨w.heap.size + 1, 2, none⟩) (by simp) _).setCell (p := ⟨w.heap.size + 1, 7, none⟩) (by simp) _).alloc (by simp; omega) _)
      have hlt3 : w.heap.size + 1 < w2.heap.size := lt_of_block p2
      clear hw2 p1 c0 c1 c2 c3 c4 c5 c6 c7 f0 f1 f2 f3 f4 f5 f6 f7 d0 d1 d2 d3 d4 d5 d6 d7 g0 g1 g2 g3 g4 g5 g6 g7 HZ HY HB
      simp at p2
      obtain ⟨c0, c1, c2, c3, c4, c5, c6, c7, f0, f1, f2, f3, f4, f5, f6, f7⟩ := row8 p3
      obtain ⟨d0, d1, d2, d3, d4, d5, d6, d7, g0, g1, g2, g3, g4, g5, g6, g7⟩ := row8 p2
      have HZ := Lib.hid p3
      have HY := Lib.hid p2
      have HB := Lib.hid p4
      clear p2 p3 p4
      go_wp2_with fail
      refine (HL.out _).mono ?_
      rintro e w3 ⟨rfl, hb3⟩
      have p2 := (hb3.block _ (lt_of_block HY.out)).trans HY.out
      have p3 := (hb3.block _ (lt_of_block HZ.out)).trans HZ.out
      have p4 := HB.out.trans (hb3.mono (Nat.le_of_lt (lt_of_block HZ.out)))
      clear hb3 HZ HY HB c0 c1 c2 c3 c4 c5 c6 c7 f0 f1 f2 f3 f4 f5 f6 f7 d0 d1 d2 d3 d4 d5 d6 d7 g0 g1 g2 g3 g4 g5 g6 g7
      obtain ⟨c0, c1, c2, c3, c4, c5, c6, c7, f0, f1, f2, f3, f4, f5, f6, f7⟩ := row8 p3
      obtain ⟨d0, d1, d2, d3, d4, d5, d6, d7, g0, g1, g2, g3, g4, g5, g6, g7⟩ := row8 p2
      have HZ := Lib.hid p3
      have HY := Lib.hid p2
      have HB := Lib.hid p4
      clear p2 p3 p4
      go_upto_region 24 with fail
      obtain ⟨w4, hw2⟩ : ∃ w2, (w3.setCell ⟨w.heap.size + 1, 4, none⟩ (.string L)) = w2 := ⟨_, rfl⟩
      rw [hw2]
      have p1 := (heap_setCell_same w3 (w.heap.size + 1) 4 _ 24 (.string L) HY.out)
      have p2 := p1
      replace p2 := (show (w3.setCell ⟨w.heap.size + 1, 4, none⟩ (.string L)).heap[w.heap.size + 1]? = _ from p2)
      rw [hw2] at p2
      have p3 : w4.heap[w.heap.size]? = some (.cells #[.int .i64 0, .string ⟨#[]⟩, .string ⟨#[]⟩, .string ⟨#[]⟩, .string ⟨#[]⟩, .int .i64 0, .bool false, .bool false] 24 (0, 0)) := by
        rw [← hw2]
        rw [Below.heap_setCell _ _ _ _ (by simp)]
        exact HZ.out
      have p4 : Below w.heap.size w w4 := by
        rw [← hw2]
        exact (HB.out.setCell (p := ⟨w.heap.size + 1, 4, none⟩) (by simp) _)
      have hlt3 : w.heap.size + 1 < w4.heap.size := lt_of_block p2
      clear hw2 p1 c0 c1 c2 c3 c4 c5 c6 c7 f0 f1 f2 f3 f4 f5 f6 f7 d0 d1 d2 d3 d4 d5 d6 d7 g0 g1 g2 g3 g4 g5 g6 g7 HZ HY HB
      simp at p2
      obtain ⟨c0, c1, c2, c3, c4, c5, c6, c7, f0, f1, f2, f3, f4, f5, f6, f7⟩ := row8 p3
      obtain ⟨d0, d1, d2, d3, d4, d5, d6, d7, g0, g1, g2, g3, g4, g5, g6, g7⟩ := row8 p2
      have HZ := Lib.hid p3
      have HY := Lib.hid p2
      have HB := Lib.hid p4
      clear p2 p3 p4
      go_wp2
      exact fin8w (tm := 2) (by kernel_rfl) rfl _ _ _ _ _ _ _ _ (set8 HZ.out (.int .i64 2) (.string (s.extract 0 k)) (.string (r.extract 0 q2)) (.string ⟨#[]⟩) (.string L) (.int .i64 0) (.bool d) (.bool true)) (put8_below HB.out (Nat.le_refl _) _ _ _ _ _ _ _ _) rfl
    · have hc3 : ¬ (q2 : Int) < 0 := by omega
      clear hc1
      go_enter Tryd.func11, Tryd.ntmps11
      go_wp2_with fail
      refine (HS.out _).mono ?_
      rintro e w' ⟨rfl, rfl⟩
      go_wp2_with fail
      refine (H3.out _).mono ?_
      rintro e w' ⟨rfl, rfl⟩
      go_wp2_with fail
      refine (H2.out _).mono ?_
      rintro e w' ⟨rfl, rfl⟩
      go_wp2_with fail
      refine (HCP.out _).mono ?_
      rintro e w' ⟨rfl, rfl⟩
      go_wp2_with fail
      refine (HQ.out _).mono ?_
      rintro e w' ⟨rfl, rfl⟩
      go_wp2_with fail
      refine (HT.out _).mono ?_
      rintro e w1 ⟨rfl, hb1⟩
      obtain ⟨hz, hy, hB, hlt⟩ := two8 hb1
      obtain ⟨c0, c1, c2, c3, c4, c5, c6, c7, f0, f1, f2, f3, f4, f5, f6, f7⟩ := row8 hz
      obtain ⟨d0, d1, d2, d3, d4, d5, d6, d7, g0, g1, g2, g3, g4, g5, g6, g7⟩ := row8 hy
      have HZ := Lib.hid hz
      have HY := Lib.hid hy
      have HB := Lib.hid hB
      clear hz hy hb1 hB
      unfold headV
      go_wp2_with fail
      refine (HE.out _).mono ?_
      rintro e w' ⟨rfl, rfl⟩
      go_upto_region 23 with fail
      obtain ⟨w2, hw2⟩ : ∃ w2, (((((w1.setCell ⟨w.heap.size + 1, 0, none⟩ (.int .i64 2)).setCell ⟨w.heap.size + 1, 2, none⟩ (.string r)).setCell ⟨w.heap.size + 1, 2, none⟩ (.string (r.extract 0 q2))).setCell ⟨w.heap.size + 1, 7, none⟩ (.bool true)).alloc (.cells #[.int .i64 1, .string xl, .string xr, .string xn, .string xrc, .int .i64 xs, .bool xd, .bool xh] 24)) = w2 := ⟨_, rfl⟩
      rw [hw2]
      have p1 := (heap_setCell_same _ (w.heap.size + 1) 7 _ 24 (.bool true) (heap_setCell_same _ (w.heap.size + 1) 2 _ 24 (.string (r.extract 0 q2)) (heap_setCell_same _ (w.heap.size + 1) 2 _ 24 (.string r) (heap_setCell_same w1 (w.heap.size + 1) 0 _ 24 (.int .i64 2) HY.out))))
      have p2 := (Below.heap_alloc _ (.cells #[.int .i64 1, .string xl, .string xr, .string xn, .string xrc, .int .i64 xs, .bool xd, .bool xh] 24) _ (lt_of_block p1)).trans p1
      replace p2 := (show (((((w1.setCell ⟨w.heap.size + 1, 0, none⟩ (.int .i64 2)).setCell ⟨w.heap.size + 1, 2, none⟩ (.string r)).setCell ⟨w.heap.size + 1, 2, none⟩ (.string (r.extract 0 q2))).setCell ⟨w.heap.size + 1, 7, none⟩ (.bool true)).alloc (.cells #[.int .i64 1, .string xl, .string xr, .string xn, .string xrc, .int .i64 xs, .bool xd, .bool xh] 24)).heap[w.heap.size + 1]? = _ from p2)
      rw [hw2] at p2
      have p3 : w2.heap[w.heap.size]? = some (.cells #[.int .i64 0, .string ⟨#[]⟩, .string ⟨#[]⟩, .string ⟨#[]⟩, .string ⟨#[]⟩, .int .i64 0, .bool false, .bool false] 24 (0, 0)) := by
        rw [← hw2]
        rw [Below.heap_alloc _ _ _ (by simp; omega), Below.heap_setCell _ _ _ _ (by simp), Below.heap_setCell _ _ _ _ (by simp), Below.heap_setCell _ _ _ _ (by simp), Below.heap_setCell _ _ _ _ (by simp)]
        exact HZ.out
      have p4 : Below w.heap.size w w2 := by
        rw [← hw2]
        exact (((((HB.out.setCell (p := ⟨w.heap.size + 1, 0, none⟩) (by simp) _).setCell (p := ⟨w.heap.size + 1, 2, none⟩) (by simp) _).setCell (p := ⟨w.heap.size + 1, 2, none⟩) (by simp) _).setCell (p := ⟨w.heap.size + 1, 7, none⟩) (by simp) _).alloc (by simp; omega) _)
      have hlt3 : w.heap.size + 1 < w2.heap.size := lt_of_block p2
      clear hw2 p1 c0 c1 c2 c3 c4 c5 c6 c7 f0 f1 f2 f3 f4 f5 f6 f7 d0 d1 d2 d3 d4 d5 d6 d7 g0 g1 g2 g3 g4 g5 g6 g7 HZ HY HB
      simp at p2
      obtain ⟨c0, c1, c2, c3, c4, c5, c6, c7, f0, f1, f2, f3, f4, f5, f6, f7⟩ := row8 p3
      obtain ⟨d0, d1, d2, d3, d4, d5, d6, d7, g0, g1, g2, g3, g4, g5, g6, g7⟩ := row8 p2
      have HZ := Lib.hid p3
      have HY := Lib.hid p2
      have HB := Lib.hid p4
      clear p2 p3 p4
      go_wp2_with fail
      refine (HL.out _).mono ?_
      rintro e w3 ⟨rfl, hb3⟩
      have p2 := (hb3.block _ (lt_of_block HY.out)).trans HY.out
      have p3 := (hb3.block _ (lt_of_block HZ.out)).trans HZ.out
      have p4 := HB.out.trans (hb3.mono (Nat.le_of_lt (lt_of_block HZ.out)))
      clear hb3 HZ HY HB c0 c1 c2 c3 c4 c5 c6 c7 f0 f1 f2 f3 f4 f5 f6 f7 d0 d1 d2 d3 d4 d5 d6 d7 g0 g1 g2 g3 g4 g5 g6 g7
      obtain ⟨c0, c1, c2, c3, c4, c5, c6, c7, f0, f1, f2, f3, f4, f5, f6, f7⟩ := row8 p3
      obtain ⟨d0, d1, d2, d3, d4, d5, d6, d7, g0, g1, g2, g3, g4, g5, g6, g7⟩ := row8 p2
      have HZ := Lib.hid p3
      have HY := Lib.hid p2
      have HB := Lib.hid p4
      clear p2 p3 p4
      go_upto_region 24 with fail
      obtain ⟨w4, hw2⟩ : ∃ w2, (w3.setCell ⟨w.heap.size + 1, 4, none⟩ (.string L)) = w2 := ⟨_, rfl⟩
      rw [hw2]
      have p1 := (heap_setCell_same w3 (w.heap.size + 1) 4 _ 24 (.string L) HY.out)
      have p2 := p1
      replace p2 := (show (w3.setCell ⟨w.heap.size + 1, 4, none⟩ (.string L)).heap[w.heap.size + 1]? = _ from p2)
      rw [hw2] at p2
      have p3 : w4.heap[w.heap.size]? = some (.cells #[.int .i64 0, .string ⟨#[]⟩, .string ⟨#[]⟩, .string ⟨#[]⟩, .string ⟨#[]⟩, .int .i64 0, .bool false, .bool false] 24 (0, 0)) := by
        rw [← hw2]
        rw [Below.heap_setCell _ _ _ _ (by simp)]
        exact HZ.out
      have p4 : Below w.heap.size w w4 := by
        rw [← hw2]
        exact (HB.out.setCell (p := ⟨w.heap.size + 1, 4, none⟩) (by simp) _)
      have hlt3 : w.heap.size + 1 < w4.heap.size := lt_of_block p2
      clear hw2 p1 c0 c1 c2 c3 c4 c5 c6 c7 f0 f1 f2 f3 f4 f5 f6 f7 d0 d1 d2 d3 d4 d5 d6 d7 g0 g1 g2 g3 g4 g5 g6 g7 HZ HY HB
      simp at p2
      obtain ⟨c0, c1, c2, c3, c4, c5, c6, c7, f0, f1, f2, f3, f4, f5, f6, f7⟩ := row8 p3
      obtain ⟨d0, d1, d2, d3, d4, d5, d6, d7, g0, g1, g2, g3, g4, g5, g6, g7⟩ := row8 p2
      have HZ := Lib.hid p3
      have HY := Lib.hid p2
      have HB := Lib.hid p4
      clear p2 p3 p4
      go_wp2
      exact fin8w (tm := 2) (by kernel_rfl) rfl _ _ _ _ _ _ _ _ (set8 HZ.out (.int .i64 2) (.string (s.extract 0 k)) (.string (r.extract 0 q2)) (.string ⟨#[]⟩) (.string L) (.int .i64 0) (.bool d) (.bool true)) (put8_below HB.out (Nat.le_refl _) _ _ _ _ _ _ _ _) rfl
theorem take_any : ∀ (n : Nat) (s : ByteArray) (w : World), s.size ≤ n → s.size ≤ 140737488351232 →
    Calls Tryd.prog 11 #[.string s] w fun e w' => e = .returned (headV (takeP s)) ∧ Below w.heap.size w w'
  | n, s, w, hn, hs => by
    by_cases h0 : scanI s bEC < 0
    · exact take_none s w hs h0
    · cases h : setsB s (scanI s bEC).toNat
      · have hin := scanI_in s bEC
        cases n with
        | zero => omega
        | succ n =>
          have HREC : Hid (∀ (r : ByteArray) (w : World), r.size < s.size → Calls Tryd.prog 11 #[.string r] w fun e w' => e = .returned (headV (takeP r)) ∧ Below w.heap.size w w') := fun r w hr => take_any n r w (by omega) (by omega)
          cases ho : ownB (cutC (s.extract ((scanI s bEC).toNat + 1) s.size))
          · exact take_tail s w hs h0 h ho HREC
          · exact take_own s w hs h0 h ho HREC
      · exact take_sets s w hs h0 h
theorem Take_any (s : ByteArray) (w : World) (hs : s.size ≤ 140737488351232) :
    Calls Tryd.prog 11 #[.string s] w fun e w' => e = .returned (headV (takeP s)) ∧ Below w.heap.size w w' := take_any s.size s w (Nat.le_refl _) hs
end Go.Proofs.YtmcemaphhlcjfaaDoor
