/- A line taken apart, in the reference; conditions: texts that lie in memory. -/
import Derived.Test.YtmcemaphhlcjfaaDoorTake3
namespace Go.Proofs.YtmcemaphhlcjfaaDoor
open Go.RowKit

theorem hd58 (r : ByteArray) (h : 0 < r.size) : dblB r = ((r[0].toNat : Int) == 58) := by
  have e : ((r[0].toNat : Int) == 58) = (r[0] == 58) := by generalize r[0] = c; exact u8_eq c 58
  rw [e]
  unfold dblB
  have hl : 0 < r.data.toList.length := by simpa using h
  cases hq : r.data.toList with
  | nil => rw [hq] at hl; cases hl
  | cons y l =>
    have hy : r.data.toList[0]'hl = r[0] := get_list' r 0 h
    simp only [hq, List.getElem_cons_zero] at hy
    rw [← hy]
    show (58 :: ([] : List UInt8)).isPrefixOf (y :: l) = (y == 58)
    simp only [List.isPrefixOf, Bool.and_true]
    exact Bool.eq_iff_iff.2 (by simp only [beq_iff_eq]; exact eq_comm)
theorem dbl_0 (r : ByteArray) (h : r.size = 0) : dblB r = false := by
  have : r.data.toList = [] := List.eq_nil_of_length_eq_zero (by rw [Array.length_toList]; exact h)
  unfold dblB; rw [this]; rfl

theorem fin8w {fn : Func} {tmps : Array Value} {tm : Tmp} {w W : World} (hr : fn.results = #[.cell tm 24]) (hp : tmps.getD tm undef = .pointer (some ⟨w.heap.size, 0, none⟩)) (a0 a1 a2 a3 a4 a5 a6 a7 : Value)
    (hz : W.heap[w.heap.size]? = some (.cells #[a0, a1, a2, a3, a4, a5, a6, a7] 24 (0, 0))) (hB : Below w.heap.size w W) {V : Value} (hV : V = .agg #[a0, a1, a2, a3, a4, a5, a6, a7]) :
    bodyPost Tryd.prog fn (fun e w' => e = .returned V ∧ Below w.heap.size w w') Exit.ret { tmps := tmps, defers := [] } W := by
  subst hV
  exact bodyPost_ret (results_cell hr hp (load8 hz)) rfl ⟨rfl, hB⟩
theorem two8 {w w1 : World} {A B : Array Value} (hb1 : Below ((w.alloc (.cells A 24)).alloc (.cells B 24)).heap.size ((w.alloc (.cells A 24)).alloc (.cells B 24)) w1) :
    w1.heap[w.heap.size]? = some (.cells A 24 (0, 0)) ∧ w1.heap[w.heap.size + 1]? = some (.cells B 24 (0, 0)) ∧ Below w.heap.size w w1 ∧ w.heap.size + 1 < w1.heap.size := by
  have h1 : w1.heap[w.heap.size]? = some (.cells A 24 (0, 0)) := (hb1.block _ (by simp; omega)).trans ((Below.heap_alloc _ _ _ (by simp)).trans (World.alloc_heap_new w _))
  have h2 : w1.heap[w.heap.size + 1]? = some (.cells B 24 (0, 0)) := (hb1.block _ (by simp)).trans (by have := World.alloc_heap_new (w.alloc (.cells A 24)) (.cells B 24); rwa [World.size_alloc] at this)
  exact ⟨h1, h2, (((Below.refl _ w).alloc (Nat.le_refl _) _).alloc (by simp) _).trans (hb1.mono (by simp; omega)), lt_of_block h2⟩
theorem cutC_eq (r : ByteArray) (d : Bool) (h : dblB r = d) : cutC r = if d then r.extract 1 r.size else r := by unfold cutC; rw [h]
theorem dbl_pos (r : ByteArray) (h : dblB r = true) : 0 < r.size := by
  by_cases h0 : r.size = 0
  · rw [dbl_0 r h0] at h; cases h
  · omega
theorem hd58f (r : ByteArray) (h : 0 < r.size) (hd : dblB r = false) : ((r[0].toNat : Int) == 58) = false := by rw [← hd58 r h]; exact hd
theorem hd58t (r : ByteArray) (h : 0 < r.size) (hd : dblB r = true) : (r[0].toNat : Int) = 58 := by have := hd58 r h; rw [hd] at this; exact (beq_iff_eq.1 this.symm)
theorem cutC_le (r : ByteArray) : (cutC r).size ≤ r.size := by unfold cutC; split <;> simp <;> omega

set_option maxRecDepth 100000 in
set_option maxHeartbeats 1000000 in
theorem takeR_none (s : ByteArray) (w : World) (hs : s.size ≤ 140737488351232) (h : scanI s bEC < 0) :
    Calls Tryd.prog 12 #[.string s] w fun e w' => e = .returned (headV (takeP s)) ∧ Below w.heap.size w w' := by
  have HS : Hid (∀ w, Calls Tryd.prog 38 #[.string s, .string ⟨#[61, 58]⟩] w fun e w' => e = .returned (.int .i64 (scanI s bEC)) ∧ w' = w) := fun w => ScanR_any s bEC w hs (by decide)
  have e1 : takeP s = ⟨0, s, bE, bE, bE, 0, false, false⟩ := by unfold takeP; rw [if_pos h]
  rw [e1]
  generalize scanI s bEC = k at *
  clear e1
  go_enter Tryd.func12, Tryd.ntmps12
  go_wp2_with fail
  refine (HS.out _).mono ?_
  rintro e w' ⟨rfl, rfl⟩
  go_wp2
  exact fin8w (tm := 2) (by kernel_rfl) rfl (.int .i64 0) (.string s) (.string ⟨#[]⟩) (.string ⟨#[]⟩) (.string ⟨#[]⟩) (.int .i64 0) (.bool false) (.bool false) (World.alloc_heap_new w _) ((Below.refl _ w).alloc (Nat.le_refl _) _) rfl

set_option maxRecDepth 100000 in
set_option maxHeartbeats 1000000 in
theorem takeR_sets (s : ByteArray) (w : World) (hs : s.size ≤ 140737488351232) (h0 : ¬ scanI s bEC < 0) (h : setsB s (scanI s bEC).toNat = true) :
    Calls Tryd.prog 12 #[.string s] w fun e w' => e = .returned (headV (takeP s)) ∧ Below w.heap.size w w' := by
  have HS : Hid (∀ w, Calls Tryd.prog 38 #[.string s, .string ⟨#[61, 58]⟩] w fun e w' => e = .returned (.int .i64 (scanI s bEC)) ∧ w' = w) := fun w => ScanR_any s bEC w hs (by decide)
  have e1 : takeP s = asgAt s (scanI s bEC).toNat := by unfold takeP; rw [if_neg h0, if_pos h]
  have hin := scanI_in s bEC
  obtain ⟨k, hk⟩ : ∃ k : Nat, scanI s bEC = k := ⟨(scanI s bEC).toNat, by omega⟩
  have HSe := Lib.hid fun w => sets_any s k w hs (by omega)
  have HA := Lib.hid fun w => assigned_any s k w hs (by omega) (by rw [hk, Int.toNat_natCast] at h; exact h)
  rw [hk, Int.toNat_natCast] at h e1
  rw [hk] at HS
  rw [h] at HSe
  rw [e1]
  clear e1 hin h0 h hk
  obtain ⟨X, hX⟩ : ∃ X, asgAt s k = X := ⟨_, rfl⟩
  rw [hX] at HA ⊢
  clear hX
  obtain ⟨xk, xl, xr, xn, xrc, xs, xd, xh⟩ := X
  go_enter Tryd.func12, Tryd.ntmps12
  go_wp2_with fail
  refine (HS.out _).mono ?_
  rintro e w' ⟨rfl, rfl⟩
  go_wp2_with fail
  refine (HSe.out _).mono ?_
  rintro e w' ⟨rfl, rfl⟩
  go_wp2_with fail
  refine (HA.out _).mono ?_
  rintro e w1 ⟨rfl, hb1⟩
  have hz : w1.heap[w.heap.size]? = some (.cells #[.int .i64 0, .string ⟨#[]⟩, .string ⟨#[]⟩, .string ⟨#[]⟩, .string ⟨#[]⟩, .int .i64 0, .bool false, .bool false] 24 (0, 0)) := (hb1.block _ (by simp)).trans (World.alloc_heap_new w _)
  have hB : Below w.heap.size w w1 := ((Below.refl _ w).alloc (Nat.le_refl _) _).trans (hb1.mono (by simp))
  have hlt : w.heap.size < w1.heap.size := lt_of_block hz
  obtain ⟨c0, c1, c2, c3, c4, c5, c6, c7, f0, f1, f2, f3, f4, f5, f6, f7⟩ := row8 hz
  have HZ := Lib.hid hz
  clear hz hb1
  unfold headV
  go_wp2
  exact fin8w (tm := 2) (by kernel_rfl) rfl _ _ _ _ _ _ _ _ (set8 HZ.out (.int .i64 xk) (.string xl) (.string xr) (.string xn) (.string xrc) (.int .i64 xs) (.bool xd) (.bool xh)) (put8_below hB (Nat.le_refl _) _ _ _ _ _ _ _ _) rfl

end Go.Proofs.YtmcemaphhlcjfaaDoor
