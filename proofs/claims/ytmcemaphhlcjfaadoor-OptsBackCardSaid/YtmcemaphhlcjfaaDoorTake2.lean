/- An assignment taken apart, in the reference; conditions: texts that lie in memory. -/
import Derived.Test.YtmcemaphhlcjfaaDoorTake1
import Derived.Deep.MidRow
namespace Go.Proofs.YtmcemaphhlcjfaaDoor
open Go.RowKit

theorem asgK_0 {t : ByteArray} (h : t.size = 0) : asgK t = (1, t) := by unfold asgK; rw [if_pos h]
theorem asgK_1 {t : ByteArray} (h : ¬ t.size = 0) (c : UInt8) (hc : t[t.size - 1]'(by omega) = c) :
    asgK t = if c = 43 then (4, trimB (t.extract 0 (t.size - 1))) else if c = 63 then (3, trimB (t.extract 0 (t.size - 1))) else if c = 33 then (5, trimB (t.extract 0 (t.size - 1))) else (1, t) := by
  unfold asgK; rw [if_neg h, ← bget t (t.size - 1) (by omega), hc]
theorem trimB_le (s : ByteArray) : (trimB s).size ≤ s.size := by
  unfold trimB; split
  · simp; omega
  · omega
theorem ne_u8 {c : UInt8} {n : Nat} (hn : n < 256) (h : ¬ c = UInt8.ofNat n) : ((c.toNat : Int) == (n : Int)) = false := by
  rw [beq_eq_false_iff_ne]; intro e; apply h
  refine UInt8.toNat_inj.1 ?_
  rw [UInt8.toNat_ofNat']
  omega
theorem results_cell {P : Program} {fn : Func} {tmps : Array Value} {t : Tmp} {ty : TypeId} {a : Addr} {v : Value} {w : World} (h : fn.results = #[.cell t ty]) (hp : tmps.getD t undef = .pointer (some a)) (hl : (loadVar ty a).run P w = .ok v w) :
    (results fn tmps).run P w = .ok v w := by
  have ha : (asAddr (tmps.getD t undef)).run P w = .ok a w := by rw [hp]; rfl
  unfold results
  rw [h]
  simp only [List.mapM_toArray, List.mapM_cons, List.mapM_nil, Sem.run_map, Sem.run_bind, Sem.run_pure, Result.andThen_ok, ha, hl]
  rfl
theorem load8 {W : World} {b : Nat} {a0 a1 a2 a3 a4 a5 a6 a7 : Value} (h : W.heap[b]? = some (.cells #[a0, a1, a2, a3, a4, a5, a6, a7] 24 (0, 0))) : (loadVar 24 ⟨b, 0, none⟩).run Tryd.prog W = .ok (.agg #[a0, a1, a2, a3, a4, a5, a6, a7]) W := by
  refine run_loadVar_mid W b 0 24 [a0, a1, a2, a3, a4, a5, a6, a7] _ (fun j v hv => ?_) Tryd.underlying24 rfl (by kernel_rfl)
  rw [Nat.zero_add, cell_of_row W b j _ 24 (0, 0) h]
  simpa using hv

set_option maxRecDepth 100000 in
set_option maxHeartbeats 1000000 in
theorem assigned_eq (s : ByteArray) (k : Nat) (w : World) (hs : s.size ≤ 140737488351232) (hk : k < s.size) (h1 : s.get! k = 58) (h2 : bgn s k bCE = true ∨ bgn s k bCCE = true) :
    Calls Tryd.prog 40 #[.string s, .int .i64 k] w fun e w' => e = .returned (headV (asgAt s k)) ∧ Below w.heap.size w w' := by
  have HT := Lib.hid fun w => Trim27_any (s.extract 0 k) w (by simp; omega)
  have HA : Hid (∀ w, Calls Tryd.prog 69 #[.string s, .int .i64 k, .string ⟨#[58, 58, 61]⟩] w fun e w' => e = .returned (.bool (bgn s k bCCE)) ∧ w' = w) := fun w => at_any s bCCE k w hs (by omega) (by decide) (by decide)
  have hx : (s[k].toNat : Int) = 58 := by rw [bget s k hk, h1]; rfl
  have q1 : (k : Int) < s.size := by omega
  have q2 : k ≤ s.size := by omega
  cases hb : bgn s k bCCE
  · have h3 : bgn s k bCE = true := by rw [hb] at h2; simpa using h2
    have h4 : k + 2 ≤ s.size := bgn_lt h3 (by decide)
    have e1 : asgAt s k = ⟨1, trimB (s.extract 0 k), lftB (s.extract (k + 2) s.size), bE, bE, 2, false, false⟩ := by
      unfold asgAt asgP; rw [if_pos h1, hb]; simp
    rw [hb] at HA
    rw [e1]
    have HL := Lib.hid fun w => Left_any (s.extract (k + 2) s.size) w (by simp; omega)
    have w1 : IntKind.i64.wrap ((k : Int) + 1) = (k : Int) + 1 := IntWalk.i64_in _ (by omega)
    have w2 : IntKind.i64.wrap ((k : Int) + 1 + 1) = ((k + 2 : Nat) : Int) := by rw [IntWalk.i64_in _ (by omega)]; omega
    clear hb h1 h2 h3 e1
    generalize trimB (s.extract 0 k) = T at *
    generalize lftB (s.extract (k + 2) s.size) = L at *
    go_enter Tryd.func40, Tryd.ntmps40
    go_wp2_with fail
    refine (HT.out _).mono ?_
    rintro e w' ⟨rfl, rfl⟩
    go_wp2_with fail
    refine (HA.out _).mono ?_
    rintro e w' ⟨rfl, rfl⟩
    go_wp2_with fail
    refine (HL.out _).mono ?_
    rintro e w' ⟨rfl, rfl⟩
    go_wp2
    exact bodyPost_ret (v := headV ⟨1, T, L, bE, bE, 2, false, false⟩) (results_cell (t := 4) (ty := 24) (a := ⟨w.heap.size, 0, none⟩) (by kernel_rfl) rfl (load8 ((Below.heap_alloc _ _ _ (by simp)).trans (World.alloc_heap_new w _)))) rfl ⟨rfl, ((Below.refl _ w).alloc (Nat.le_refl _) _).alloc (by simp) _⟩
  · have h4 : k + 3 ≤ s.size := bgn_lt hb (by decide)
    have e1 : asgAt s k = ⟨1, trimB (s.extract 0 k), lftB (s.extract (k + 3) s.size), bE, bE, 2, false, false⟩ := by
      unfold asgAt asgP; rw [if_pos h1, hb]; simp
    rw [hb] at HA
    rw [e1]
    have HL := Lib.hid fun w => Left_any (s.extract (k + 3) s.size) w (by simp; omega)
    have w1 : IntKind.i64.wrap ((k : Int) + 2) = (k : Int) + 2 := IntWalk.i64_in _ (by omega)
    have w2 : IntKind.i64.wrap ((k : Int) + 2 + 1) = ((k + 3 : Nat) : Int) := by rw [IntWalk.i64_in _ (by omega)]; omega
    clear hb h1 h2 e1
    generalize trimB (s.extract 0 k) = T at *
    generalize lftB (s.extract (k + 3) s.size) = L at *
    go_enter Tryd.func40, Tryd.ntmps40
    go_wp2_with fail
    refine (HT.out _).mono ?_
    rintro e w' ⟨rfl, rfl⟩
    go_wp2_with fail
    refine (HA.out _).mono ?_
    rintro e w' ⟨rfl, rfl⟩
    go_wp2_with fail
    refine (HL.out _).mono ?_
    rintro e w' ⟨rfl, rfl⟩
    go_wp2
    exact bodyPost_ret (v := headV ⟨1, T, L, bE, bE, 2, false, false⟩) (results_cell (t := 4) (ty := 24) (a := ⟨w.heap.size, 0, none⟩) (by kernel_rfl) rfl (load8 ((Below.heap_alloc _ _ _ (by simp)).trans (World.alloc_heap_new w _)))) rfl ⟨rfl, ((Below.refl _ w).alloc (Nat.le_refl _) _).alloc (by simp) _⟩

set_option maxRecDepth 100000 in
set_option maxHeartbeats 1000000 in
theorem assigned_eqs (s : ByteArray) (k : Nat) (w : World) (hs : s.size ≤ 140737488351232) (hk : k < s.size) (h1 : s.get! k = 61) :
    Calls Tryd.prog 40 #[.string s, .int .i64 k] w fun e w' => e = .returned (headV (asgAt s k)) ∧ Below w.heap.size w w' := by
  have HT := Lib.hid fun w => Trim27_any (s.extract 0 k) w (by simp; omega)
  have HL := Lib.hid fun w => Left_any (s.extract (k + 1) s.size) w (by simp; omega)
  have hx : (s[k].toNat : Int) = 61 := by rw [bget s k hk, h1]; rfl
  have q1 : (k : Int) < s.size := by omega
  have q2 : k ≤ s.size := by omega
  have h4 : k + 1 ≤ s.size := by omega
  have e1 : asgAt s k = ⟨1, (asgK (trimB (s.extract 0 k))).2, lftB (s.extract (k + 1) s.size), bE, bE, (asgK (trimB (s.extract 0 k))).1, false, false⟩ := by
    unfold asgAt asgP; rw [h1, if_neg (by decide), if_pos rfl]
  have w1 : IntKind.i64.wrap ((k : Int) + 1) = (k : Int) + 1 := IntWalk.i64_in _ (by omega)
  have hT : (trimB (s.extract 0 k)).size ≤ 140737488351232 := by have := trimB_le (s.extract 0 k); simp at this; omega
  rw [e1]
  clear e1 h1
  generalize trimB (s.extract 0 k) = T at *
  generalize lftB (s.extract (k + 1) s.size) = L at *
  by_cases h0 : T.size = 0
  · rw [asgK_0 h0]
    have p0 : (T.size : Int) = 0 := by omega
    go_enter Tryd.func40, Tryd.ntmps40
    go_wp2_with fail
    refine (HT.out _).mono ?_
    rintro e w' ⟨rfl, rfl⟩
    go_wp2_with fail
    refine (HL.out _).mono ?_
    rintro e w' ⟨rfl, rfl⟩
    go_wp2
    exact bodyPost_ret (v := headV ⟨1, T, L, bE, bE, 1, false, false⟩) (results_cell (t := 4) (ty := 24) (a := ⟨w.heap.size, 0, none⟩) (by kernel_rfl) rfl (load8 ((Below.heap_alloc _ _ _ (by simp)).trans (World.alloc_heap_new w _)))) rfl ⟨rfl, ((Below.refl _ w).alloc (Nat.le_refl _) _).alloc (by simp) _⟩
  · obtain ⟨c, hc⟩ : ∃ c, T[T.size - 1]'(by omega) = c := ⟨_, rfl⟩
    have HT2 := Lib.hid fun w => Trim27_any (T.extract 0 (T.size - 1)) w (by simp; omega)
    have hx2 : ((T[T.size - 1]'(by omega)).toNat : Int) = c.toNat := by rw [hc]
    rw [asgK_1 h0 c hc]
    have p0 : (0 : Int) < T.size := by omega
    have p1 : IntKind.i64.wrap ((T.size : Int) - 1) = ((T.size - 1 : Nat) : Int) := by rw [IntWalk.i64_in _ (by omega)]; omega
    have p2 : T.size - 1 < T.size := by omega
    have p3 : T.size - 1 ≤ T.size := by omega
    generalize trimB (T.extract 0 (T.size - 1)) = T2 at *
    clear hc
    by_cases c43 : c = 43
    · rw [if_pos c43]
      have hx3 : (c.toNat : Int) = 43 := by rw [c43]; rfl
      rw [hx3] at hx2
      clear hx3 c43
      go_enter Tryd.func40, Tryd.ntmps40
      go_wp2_with fail
      refine (HT.out _).mono ?_
      rintro e w' ⟨rfl, rfl⟩
      go_wp2_with fail
      refine (HT2.out _).mono ?_
      rintro e w' ⟨rfl, rfl⟩
      go_wp2_with fail
      refine (HL.out _).mono ?_
      rintro e w' ⟨rfl, rfl⟩
      go_wp2
      exact bodyPost_ret (v := headV ⟨1, T2, L, bE, bE, 4, false, false⟩) (results_cell (t := 4) (ty := 24) (a := ⟨w.heap.size, 0, none⟩) (by kernel_rfl) rfl (load8 ((Below.heap_alloc _ _ _ (by simp)).trans (World.alloc_heap_new w _)))) rfl ⟨rfl, ((Below.refl _ w).alloc (Nat.le_refl _) _).alloc (by simp) _⟩
    rw [if_neg c43]
    have n43 := ne_u8 (n := 43) (by decide) c43
    rw [← hx2] at n43
    have m43 : (((T[T.size - 1]'(by omega)).toNat : Int) == 43) = false := n43
    by_cases c63 : c = 63
    · rw [if_pos c63]
      have hx3 : (c.toNat : Int) = 63 := by rw [c63]; rfl
      rw [hx3] at hx2
      clear hx3 c63
      go_enter Tryd.func40, Tryd.ntmps40
      go_wp2_with fail
      refine (HT.out _).mono ?_
      rintro e w' ⟨rfl, rfl⟩
      go_wp2_with fail
      refine (HT2.out _).mono ?_
      rintro e w' ⟨rfl, rfl⟩
      go_wp2_with fail
      refine (HL.out _).mono ?_
      rintro e w' ⟨rfl, rfl⟩
      go_wp2
      exact bodyPost_ret (v := headV ⟨1, T2, L, bE, bE, 3, false, false⟩) (results_cell (t := 4) (ty := 24) (a := ⟨w.heap.size, 0, none⟩) (by kernel_rfl) rfl (load8 ((Below.heap_alloc _ _ _ (by simp)).trans (World.alloc_heap_new w _)))) rfl ⟨rfl, ((Below.refl _ w).alloc (Nat.le_refl _) _).alloc (by simp) _⟩
    rw [if_neg c63]
    have n63 := ne_u8 (n := 63) (by decide) c63
    rw [← hx2] at n63
    have m63 : (((T[T.size - 1]'(by omega)).toNat : Int) == 63) = false := n63
    by_cases c33 : c = 33
    · rw [if_pos c33]
      have hx3 : (c.toNat : Int) = 33 := by rw [c33]; rfl
      rw [hx3] at hx2
      clear hx3 c33
      go_enter Tryd.func40, Tryd.ntmps40
      go_wp2_with fail
      refine (HT.out _).mono ?_
      rintro e w' ⟨rfl, rfl⟩
      go_wp2_with fail
      refine (HT2.out _).mono ?_
      rintro e w' ⟨rfl, rfl⟩
      go_wp2_with fail
      refine (HL.out _).mono ?_
      rintro e w' ⟨rfl, rfl⟩
      go_wp2
      exact bodyPost_ret (v := headV ⟨1, T2, L, bE, bE, 5, false, false⟩) (results_cell (t := 4) (ty := 24) (a := ⟨w.heap.size, 0, none⟩) (by kernel_rfl) rfl (load8 ((Below.heap_alloc _ _ _ (by simp)).trans (World.alloc_heap_new w _)))) rfl ⟨rfl, ((Below.refl _ w).alloc (Nat.le_refl _) _).alloc (by simp) _⟩
    rw [if_neg c33]
    have n33 := ne_u8 (n := 33) (by decide) c33
    rw [← hx2] at n33
    have m33 : (((T[T.size - 1]'(by omega)).toNat : Int) == 33) = false := n33
    clear c43 c63 c33 n43 n63 n33 hx2
    go_enter Tryd.func40, Tryd.ntmps40
    go_wp2_with fail
    refine (HT.out _).mono ?_
    rintro e w' ⟨rfl, rfl⟩
    go_wp2_with fail
    refine (HL.out _).mono ?_
    rintro e w' ⟨rfl, rfl⟩
    go_wp2
    exact bodyPost_ret (v := headV ⟨1, T, L, bE, bE, 1, false, false⟩) (results_cell (t := 4) (ty := 24) (a := ⟨w.heap.size, 0, none⟩) (by kernel_rfl) rfl (load8 ((Below.heap_alloc _ _ _ (by simp)).trans (World.alloc_heap_new w _)))) rfl ⟨rfl, ((Below.refl _ w).alloc (Nat.le_refl _) _).alloc (by simp) _⟩
theorem assigned_any (s : ByteArray) (k : Nat) (w : World) (hs : s.size ≤ 140737488351232) (hk : k < s.size) (h : setsB s k = true) :
    Calls Tryd.prog 40 #[.string s, .int .i64 k] w fun e w' => e = .returned (headV (asgAt s k)) ∧ Below w.heap.size w w' := by
  unfold setsB at h
  simp only [Bool.or_eq_true, beq_iff_eq] at h
  rcases h with h | h
  · exact assigned_eqs s k w hs hk h
  · have h1 : s.get! k = 58 := by
      rcases h with h | h
      · exact (bgn_get h 0 (by decide)).2
      · exact (bgn_get h 0 (by decide)).2
    exact assigned_eq s k w hs hk h1 h
end Go.Proofs.YtmcemaphhlcjfaaDoor
