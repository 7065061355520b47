/- parse: what gives up is told. parse. Conditions: as each part says. -/
import Derived.Test.YtioddclglemlmaaGreatDoorGramAl
import Derived.Test.YtioddclglemlmaaGreatDoorGramSc
import Derived.Recover
import Derived.Defers
/- parse: what gives up is told; conditions: tokens, the last one the end. -/
namespace Go.Proofs.YtioddclglemlmaaGreatDoor
open Go.RowKit


theorem run_assert_fault (v : Value) (w : World) : (Instr.typeAssert (.iface 55 v) 20 55 true).run Tryz.prog w = .ok (.tuple #[v, .bool true]) w := by
  simp [Instr.typeAssert, run_underlying Tryz.underlying55, go_sem, Result.andThen]
def fv (k n : Int) : Value := .iface 55 (.agg #[.int .i64 k, .iface 29 (.int .i64 n)])
theorem pcaught_idle (p q : Addr) (w : World) :
    CallsD Tryz.prog 18 #[.pointer (some p), .pointer (some q)] .returning w fun e u' w' => e = .returned (.tuple #[]) ∧ u' = .returning ∧ w' = w := by
  refine callsD_of_wpS Tryz.func18 rfl fun c₀ cs hu => ?_
  apply wpS_seq
  apply wpS_region
  simp [wpOpsS, go_sem, recoverD, hu, Tryz.ntmps18, Exit.thenS]
  refine wpS_of_wp ?_
  rw [show (#[Value.pointer (some p), Value.pointer (some q)] ++ ((Array.replicate 17 undef).setIfInBounds 3 Value.nilIface).setIfInBounds 0 Value.nilIface : Array Value) = #[.pointer (some p), .pointer (some q), .nilIface, undef, undef, .nilIface, undef, undef, undef, undef, undef, undef, undef, undef, undef, undef, undef, undef, undef] from by kernel_rfl]
  go_wp2
  cases c₀
  simp_all [bodyPostS, results, Tryz.results18]
set_option maxHeartbeats 1000000 in
theorem pcaught_panicking (c b : Nat) (k n : Int) (old : Value) (older : List PanicEntry) (w : World) (hc : w.heap[c]? = some (.cells #[.int .i64 0, .bool false, .slice none 0 0, .slice none 0 0, .slice none 0 0, .slice none 0 0, .slice none 0 0] 28 (0, 0))) (hb : w.heap[b]? = some (.cells #[old] 45 (0, 0))) :
    CallsD Tryz.prog 18 #[.pointer (some ⟨c, 0, none⟩), .pointer (some ⟨b, 0, none⟩)] (.panicking ({ v := fv k n, recovered := false } :: older)) w fun e u' w' =>
      e = .returned (.tuple #[]) ∧ u' = .panicking ({ v := fv k n, recovered := true } :: older) ∧ w'.heap[c]? = some (.cells #[.int .i64 0, .bool false, .slice none 0 0, .slice none 0 0, .slice none 0 0, .slice none 0 0, .slice none 0 0] 28 (0, 0)) ∧ w'.heap[b]? = some (.cells #[fv k n] 45 (0, 0)) ∧ Kept (fun i => i = c ∨ i = b) w w' := by
  have HTA := fun w => run_assert_fault (.agg #[.int .i64 k, .iface 29 (.int .i64 n)]) w
  unfold fv
  refine callsD_of_wpS Tryz.func18 rfl fun c₀ cs hu => ?_
  apply wpS_seq
  apply wpS_region
  simp [wpOpsS, go_sem, recoverD, hu, Tryz.ntmps18, Exit.thenS]
  refine wpS_of_wp ?_
  rw [show (#[Value.pointer (some ⟨c, 0, none⟩), Value.pointer (some ⟨b, 0, none⟩)] ++ ((Array.replicate 17 undef).setIfInBounds 3 (Value.iface 55 (.agg #[.int .i64 k, .iface 29 (.int .i64 n)]))).setIfInBounds 0 (Value.iface 55 (.agg #[.int .i64 k, .iface 29 (.int .i64 n)])) : Array Value) = #[.pointer (some ⟨c, 0, none⟩), .pointer (some ⟨b, 0, none⟩), (Value.iface 55 (.agg #[.int .i64 k, .iface 29 (.int .i64 n)])), undef, undef, (Value.iface 55 (.agg #[.int .i64 k, .iface 29 (.int .i64 n)])), undef, undef, undef, undef, undef, undef, undef, undef, undef, undef, undef, undef, undef] from by kernel_rfl]
  obtain ⟨w1, hw1⟩ : ∃ w1, w.alloc (.cells #[.int .i64 k, .iface 29 (.int .i64 n)] 55) = w1 := ⟨_, rfl⟩
  have hc1 : w1.heap[c]? = some (.cells #[.int .i64 0, .bool false, .slice none 0 0, .slice none 0 0, .slice none 0 0, .slice none 0 0, .slice none 0 0] 28 (0, 0)) := by rw [← hw1]; exact (Below.heap_alloc _ _ _ (lt_of_block hc)).trans hc
  have hb1 : w1.heap[b]? = some (.cells #[old] 45 (0, 0)) := by rw [← hw1]; exact (Below.heap_alloc _ _ _ (lt_of_block hb)).trans hb
  have h55 : w1.heap[w.heap.size]? = some (.cells #[.int .i64 k, .iface 29 (.int .i64 n)] 55 (0, 0)) := by rw [← hw1]; exact heap_alloc_last w _
  have hcb : c ≠ b := fun e => by rw [e, hb] at hc; cases hc
  have hlc := lt_of_block hc
  have hlb := lt_of_block hb
  obtain ⟨y0, g0⟩ := rowc hc1 (j := 0) (v := .int .i64 0) rfl
  obtain ⟨y1, g1⟩ := rowc hc1 (j := 1) (v := .bool false) rfl
  obtain ⟨y2, g2⟩ := rowc hc1 (j := 2) (v := .slice none 0 0) rfl
  obtain ⟨y3, g3⟩ := rowc hc1 (j := 3) (v := .slice none 0 0) rfl
  obtain ⟨y4, g4⟩ := rowc hc1 (j := 4) (v := .slice none 0 0) rfl
  obtain ⟨y5, g5⟩ := rowc hc1 (j := 5) (v := .slice none 0 0) rfl
  obtain ⟨y6, g6⟩ := rowc hc1 (j := 6) (v := .slice none 0 0) rfl
  obtain ⟨x0, f0⟩ := rowc hb1 (j := 0) (v := old) rfl
  obtain ⟨z0, _⟩ := rowc h55 (j := 0) (v := .int .i64 k) rfl
  obtain ⟨z1, _⟩ := rowc h55 (j := 1) (v := .iface 29 (.int .i64 n)) rfl
  have HC1 := Lib.hid hc1
  have HB1 := Lib.hid hb1
  have HK1 : Hid (Kept (fun i => i = c ∨ i = b) w w1) := by rw [← hw1]; exact (Kept.refl _ _).alloc _
  have hbc : b ≠ c := hcb.symm
  have E7 := Lib.hid (And.intro (set7 hc1 (.int .i64 0) (.bool false) (.slice none 0 0) (.slice none 0 0) (.slice none 0 0) (.slice none 0 0) (.slice none 0 0)) (And.intro ((put7_other hbc (.int .i64 0) (.bool false) (.slice none 0 0) (.slice none 0 0) (.slice none 0 0) (.slice none 0 0) (.slice none 0 0)).trans hb1) (put7_kept HK1.out (.inl (.inl rfl)) (.int .i64 0) (.bool false) (.slice none 0 0) (.slice none 0 0) (.slice none 0 0) (.slice none 0 0) (.slice none 0 0))))
  obtain ⟨w7, hw7⟩ : ∃ w7, put7 w1 c (.int .i64 0) (.bool false) (.slice none 0 0) (.slice none 0 0) (.slice none 0 0) (.slice none 0 0) (.slice none 0 0) = w7 := ⟨_, rfl⟩
  rw [hw7] at E7
  have e7 := E7
  unfold put7 at hw7
  have HW7 := Lib.hid hw7
  clear hc hb hc1 hb1 h55 hw7 E7
  go_wp2
  go_region
  all_goals
    go_wp2
    rw [show (((((((w1.setCell ⟨c, 0, none⟩ (.int .i64 0)).setCell ⟨c, 1, none⟩ (.bool false)).setCell ⟨c, 2, none⟩ (.slice none 0 0)).setCell ⟨c, 3, none⟩ (.slice none 0 0)).setCell ⟨c, 4, none⟩ (.slice none 0 0)).setCell ⟨c, 5, none⟩ (.slice none 0 0)).setCell ⟨c, 6, none⟩ (.slice none 0 0)) = w7 from HW7.out]
    obtain ⟨W9, hW9⟩ : ∃ W9, (w7.setCell ⟨b, 0, none⟩ (.iface 55 (.agg #[.int .i64 k, .iface 29 (.int .i64 n)]))).drew = W9 := ⟨_, rfl⟩
    rw [hW9]
    have e1 : W9.heap[c]? = some (.cells #[.int .i64 0, .bool false, .slice none 0 0, .slice none 0 0, .slice none 0 0, .slice none 0 0, .slice none 0 0] 28 (0, 0)) := by
      rw [← hW9]; exact (Below.heap_setCell _ _ _ _ hcb).trans e7.out.1
    have e2 : W9.heap[b]? = some (.cells #[(.iface 55 (.agg #[.int .i64 k, .iface 29 (.int .i64 n)]))] 45 (0, 0)) := by
      have h9 : (w7.setCell ⟨b, 0, none⟩ (.iface 55 (.agg #[.int .i64 k, .iface 29 (.int .i64 n)]))).heap[b]? = some (.cells #[(.iface 55 (.agg #[.int .i64 k, .iface 29 (.int .i64 n)]))] 45 (0, 0)) := by simpa using heap_setCell_same w7 b 0 #[old] 45 (.iface 55 (.agg #[.int .i64 k, .iface 29 (.int .i64 n)])) e7.out.2.1
      rw [← hW9]; exact h9
    have e3 : Kept (fun i => i = c ∨ i = b) w W9 := by
      rw [← hW9]; exact (e7.out.2.2.setCell (p := ⟨b, 0, none⟩) (.inl (.inr rfl)) _).drew
    clear e7 HW7 y0 y1 y2 y3 y4 y5 y6 g0 g1 g2 g3 g4 g5 g6 x0 f0 z0 z1
    cases c₀
    simp_all [bodyPostS, results, Tryz.results18]
end Go.Proofs.YtioddclglemlmaaGreatDoor

/- parse; conditions: tokens, the last one the end. -/
namespace Go.Proofs.YtioddclglemlmaaGreatDoor
open Go.RowKit


theorem results_cc {P : Program} {fn : Func} {tmps : Array Value} {t u : Tmp} {ty ty2 : TypeId} {a b : Addr} {v x : Value} {w : World} (h : fn.results = #[.cell t ty, .cell u ty2]) (hp : tmps.getD t undef = .pointer (some a)) (hq : tmps.getD u undef = .pointer (some b)) (hl : (loadVar ty a).run P w = .ok v w) (hm : (loadVar ty2 b).run P w = .ok x w) :
    (results fn tmps).run P w = .ok (.tuple #[v, x]) w := by
  have ha : (asAddr (tmps.getD t undef)).run P w = .ok a w := by rw [hp]; rfl
  have hb : (asAddr (tmps.getD u undef)).run P w = .ok b w := by rw [hq]; rfl
  unfold results
  rw [h]
  simp only [List.mapM_toArray, List.mapM_cons, List.mapM_nil, Sem.run_map, Sem.run_bind, Sem.run_pure, Result.andThen_ok, ha, hl, hb, hm]
  rfl
def zeroCmd : Value := .agg #[.int .i64 0, .bool false, .slice none 0 0, .slice none 0 0, .slice none 0 0, .slice none 0 0, .slice none 0 0]
/-- what parse tells -/
def PrsA (base : Nat) (r : PR CmdT) (e : Ending) (w' : World) : Prop := match r with
  | .ok t _ => ∃ u, e = .returned (.tuple #[u, .nilIface]) ∧ CmdR base w' u t
  | .err n => ∃ k, e = .returned (.tuple #[zeroCmd, fv k n])
theorem load45 {W : World} {b : Nat} {v : Value} (h : W.heap[b]? = some (.cells #[v] 45 (0, 0))) : (loadVar 45 ⟨b, 0, none⟩).run Tryz.prog W = .ok v W := by
  have hc : W.cell? ⟨b, 0, none⟩ = some v := (rowc h (j := 0) rfl).1
  simp [loadVar, isAgg, underlying, Tryz.underlying45, hc, Result.andThen]
set_option maxRecDepth 100000 in
set_option maxHeartbeats 4000000 in
theorem parse_any (g cap : Nat) (T : List (Int × ByteArray)) (w : World) (ho : OwnG w 0 116 2 (.slice (some ⟨g, 0, none⟩) T.length cap) T.length (tokV T)) (h0 : 0 < T.length) (hs : T.length ≤ 5001) (hl : ∀ j, j + 1 = T.length → (tk T j).1 = 4) (hx : ∀ j, (tk T j).2.size ≤ 70000) (m : Int) (hm : w.cell? ⟨1, 0, none⟩ = some (.int .i64 m)) (hw : 1 < w.heap.size) :
    Calls Tryz.prog 13 #[.slice (some ⟨g, 0, none⟩) T.length cap] w fun e w' => Below w.heap.size w w' ∧ PrsA w.heap.size (scrP T) e w' := by
  have HSC := Lib.hid fun (pb : Nat) => script_any (pb := pb) (g := g) (cap := cap) (d := 0) (T := T) 0 (list_of (command_ok (pb := pb) (g := g) (cap := cap) (T := T) 0 (by decide))).1
  obtain ⟨R, hR⟩ : ∃ R, scrP T = R := ⟨_, rfl⟩
  have hR0 : scrC T (cmdF T (T.length + 1) 0) 0 = R := hR
  rw [hR]
  have hglt := (ho.block_lt g (by simp [Value.ownBlock])).2
  obtain ⟨w1, hw1⟩ : ∃ w1, (w.alloc (.cells #[.int .i64 0, .bool false, .slice none 0 0, .slice none 0 0, .slice none 0 0, .slice none 0 0, .slice none 0 0] 28)).alloc (.cells #[.nilIface] 45) = w1 := ⟨_, rfl⟩
  have s1 : w1.heap.size = w.heap.size + 2 := by rw [← hw1]; simp
  have k1 : Kept (fun _ => False) w w1 := by rw [← hw1]; exact ((Kept.refl _ _).alloc _).alloc _
  have r1 : w1.heap[w.heap.size]? = some (.cells #[.int .i64 0, .bool false, .slice none 0 0, .slice none 0 0, .slice none 0 0, .slice none 0 0, .slice none 0 0] 28 (0, 0)) := by rw [← hw1, Below.heap_alloc _ _ _ (by simp)]; exact heap_alloc_last w _
  have e1 : w1.heap[w.heap.size + 1]? = some (.cells #[.nilIface] 45 (0, 0)) := by
    rw [← hw1]
    have := heap_alloc_last (w.alloc (.cells #[.int .i64 0, .bool false, .slice none 0 0, .slice none 0 0, .slice none 0 0, .slice none 0 0, .slice none 0 0] 28)) (.cells #[.nilIface] 45)
    rw [World.size_alloc] at this; exact this
  obtain ⟨w2, hw2⟩ : ∃ w2, w1.alloc (.cells #[.slice (some ⟨g, 0, none⟩) T.length cap, .int .i64 0, .int .i64 0] 59) = w2 := ⟨_, rfl⟩
  have k2 : Kept (fun _ => False) w w2 := by rw [← hw2]; exact k1.alloc _
  have r2 : w2.heap[w.heap.size]? = some (.cells #[.int .i64 0, .bool false, .slice none 0 0, .slice none 0 0, .slice none 0 0, .slice none 0 0, .slice none 0 0] 28 (0, 0)) := by rw [← hw2]; exact (Below.heap_alloc _ _ _ (lt_of_block r1)).trans r1
  have e2 : w2.heap[w.heap.size + 1]? = some (.cells #[.nilIface] 45 (0, 0)) := by rw [← hw2]; exact (Below.heap_alloc _ _ _ (lt_of_block e1)).trans e1
  have p2 : PAt w2 w1.heap.size T 0 0 g cap := ⟨by rw [← hw2]; exact heap_alloc_last w1 _, ho.move fun k hk => k2.block k (ho.block_lt k hk).2 id, by omega, h0, hs, hl, by omega, ⟨m, (World.cell?_of_block (a := ⟨1, 0, none⟩) (k2.block 1 hw id)).trans hm⟩, by omega, hx⟩
  have hsc := HSC.out w1.heap.size 0 w2 (Nat.le_refl _) p2
  rw [hR0, s1] at hsc
  have HSW := Lib.hid hsc
  have HW1 := Lib.hid hw1
  have HW2 := Lib.hid hw2
  have HR2 := Lib.hid r2
  have HE2 := Lib.hid e2
  have HK2 := Lib.hid k2
  have hlt2 : w.heap.size + 1 < w2.heap.size := lt_of_block e2
  clear hsc hw1 hw2 r1 e1 r2 e2 k1 k2 p2 ho hl hx hR hR0 HSC hm
  have hmf : ∀ (fn : Fn) (first cap : Array Value) (w : World), (Instr.makeFunc fn first cap).run Tryz.prog w = .ok (.func fn first cap) w := fun _ _ _ _ => rfl
  go_enter_defers Tryz.func13, Tryz.ntmps13
  go_wp2_with fail
  rw [HW1.out, HW2.out]
  refine HSW.out.mono ?_
  rintro e w4 ⟨hk4, ha⟩
  have hz4 := (hk4.block _ (lt_of_block HR2.out) (by show ¬ w.heap.size = _; omega)).trans HR2.out
  have he4 := (hk4.block _ (lt_of_block HE2.out) (by show ¬ w.heap.size + 1 = _; omega)).trans HE2.out
  have hk04 : Kept (fun _ => False) w w4 := HK2.out.trans' hk4 (fun i e => .inr (by have e2 : i = w.heap.size + 2 := e; omega))
  cases R with
  | err n =>
    obtain ⟨k2, rfl⟩ := ha
    have HZ4 := Lib.hid hz4
    have HE4 := Lib.hid he4
    have HK4 := Lib.hid hk04
    clear hk4 hz4 he4 hk04
    go_wp2
    refine leaves_cons (f := 18) (args := #[.pointer (some ⟨w.heap.size, 0, none⟩), .pointer (some ⟨w.heap.size + 1, 0, none⟩)]) (by simp) (by simp [go_sem]) ?_
    refine (pcaught_panicking w.heap.size (w.heap.size + 1) k2 n .nilIface [] w4 HZ4.out HE4.out).mono ?_
    rintro ec uc wc ⟨rfl, rfl, hc, he, hk⟩
    have HB := Lib.hid (show Below w.heap.size w wc from ((HK4.out.trans' hk (T' := fun i => i = w.heap.size ∨ i = w.heap.size + 1) (fun i e => .inr (by omega))).to_below (Nat.le_refl _) (fun _ e => e.elim)))
    have l1 := load7 hc
    have l2 := load45 he
    clear hk hc he
    refine (show ∃ v, (results Tryz.f13 _).run Tryz.prog wc = .ok v wc ∧ (Below w.heap.size w wc ∧ PrsA w.heap.size (PR.err n) (.returned v) wc) from ?_)
    exact ⟨_, results_cc (t := 2) (u := 3) (by kernel_rfl) rfl rfl l1 l2, HB.out, k2, rfl⟩
  | ok t j =>
    obtain ⟨u, rfl, ⟨cs, rfl, hc4⟩, hp4, _⟩ := ha
    obtain ⟨kc0, nc0, B2, q2, p2, B3, q3, p3, B4, q4, p4, B5, q5, p5, B6, q6, p6, rfl⟩ := hc4.lit
    have hr6 := set7 hz4 (.int .i64 kc0) (.bool nc0) (.slice B2 q2 p2) (.slice B3 q3 p3) (.slice B4 q4 p4) (.slice B5 q5 p5) (.slice B6 q6 p6)
    have ho6 : ∀ k, k ≠ w.heap.size → (put7 w4 w.heap.size (.int .i64 kc0) (.bool nc0) (.slice B2 q2 p2) (.slice B3 q3 p3) (.slice B4 q4 p4) (.slice B5 q5 p5) (.slice B6 q6 p6)).heap[k]? = w4.heap[k]? := fun k hk => put7_other hk _ _ _ _ _ _ _
    have hk6 := put7_kept hk04 (.inr (Nat.le_refl _)) (.int .i64 kc0) (.bool nc0) (.slice B2 q2 p2) (.slice B3 q3 p3) (.slice B4 q4 p4) (.slice B5 q5 p5) (.slice B6 q6 p6)
    obtain ⟨w6, hw6⟩ : ∃ w6, put7 w4 w.heap.size (.int .i64 kc0) (.bool nc0) (.slice B2 q2 p2) (.slice B3 q3 p3) (.slice B4 q4 p4) (.slice B5 q5 p5) (.slice B6 q6 p6) = w6 := ⟨_, rfl⟩
    rw [hw6] at hr6 ho6 hk6
    have he6 := (ho6 (w.heap.size + 1) (by omega)).trans he4
    obtain ⟨w7, hw7⟩ : ∃ w7, w6.setCell ⟨w.heap.size + 1, 0, none⟩ .nilIface = w7 := ⟨_, rfl⟩
    have hr7 : w7.heap[w.heap.size]? = some (.cells #[.int .i64 kc0, .bool nc0, .slice B2 q2 p2, .slice B3 q3 p3, .slice B4 q4 p4, .slice B5 q5 p5, .slice B6 q6 p6] 28 (0, 0)) := by rw [← hw7]; exact (Below.heap_setCell _ _ _ _ (by show ¬ w.heap.size = w.heap.size + 1; omega)).trans hr6
    have he7 : w7.heap[w.heap.size + 1]? = some (.cells #[.nilIface] 45 (0, 0)) := by
      have h9 : (w6.setCell ⟨w.heap.size + 1, 0, none⟩ .nilIface).heap[w.heap.size + 1]? = some (.cells #[.nilIface] 45 (0, 0)) := by simpa using heap_setCell_same w6 (w.heap.size + 1) 0 #[.nilIface] 45 .nilIface he6
      rw [← hw7]; exact h9
    have hk7 : Kept (fun _ => False) w w7 := by rw [← hw7]; exact hk6.setCell (p := ⟨w.heap.size + 1, 0, none⟩) (.inr (by show w.heap.size ≤ w.heap.size + 1; omega)) _
    have hs67 : w4.heap.size ≤ w7.heap.size := by
      have h1 : w6.heap.size = w4.heap.size := by rw [← hw6]; unfold put7; simp
      rw [← hw7]; simp; omega
    have hcr : CmdR w.heap.size w7 (.agg #[.int .i64 kc0, .bool nc0, .slice B2 q2 p2, .slice B3 q3 p3, .slice B4 q4 p4, .slice B5 q5 p5, .slice B6 q6 p6]) t := ⟨_, rfl, hc4.move (fun k e => ⟨by omega, by omega⟩) fun k e => by
      rw [← hw7, Below.heap_setCell _ _ _ _ (by show ¬ k = w.heap.size + 1; omega)]; exact ho6 k (by omega)⟩
    have HB := Lib.hid (hk7.to_below (Nat.le_refl _) (fun _ e => e.elim))
    have HCR := Lib.hid hcr
    have l1 := load7 hr7
    have l2 := load45 he7
    obtain ⟨y0, g0⟩ := rowc hz4 (j := 0) (v := .int .i64 0) rfl
    obtain ⟨y1, g1⟩ := rowc hz4 (j := 1) (v := .bool false) rfl
    obtain ⟨y2, g2⟩ := rowc hz4 (j := 2) (v := .slice none 0 0) rfl
    obtain ⟨y3, g3⟩ := rowc hz4 (j := 3) (v := .slice none 0 0) rfl
    obtain ⟨y4, g4⟩ := rowc hz4 (j := 4) (v := .slice none 0 0) rfl
    obtain ⟨y5, g5⟩ := rowc hz4 (j := 5) (v := .slice none 0 0) rfl
    obtain ⟨y6, g6⟩ := rowc hz4 (j := 6) (v := .slice none 0 0) rfl
    obtain ⟨x0, f0⟩ := rowc he4 (j := 0) (v := .nilIface) rfl
    unfold put7 at hw6
    have HW6 := Lib.hid hw6
    have HW7 := Lib.hid hw7
    clear hk4 hz4 he4 hk04 hc4 hr6 ho6 hk6 hw6 he6 hw7 hr7 he7 hk7 hcr hp4
    go_wp2
    rw [HW6.out, HW7.out]
    refine leaves_cons (f := 18) (args := #[.pointer (some ⟨w.heap.size, 0, none⟩), .pointer (some ⟨w.heap.size + 1, 0, none⟩)]) (by simp) (by simp [go_sem]) ?_
    refine (pcaught_idle _ _ _).mono ?_
    rintro ec uc wc ⟨rfl, rfl, hwc⟩
    obtain rfl := hwc.symm
    refine (show ∃ v, (results Tryz.f13 _).run Tryz.prog w7 = .ok v w7 ∧ (Below w.heap.size w w7 ∧ PrsA w.heap.size (PR.ok t j) (.returned v) w7) from ?_)
    exact ⟨_, results_cc (t := 2) (u := 3) (by kernel_rfl) rfl rfl l1 l2, HB.out, _, rfl, HCR.out⟩
end Go.Proofs.YtioddclglemlmaaGreatDoor
