/- The rule that two sides make, as package rule tells it; conditions: texts of at most 400,000 bytes, the library's one number in its cell. -/
import Derived.Test.YtmcemaphhlcjfaaDoorMade
namespace Go.Proofs.YtmcemaphhlcjfaaDoor
open Go.RowKit

def put11 (w : World) (b : Nat) (a0 a1 a2 a3 a4 a5 a6 a7 a8 a9 a10 : Value) : World := (((((((((((w.setCell ⟨b, 0, none⟩ a0).setCell ⟨b, 1, none⟩ a1).setCell ⟨b, 2, none⟩ a2).setCell ⟨b, 3, none⟩ a3).setCell ⟨b, 4, none⟩ a4).setCell ⟨b, 5, none⟩ a5).setCell ⟨b, 6, none⟩ a6).setCell ⟨b, 7, none⟩ a7).setCell ⟨b, 8, none⟩ a8).setCell ⟨b, 9, none⟩ a9).setCell ⟨b, 10, none⟩ a10)
theorem set11 {w : World} {b : Nat} {z0 z1 z2 z3 z4 z5 z6 z7 z8 z9 z10 : Value} {t : TypeId} (h : w.heap[b]? = some (.cells #[z0, z1, z2, z3, z4, z5, z6, z7, z8, z9, z10] t (0, 0))) (a0 a1 a2 a3 a4 a5 a6 a7 a8 a9 a10 : Value) :
    (put11 w b a0 a1 a2 a3 a4 a5 a6 a7 a8 a9 a10).heap[b]? = some (.cells #[a0, a1, a2, a3, a4, a5, a6, a7, a8, a9, a10] t (0, 0)) := by
  have h0 := heap_setCell_same _ b 0 _ t a0 h
  have h1 := heap_setCell_same _ b 1 _ t a1 h0
  have h2 := heap_setCell_same _ b 2 _ t a2 h1
  have h3 := heap_setCell_same _ b 3 _ t a3 h2
  have h4 := heap_setCell_same _ b 4 _ t a4 h3
  have h5 := heap_setCell_same _ b 5 _ t a5 h4
  have h6 := heap_setCell_same _ b 6 _ t a6 h5
  have h7 := heap_setCell_same _ b 7 _ t a7 h6
  have h8 := heap_setCell_same _ b 8 _ t a8 h7
  have h9 := heap_setCell_same _ b 9 _ t a9 h8
  have h10 := heap_setCell_same _ b 10 _ t a10 h9
  simpa [put11] using h10
theorem put11_below {B b : Nat} {w0 w : World} (h : Below B w0 w) (hb : B ≤ b) (a0 a1 a2 a3 a4 a5 a6 a7 a8 a9 a10 : Value) : Below B w0 (put11 w b a0 a1 a2 a3 a4 a5 a6 a7 a8 a9 a10) :=
  (((((((((((h.setCell (p := ⟨b, 0, none⟩) hb _).setCell (p := ⟨b, 1, none⟩) hb _).setCell (p := ⟨b, 2, none⟩) hb _).setCell (p := ⟨b, 3, none⟩) hb _).setCell (p := ⟨b, 4, none⟩) hb _).setCell (p := ⟨b, 5, none⟩) hb _).setCell (p := ⟨b, 6, none⟩) hb _).setCell (p := ⟨b, 7, none⟩) hb _).setCell (p := ⟨b, 8, none⟩) hb _).setCell (p := ⟨b, 9, none⟩) hb _).setCell (p := ⟨b, 10, none⟩) hb _)
theorem StrSl.set29 {W : World} {base : Nat} {v : Value} {xs : List ByteArray} (h : StrSl W base v xs) {b : Nat} {cs : Array Value} (hb : W.heap[b]? = some (.cells cs 29 (0, 0))) (j : Nat) (u : Value) :
    StrSl (W.setCell ⟨b, j, none⟩ u) base v xs := h.other hb (by decide) j u
theorem StrSl.put11 {w : World} {base : Nat} {v : Value} {xs : List ByteArray} (h : StrSl w base v xs) {b : Nat} {cs : Array Value} (hb : w.heap[b]? = some (.cells cs 29 (0, 0))) (a0 a1 a2 a3 a4 a5 a6 a7 a8 a9 a10 : Value) : StrSl (put11 w b a0 a1 a2 a3 a4 a5 a6 a7 a8 a9 a10) base v xs := by
  have s0 := h.set29 hb 0 a0
  have h0 := heap_setCell_same _ b 0 _ 29 a0 hb
  have s1 := s0.set29 h0 1 a1
  have h1 := heap_setCell_same _ b 1 _ 29 a1 h0
  have s2 := s1.set29 h1 2 a2
  have h2 := heap_setCell_same _ b 2 _ 29 a2 h1
  have s3 := s2.set29 h2 3 a3
  have h3 := heap_setCell_same _ b 3 _ 29 a3 h2
  have s4 := s3.set29 h3 4 a4
  have h4 := heap_setCell_same _ b 4 _ 29 a4 h3
  have s5 := s4.set29 h4 5 a5
  have h5 := heap_setCell_same _ b 5 _ 29 a5 h4
  have s6 := s5.set29 h5 6 a6
  have h6 := heap_setCell_same _ b 6 _ 29 a6 h5
  have s7 := s6.set29 h6 7 a7
  have h7 := heap_setCell_same _ b 7 _ 29 a7 h6
  have s8 := s7.set29 h7 8 a8
  have h8 := heap_setCell_same _ b 8 _ 29 a8 h7
  have s9 := s8.set29 h8 9 a9
  have h9 := heap_setCell_same _ b 9 _ 29 a9 h8
  have s10 := s9.set29 h9 10 a10
  have h10 := heap_setCell_same _ b 10 _ 29 a10 h9
  exact s10
theorem load11 {W : World} {b : Nat} {a0 a1 a2 a3 a4 a5 a6 a7 a8 a9 a10 : Value} (h : W.heap[b]? = some (.cells #[a0, a1, a2, a3, a4, a5, a6, a7, a8, a9, a10] 29 (0, 0))) : (loadVar 29 ⟨b, 0, none⟩).run Tryd.prog W = .ok (.agg #[a0, a1, a2, a3, a4, a5, a6, a7, a8, a9, a10]) W := by
  refine run_loadVar_mid W b 0 29 [a0, a1, a2, a3, a4, a5, a6, a7, a8, a9, a10] _ (fun j v hv => ?_) Tryd.underlying29 rfl (by kernel_rfl)
  rw [Nat.zero_add, cell_of_row W b j _ 29 (0, 0) h]
  simpa using hv
theorem results_c3 {P : Program} {fn : Func} {tmps : Array Value} {t i j : Tmp} {ty : TypeId} {a : Addr} {v x y : Value} {w : World} (h : fn.results = #[.cell t ty, .tmp i, .tmp j]) (hp : tmps.getD t undef = .pointer (some a)) (hl : (loadVar ty a).run P w = .ok v w) (hx : tmps.getD i undef = x) (hy : tmps.getD j undef = y) :
    (results fn tmps).run P w = .ok (.tuple #[v, x, y]) w := by
  have ha : (asAddr (tmps.getD t undef)).run P w = .ok a w := by rw [hp]; rfl
  unfold results
  rw [h]
  simp only [List.mapM_toArray, List.mapM_cons, List.mapM_nil, Sem.run_map, Sem.run_bind, Sem.run_pure, Result.andThen_ok, ha, hl, hx, hy]
  rfl
noncomputable def statN (pat : ByteArray) (ts : List ByteArray) : Int :=
  if (namesB pat).length ≠ 1 ∨ popen (xAt (namesB pat) 0) = false then 56
  else match badT (xAt (namesB pat) 0) ts with
    | some _ => 55
    | none => 0
theorem stat_cases (pat : ByteArray) (ts : List ByteArray) : (statN pat ts = 0 ∧ statE pat ts = .nilIface) ∨ ((statN pat ts = 55 ∨ statN pat ts = 56) ∧ ∃ x, statE pat ts = errV x (statN pat ts)) := by
  unfold statN statE
  split
  · right; exact ⟨.inr rfl, _, rfl⟩
  · cases badT (xAt (namesB pat) 0) ts with
    | none => left; exact ⟨rfl, rfl⟩
    | some x => right; exact ⟨.inl rfl, x, rfl⟩
def implN (ts : List ByteArray) : Int := if 0 < cntP ts ∧ cntP ts < ts.length then 55 else 0
theorem impl_cases (ts : List ByteArray) : (implN ts = 0 ∧ (implR ts).2 = .nilIface ∧ (implR ts).1 = decide (0 < cntP ts)) ∨ (implN ts = 55 ∧ ∃ x, (implR ts).2 = errV x 55) := by
  unfold implN implR
  split
  · right; exact ⟨rfl, _, rfl⟩
  · left; exact ⟨rfl, rfl, rfl⟩
/-- what a rule's two sides make -/
structure MkP where
  T : List ByteArray
  P : List ByteArray
  O : List ByteArray
  L : List ByteArray
  d : Bool
  p : Bool
  t : Bool
  st : ByteArray
  e : Int
def errP (e : Int) : MkP := ⟨[], [], [], [], false, false, false, ⟨#[]⟩, e⟩
noncomputable def makeP (l r : ByteArray) (d : Bool) : MkP :=
  if (namesB l).length = 0 then errP 50
  else if 0 ≤ colonB r then
    (if statN (r.extract 0 (colonB r).toNat) (namesB l) ≠ 0 then errP (statN (r.extract 0 (colonB r).toNat) (namesB l))
     else ⟨namesB l, (halvesL (namesB (r.extract ((colonB r).toNat + 1) r.size))).1, (halvesL (namesB (r.extract ((colonB r).toNat + 1) r.size))).2, namesB l, d, false, false, statS (r.extract 0 (colonB r).toNat), 0⟩)
  else if implN (namesB l) ≠ 0 then errP (implN (namesB l))
  else ⟨namesB l, (halvesL (namesB r)).1, (halvesL (namesB r)).2, if decide (0 < cntP (namesB l)) then [] else namesB l, if decide (0 < cntP (namesB l)) then false else d, decide (0 < cntP (namesB l)), if decide (0 < cntP (namesB l)) then d else false, ⟨#[]⟩, 0⟩
def ruleV (vT vP vO : Value) (x : MkP) : Value := .agg #[vT, vP, vO, .bool x.d, .bool x.p, .bool x.t, .string x.st, .slice none 0 0, .bool false, .string ⟨#[]⟩, .bool false]
def MkQ (w : World) (x : MkP) (e : Ending) (W' : World) : Prop := ∃ vT vP vO vL, e = .returned (.tuple #[ruleV vT vP vO x, vL, .int .i64 x.e]) ∧ StrSl W' w.heap.size vT x.T ∧ StrSl W' w.heap.size vP x.P ∧ StrSl W' w.heap.size vO x.O ∧ StrSl W' w.heap.size vL x.L ∧ Below w.heap.size w W'

set_option maxRecDepth 100000 in
set_option maxHeartbeats 4000000 in
theorem Make_err (l r : ByteArray) (d : Bool) (w : World) (x : ByteArray) (n : Int) (hn : n = 50 ∨ n = 55 ∨ n = 56)
    (HM : Hid (∀ w', 1 < w'.heap.size → w'.cell? ⟨1, 0, none⟩ = w.cell? ⟨1, 0, none⟩ → Calls Tryd.prog 42 #[.string l, .string r, .bool d] w' fun e W' => ∃ p, e = .returned (.tuple #[p, errV x n]) ∧ Below w'.heap.size w' W'))
    (hw : 1 < w.heap.size) :
    Calls Tryd.prog 13 #[.string l, .string r, .bool d] w fun e W' => MkQ w (errP n) e W' := by
  have HIS := Lib.hid fun (t : Int) (w : World) => is_wrong x n t w
  have HM1 := Lib.hid (HM.out (w.alloc (.cells #[.slice none 0 0, .slice none 0 0, .slice none 0 0, .bool false, .bool false, .bool false, .string ⟨#[]⟩, .slice none 0 0, .bool false, .string ⟨#[]⟩, .bool false] 29)) (by simp; omega) (by rw [((Below.refl _ w).alloc (Nat.le_refl _) _).cell (p := ⟨1, 0, none⟩) hw]))
  clear HM
  go_enter Tryd.func13, Tryd.ntmps13
  go_wp2_with fail
  refine HM1.out.mono ?_
  rintro e w1 ⟨p, rfl, hb1⟩
  have hr1 := (hb1.block w.heap.size (by simp)).trans (World.alloc_heap_new w _)
  have hB1 : Below w.heap.size w w1 := ((Below.refl _ w).alloc (Nat.le_refl _) _).trans (hb1.mono (by simp))
  have hlt1 : w.heap.size < w1.heap.size := lt_of_block hr1
  have HR1 := Lib.hid hr1
  have HB1 := Lib.hid hB1
  clear hr1 hB1 hb1 HM1
  unfold errV at HIS ⊢
  go_wp2
  obtain ⟨w2, hw2⟩ : ∃ w2, w1.alloc (.cells #[.int .i64 50, .int .i64 56, .int .i64 55] 30) = w2 := ⟨_, rfl⟩
  rw [hw2]
  have hrn : w2.heap[w1.heap.size]? = some (.cells #[.int .i64 50, .int .i64 56, .int .i64 55] 30 (0, 0)) := by rw [← hw2]; exact World.alloc_heap_new w1 _
  have hb2 : Below w1.heap.size w1 w2 := by rw [← hw2]; exact (Below.refl _ w1).alloc (Nat.le_refl _) _
  have HR2 := Lib.hid ((hb2.block _ hlt1).trans HR1.out)
  have HB2 := Lib.hid (HB1.out.trans (hb2.mono (by omega)))
  have CELL0 := Lib.hid (rowc hrn (j := 0) rfl).1
  have CELL1 := Lib.hid (rowc hrn (j := 1) rfl).1
  have CELL2 := Lib.hid (rowc hrn (j := 2) rfl).1
  have HLT2 := Lib.hid (lt_of_block hrn)
  clear hw2 hrn hb2 HR1 HB1
  go_loopw [12, 22] (fun _ iv wi => ∃ k : Nat, iv = .int .i64 k ∧ k ≤ 3 ∧ Below w2.heap.size w2 wi ∧ (n = 50 → k = 0) ∧ (n = 56 → k ≤ 1) ∧ (n = 55 → k ≤ 2)) (fun _ iv _ => 3 - (intOf iv).toNat)
  case atStart => exact ⟨0, rfl, by omega, Below.refl _ _, fun _ => rfl, fun _ => by omega, fun _ => by omega⟩
  case round =>
    obtain ⟨k, rfl, hk, hbw, h50, h56, h55⟩ := hrel
    have hk3 : k = 0 ∨ k = 1 ∨ k = 2 := by omega
    rcases hk3 with rfl | rfl | rfl
    · skip
      have kc := CELL0.out
      have kw : wr.cell? ⟨w1.heap.size, 0, none⟩ = some (.int .i64 50) := by rw [hbw.cell (p := ⟨w1.heap.size, 0, none⟩) HLT2.out]; exact kc
      have HI := Lib.hid fun w => HIS.out 50 w
      clear kc
      by_cases hnt : n = 50
      · subst hnt
        have hr := (hbw.block w.heap.size (by have := HLT2.out; omega)).trans HR2.out
        have hB : Below w.heap.size w wr := HB2.out.trans (hbw.mono (by have := HLT2.out; omega))
        have hltr : w.heap.size < wr.heap.size := lt_of_block hr
        have HR := Lib.hid hr
        have HB := Lib.hid hB
        clear hr hB
        go_wp2_with fail
        refine (HI.out _).mono ?_
        rintro e w5 ⟨rfl, hb5⟩
        rw [beq_self_eq_true]
        have hr5 := (hb5.block _ hltr).trans HR.out
        have hB5 := HB.out.trans (hb5.mono (by omega))
        obtain ⟨c0, f0⟩ := rowc hr5 (j := 0) rfl; obtain ⟨c1, f1⟩ := rowc hr5 (j := 1) rfl; obtain ⟨c2, f2⟩ := rowc hr5 (j := 2) rfl; obtain ⟨c3, f3⟩ := rowc hr5 (j := 3) rfl; obtain ⟨c4, f4⟩ := rowc hr5 (j := 4) rfl; obtain ⟨c5, f5⟩ := rowc hr5 (j := 5) rfl; obtain ⟨c6, f6⟩ := rowc hr5 (j := 6) rfl; obtain ⟨c7, f7⟩ := rowc hr5 (j := 7) rfl; obtain ⟨c8, f8⟩ := rowc hr5 (j := 8) rfl; obtain ⟨c9, f9⟩ := rowc hr5 (j := 9) rfl; obtain ⟨c10, f10⟩ := rowc hr5 (j := 10) rfl
        have HR5 := Lib.hid hr5
        have HB5 := Lib.hid hB5
        clear hr5 hB5 hb5
        go_wp2
        exact bodyPost_ret (results_c3 (t := 6) (i := 7) (j := 8) (by kernel_rfl) rfl (load11 (set11 HR5.out (.slice none 0 0) (.slice none 0 0) (.slice none 0 0) (.bool false) (.bool false) (.bool false) (.string ⟨#[]⟩) (.slice none 0 0) (.bool false) (.string ⟨#[]⟩) (.bool false))) rfl rfl) rfl ⟨_, _, _, _, rfl, StrSl.nil _ _, StrSl.nil _ _, StrSl.nil _ _, StrSl.nil _ _, put11_below HB5.out (Nat.le_refl _) _ _ _ _ _ _ _ _ _ _ _⟩
      · have hf : (n == 50) = false := beq_eq_false_iff_ne.2 hnt
        rw [hf] at HI
        clear hf
        go_wp2_with fail
        refine (HI.out _).mono ?_
        rintro e w5 ⟨rfl, hb5⟩
        have hb6 := hbw.trans (hb5.mono hbw.size)
        clear hb5
        go_wp2
        exact ⟨⟨1, by go_num, by omega, hb6, by omega, by omega, by omega⟩, by simp [intOf]⟩
    · skip
      have kc := CELL1.out
      have kw : wr.cell? ⟨w1.heap.size, 1, none⟩ = some (.int .i64 56) := by rw [hbw.cell (p := ⟨w1.heap.size, 1, none⟩) HLT2.out]; exact kc
      have HI := Lib.hid fun w => HIS.out 56 w
      clear kc
      by_cases hnt : n = 56
      · subst hnt
        have hr := (hbw.block w.heap.size (by have := HLT2.out; omega)).trans HR2.out
        have hB : Below w.heap.size w wr := HB2.out.trans (hbw.mono (by have := HLT2.out; omega))
        have hltr : w.heap.size < wr.heap.size := lt_of_block hr
        have HR := Lib.hid hr
        have HB := Lib.hid hB
        clear hr hB
        go_wp2_with fail
        refine (HI.out _).mono ?_
        rintro e w5 ⟨rfl, hb5⟩
        rw [beq_self_eq_true]
        have hr5 := (hb5.block _ hltr).trans HR.out
        have hB5 := HB.out.trans (hb5.mono (by omega))
        obtain ⟨c0, f0⟩ := rowc hr5 (j := 0) rfl; obtain ⟨c1, f1⟩ := rowc hr5 (j := 1) rfl; obtain ⟨c2, f2⟩ := rowc hr5 (j := 2) rfl; obtain ⟨c3, f3⟩ := rowc hr5 (j := 3) rfl; obtain ⟨c4, f4⟩ := rowc hr5 (j := 4) rfl; obtain ⟨c5, f5⟩ := rowc hr5 (j := 5) rfl; obtain ⟨c6, f6⟩ := rowc hr5 (j := 6) rfl; obtain ⟨c7, f7⟩ := rowc hr5 (j := 7) rfl; obtain ⟨c8, f8⟩ := rowc hr5 (j := 8) rfl; obtain ⟨c9, f9⟩ := rowc hr5 (j := 9) rfl; obtain ⟨c10, f10⟩ := rowc hr5 (j := 10) rfl
        have HR5 := Lib.hid hr5
        have HB5 := Lib.hid hB5
        clear hr5 hB5 hb5
        go_wp2
        exact bodyPost_ret (results_c3 (t := 6) (i := 7) (j := 8) (by kernel_rfl) rfl (load11 (set11 HR5.out (.slice none 0 0) (.slice none 0 0) (.slice none 0 0) (.bool false) (.bool false) (.bool false) (.string ⟨#[]⟩) (.slice none 0 0) (.bool false) (.string ⟨#[]⟩) (.bool false))) rfl rfl) rfl ⟨_, _, _, _, rfl, StrSl.nil _ _, StrSl.nil _ _, StrSl.nil _ _, StrSl.nil _ _, put11_below HB5.out (Nat.le_refl _) _ _ _ _ _ _ _ _ _ _ _⟩
      · have hf : (n == 56) = false := beq_eq_false_iff_ne.2 hnt
        rw [hf] at HI
        clear hf
        go_wp2_with fail
        refine (HI.out _).mono ?_
        rintro e w5 ⟨rfl, hb5⟩
        have hb6 := hbw.trans (hb5.mono hbw.size)
        clear hb5
        go_wp2
        exact ⟨⟨2, by go_num, by omega, hb6, by omega, by omega, by omega⟩, by simp [intOf]⟩
    · skip
      have kc := CELL2.out
      have kw : wr.cell? ⟨w1.heap.size, 2, none⟩ = some (.int .i64 55) := by rw [hbw.cell (p := ⟨w1.heap.size, 2, none⟩) HLT2.out]; exact kc
      have HI := Lib.hid fun w => HIS.out 55 w
      clear kc
      by_cases hnt : n = 55
      · subst hnt
        have hr := (hbw.block w.heap.size (by have := HLT2.out; omega)).trans HR2.out
        have hB : Below w.heap.size w wr := HB2.out.trans (hbw.mono (by have := HLT2.out; omega))
        have hltr : w.heap.size < wr.heap.size := lt_of_block hr
        have HR := Lib.hid hr
        have HB := Lib.hid hB
        clear hr hB
        go_wp2_with fail
        refine (HI.out _).mono ?_
        rintro e w5 ⟨rfl, hb5⟩
        rw [beq_self_eq_true]
        have hr5 := (hb5.block _ hltr).trans HR.out
        have hB5 := HB.out.trans (hb5.mono (by omega))
        obtain ⟨c0, f0⟩ := rowc hr5 (j := 0) rfl; obtain ⟨c1, f1⟩ := rowc hr5 (j := 1) rfl; obtain ⟨c2, f2⟩ := rowc hr5 (j := 2) rfl; obtain ⟨c3, f3⟩ := rowc hr5 (j := 3) rfl; obtain ⟨c4, f4⟩ := rowc hr5 (j := 4) rfl; obtain ⟨c5, f5⟩ := rowc hr5 (j := 5) rfl; obtain ⟨c6, f6⟩ := rowc hr5 (j := 6) rfl; obtain ⟨c7, f7⟩ := rowc hr5 (j := 7) rfl; obtain ⟨c8, f8⟩ := rowc hr5 (j := 8) rfl; obtain ⟨c9, f9⟩ := rowc hr5 (j := 9) rfl; obtain ⟨c10, f10⟩ := rowc hr5 (j := 10) rfl
        have HR5 := Lib.hid hr5
        have HB5 := Lib.hid hB5
        clear hr5 hB5 hb5
        go_wp2
        exact bodyPost_ret (results_c3 (t := 6) (i := 7) (j := 8) (by kernel_rfl) rfl (load11 (set11 HR5.out (.slice none 0 0) (.slice none 0 0) (.slice none 0 0) (.bool false) (.bool false) (.bool false) (.string ⟨#[]⟩) (.slice none 0 0) (.bool false) (.string ⟨#[]⟩) (.bool false))) rfl rfl) rfl ⟨_, _, _, _, rfl, StrSl.nil _ _, StrSl.nil _ _, StrSl.nil _ _, StrSl.nil _ _, put11_below HB5.out (Nat.le_refl _) _ _ _ _ _ _ _ _ _ _ _⟩
      · have hf : (n == 55) = false := beq_eq_false_iff_ne.2 hnt
        rw [hf] at HI
        clear hf
        go_wp2_with fail
        refine (HI.out _).mono ?_
        rintro e w5 ⟨rfl, hb5⟩
        have hb6 := hbw.trans (hb5.mono hbw.size)
        clear hb5
        go_wp2
        exact ⟨⟨3, by go_num, by omega, hb6, by omega, by omega, by omega⟩, by simp [intOf]⟩
theorem step_append_G {P : Program} {w : World} {ops : Array Oper} {o : Oper} {a : Act} {K : Act → World → Prop} {Q : Exit → Act → World → Prop} {E : Prop} (hgd : o.guard = none) (s x : Operand) (t : TypeId)
    (ho : o.op = .call { callee := .builtin .append, args := #[s, x], argTypes := #[t, t] })
    (base : Nat) (e : TypeId) (i : TypeInfo) (z : Value) (size bytes : Nat) (ht : P.underlying t = some (.slice e)) (hi : P.info? e = some i) (hz : i.zero = some z)
    (hsize : i.size = size) (hby : i.bytes = bytes) (hzs : z.cells.size = size)
    (v : Value) (n : Nat) (xs : List Value) (hs : a.eval s = v) (hown : OwnG w base e size v n xs)
    (ad : Addr) (m c : Nat) (news : List Value) (hx : a.eval x = .slice (some ad) m c) (hl : news.length = m * size) (hnews : ∀ j u, news[j]? = some u → w.cell? (ad.add j) = some u) (h1 : ∀ u ∈ news, u.oneCell' = true)
    (hm : 0 < m) (h63 : n + m ≤ maxLen) (hbytes : (n + m) * bytes ≤ 140737488355328) (hbase : base ≤ w.heap.size)
    (h : ∀ g cap w', OwnG w' base e size (.slice (some ⟨g, 0, none⟩) (n + m) cap) (n + m) (xs ++ news) → w.grownBy w' v.ownBlock → (v.ownBlock = some g ∨ g = w.heap.size) → g < w'.heap.size → K (a.put o.dst (.slice (some ⟨g, 0, none⟩) (n + m) cap)) w') :
    if Region.wanted o (yielded ops a.tmps) = true then Oper.wp P o a w K Q else E := by
  have hw : Region.wanted o (yielded ops a.tmps) = true := by simp [Region.wanted, hgd]
  rw [if_pos hw]
  exact wp_append_G w s x t ho base e i z size bytes ht hi hz hsize hby hzs v n xs hs hown ad m c news hx hl hnews h1 hm h63 hbytes hbase h

set_option maxRecDepth 100000 in
set_option maxHeartbeats 4000000 in
theorem Make_ok (l r : ByteArray) (d : Bool) (w : World) (T P O : List ByteArray) (d' p tt : Bool) (st : ByteArray) (hT0 : T.length ≠ 0) (hTl : T.length ≤ 1000000)
    (HM : Hid (∀ w', 1 < w'.heap.size → w'.cell? ⟨1, 0, none⟩ = w.cell? ⟨1, 0, none⟩ → Calls Tryd.prog 42 #[.string l, .string r, .bool d] w' fun e W' =>
      ∃ vT vP vO, e = .returned (.tuple #[.pointer (some ⟨w'.heap.size, 0, none⟩), .nilIface]) ∧ W'.heap[w'.heap.size]? = some (.cells (bRow vT vP vO d' p tt st vP vO) 73 (0, 0)) ∧ StrSl W' w'.heap.size vT T ∧ StrSl W' w'.heap.size vP P ∧ StrSl W' w'.heap.size vO O ∧ Below w'.heap.size w' W'))
    (hw : 1 < w.heap.size) :
    Calls Tryd.prog 13 #[.string l, .string r, .bool d] w fun e W' => MkQ w ⟨T, P, O, if p then [] else T, d', p, tt, st, 0⟩ e W' := by
  obtain ⟨i0, hi, hz0, hz1, hz2⟩ := info_parts Tryd.info9
  have HIS := Lib.hid fun (t : Int) (w : World) => is_nil t w
  have HM1 := Lib.hid (HM.out (w.alloc (.cells #[.slice none 0 0, .slice none 0 0, .slice none 0 0, .bool false, .bool false, .bool false, .string ⟨#[]⟩, .slice none 0 0, .bool false, .string ⟨#[]⟩, .bool false] 29)) (by simp; omega) (by rw [((Below.refl _ w).alloc (Nat.le_refl _) _).cell (p := ⟨1, 0, none⟩) hw]))
  rw [World.size_alloc] at HM1
  clear HM
  go_enter Tryd.func13, Tryd.ntmps13
  go_wp2_with fail
  refine HM1.out.mono ?_
  rintro e w1 ⟨vT, vP, vO, rfl, hbr, hT, hP, hO, hb1⟩
  have hr1 := (hb1.block w.heap.size (by simp)).trans (World.alloc_heap_new w _)
  have hB1 : Below w.heap.size w w1 := ((Below.refl _ w).alloc (Nat.le_refl _) _).trans (hb1.mono (by simp))
  obtain ⟨AT, cT, rfl, hcT, _⟩ := id hT
  obtain ⟨AP, cP, rfl, _, _⟩ := id hP
  obtain ⟨AO, cO, rfl, _, _⟩ := id hO
  obtain ⟨NT, hNT⟩ : ∃ NT, T.length = NT := ⟨_, rfl⟩
  obtain ⟨NP, hNP⟩ : ∃ NP, P.length = NP := ⟨_, rfl⟩
  obtain ⟨NO, hNO⟩ : ∃ NO, O.length = NO := ⟨_, rfl⟩
  rw [hNT] at hT hbr hT0 hTl
  rw [hNP] at hP hbr
  rw [hNO] at hO hbr
  have HNT := Lib.hid hNT
  have HT1 := Lib.hid (hT.lower (Nat.le_succ _))
  have HP1 := Lib.hid (hP.lower (Nat.le_succ _))
  have HO1 := Lib.hid (hO.lower (Nat.le_succ _))
  have HR1 := Lib.hid hr1
  have HB1 := Lib.hid hB1
  have HBR := Lib.hid hbr
  have hlt1 : w.heap.size + 1 < w1.heap.size := lt_of_block hbr
  clear hr1 hB1 hb1 HM1 hbr hT hP hO hNP hNO hcT hNT
  go_wp2
  obtain ⟨w2, hw2⟩ : ∃ w2, w1.alloc (.cells #[.int .i64 50, .int .i64 56, .int .i64 55] 30) = w2 := ⟨_, rfl⟩
  rw [hw2]
  have hrn : w2.heap[w1.heap.size]? = some (.cells #[.int .i64 50, .int .i64 56, .int .i64 55] 30 (0, 0)) := by rw [← hw2]; exact World.alloc_heap_new w1 _
  have hb2 : Below w1.heap.size w1 w2 := by rw [← hw2]; exact (Below.refl _ w1).alloc (Nat.le_refl _) _
  have HR2 := Lib.hid ((hb2.block _ (by omega)).trans HR1.out)
  have hbr2 := (hb2.block _ hlt1).trans HBR.out
  unfold bRow at hbr2
  have HB2 := Lib.hid (HB1.out.trans (hb2.mono (by omega)))
  have HT2 := Lib.hid (HT1.out.below hb2)
  have HP2 := Lib.hid (HP1.out.below hb2)
  have HO2 := Lib.hid (HO1.out.below hb2)
  have CELL0 := Lib.hid (rowc hrn (j := 0) rfl).1
  have CELL1 := Lib.hid (rowc hrn (j := 1) rfl).1
  have CELL2 := Lib.hid (rowc hrn (j := 2) rfl).1
  have hlt2 : w.heap.size < w2.heap.size := lt_of_block HR2.out
  have HBR2 := Lib.hid hbr2
  clear hw2 hrn hb2 HR1 HB1 HT1 HP1 HO1 hbr2 HBR
  go_loopw [12, 22] (fun _ iv wi => ∃ k : Nat, iv = .int .i64 k ∧ k ≤ 3 ∧ wi = w2) (fun _ iv _ => 3 - (intOf iv).toNat)
  case atStart => exact ⟨0, rfl, by omega, rfl⟩
  case round =>
    obtain ⟨k, rfl, hk, hwr⟩ := hrel
    obtain rfl : w2 = wr := hwr.symm
    by_cases hk3 : k < 3
    · have hk4 : k = 0 ∨ k = 1 ∨ k = 2 := by omega
      rcases hk4 with rfl | rfl | rfl
      · have kw : w2.cell? ⟨w1.heap.size, 0, none⟩ = some (.int .i64 50) := CELL0.out
        have HI := Lib.hid fun w => HIS.out 50 w
        go_wp2_with fail
        refine (HI.out _).mono ?_
        rintro e w5 ⟨rfl, hw5⟩
        obtain rfl : w2 = w5 := hw5.symm
        go_wp2
        exact ⟨⟨1, by go_num, by omega, by trivial⟩, by simp [intOf]⟩
      · have kw : w2.cell? ⟨w1.heap.size, 1, none⟩ = some (.int .i64 56) := CELL1.out
        have HI := Lib.hid fun w => HIS.out 56 w
        go_wp2_with fail
        refine (HI.out _).mono ?_
        rintro e w5 ⟨rfl, hw5⟩
        obtain rfl : w2 = w5 := hw5.symm
        go_wp2
        exact ⟨⟨2, by go_num, by omega, by trivial⟩, by simp [intOf]⟩
      · have kw : w2.cell? ⟨w1.heap.size, 2, none⟩ = some (.int .i64 55) := CELL2.out
        have HI := Lib.hid fun w => HIS.out 55 w
        go_wp2_with fail
        refine (HI.out _).mono ?_
        rintro e w5 ⟨rfl, hw5⟩
        obtain rfl : w2 = w5 := hw5.symm
        go_wp2
        exact ⟨⟨3, by go_num, by omega, by trivial⟩, by simp [intOf]⟩
    · obtain rfl : k = 3 := by omega
      have hbr2 := HBR2.out
      obtain ⟨b0, bf0⟩ := rowc hbr2 (j := 0) rfl
      obtain ⟨b1, bf1⟩ := rowc hbr2 (j := 1) rfl
      obtain ⟨b2, bf2⟩ := rowc hbr2 (j := 2) rfl
      obtain ⟨b3, bf3⟩ := rowc hbr2 (j := 3) rfl
      obtain ⟨b4, bf4⟩ := rowc hbr2 (j := 4) rfl
      obtain ⟨b5, bf5⟩ := rowc hbr2 (j := 5) rfl
      obtain ⟨b6, bf6⟩ := rowc hbr2 (j := 6) rfl
      obtain ⟨b7, bf7⟩ := rowc hbr2 (j := 7) rfl
      obtain ⟨b8, bf8⟩ := rowc hbr2 (j := 8) rfl
      obtain ⟨b9, bf9⟩ := rowc hbr2 (j := 9) rfl
      obtain ⟨b10, bf10⟩ := rowc hbr2 (j := 10) rfl
      clear hbr2
      cases p
      · have HSA := HT2.out.at_.2.2
        obtain ⟨g, off, rfl⟩ : ∃ g off, AT = some ⟨g, off, none⟩ := by
          obtain ⟨x, hx⟩ : ∃ x, T[0]? = some x := ⟨_, List.getElem?_eq_getElem (by have := HNT.out; omega)⟩
          obtain ⟨b, o, e, _⟩ := HSA 0 x hx
          exact ⟨b, o, e⟩
        have HNW : Hid (∀ j u, (T.map Value.string)[j]? = some u → w2.cell? ((⟨g, off, none⟩ : Addr).add j) = some u) := fun j u hj => by
          rw [List.getElem?_map] at hj
          obtain ⟨y, hy, rfl⟩ := Option.map_eq_some_iff.1 hj
          obtain ⟨b2, o2, e, hc⟩ := HSA j y hy
          cases e
          have e2 : Addr.add ⟨g, off, none⟩ j = ⟨g, off + j, none⟩ := by
            simp only [Addr.add]
            split
            · subst_vars; rfl
            · simp
          rw [e2]; exact hc
        have HON : Hid (∀ u ∈ T.map Value.string, u.oneCell' = true) := fun u hu => by
          obtain ⟨y, _, rfl⟩ := List.mem_map.1 hu; rfl
        have HLN : Hid ((T.map Value.string).length = NT * 1) := by unfold Hid; rw [List.length_map, HNT.out]; omega
        clear HSA
        go_wp2
        first | (go_region_law (first
          | (refine step_append_G rfl (.const (.slice none 0 0)) (.tmp 50) 27 rfl w.heap.size 9 i0 (.string ⟨#[]⟩) 1 16 Tryd.underlying27 hi hz0 hz1 hz2 rfl (.slice none 0 0) 0 [] rfl (OwnG.nil _ _ _ _) ⟨g, off, none⟩ NT cT (T.map Value.string) (by simp [go_sem]) HLN.out (fun j u hj => HNW.out j u hj) HON.out (by omega) (by unfold maxLen; omega) (by omega) (Nat.le_of_lt hlt2) ?_; intro g' cap w3 hown3 hgrow3 _ _; have hr3 : w3.heap[w.heap.size]? = some (.cells #[.slice none 0 0, .slice none 0 0, .slice none 0 0, .bool false, .bool false, .bool false, .string ⟨#[]⟩, .slice none 0 0, .bool false, .string ⟨#[]⟩, .bool false] 29 (0, 0)) := (hgrow3.block _ hlt2 (by simp [Value.ownBlock])).trans HR2.out; obtain ⟨a0, af0⟩ := rowc hr3 (j := 0) rfl; obtain ⟨a1, af1⟩ := rowc hr3 (j := 1) rfl; obtain ⟨a2, af2⟩ := rowc hr3 (j := 2) rfl; obtain ⟨a3, af3⟩ := rowc hr3 (j := 3) rfl; obtain ⟨a4, af4⟩ := rowc hr3 (j := 4) rfl; obtain ⟨a5, af5⟩ := rowc hr3 (j := 5) rfl; obtain ⟨a6, af6⟩ := rowc hr3 (j := 6) rfl; obtain ⟨a7, af7⟩ := rowc hr3 (j := 7) rfl; obtain ⟨a8, af8⟩ := rowc hr3 (j := 8) rfl; obtain ⟨a9, af9⟩ := rowc hr3 (j := 9) rfl; obtain ⟨a10, af10⟩ := rowc hr3 (j := 10) rfl; have hbr3 := (hgrow3.block (w.heap.size + 1) (lt_of_block HBR2.out) (by simp [Value.ownBlock])).trans HBR2.out; obtain ⟨e0, ef0⟩ := rowc hbr3 (j := 0) rfl; obtain ⟨e1, ef1⟩ := rowc hbr3 (j := 1) rfl; obtain ⟨e2, ef2⟩ := rowc hbr3 (j := 2) rfl; obtain ⟨e3, ef3⟩ := rowc hbr3 (j := 3) rfl; obtain ⟨e4, ef4⟩ := rowc hbr3 (j := 4) rfl; obtain ⟨e5, ef5⟩ := rowc hbr3 (j := 5) rfl; obtain ⟨e6, ef6⟩ := rowc hbr3 (j := 6) rfl; obtain ⟨e7, ef7⟩ := rowc hbr3 (j := 7) rfl; obtain ⟨e8, ef8⟩ := rowc hbr3 (j := 8) rfl; obtain ⟨e9, ef9⟩ := rowc hbr3 (j := 9) rfl; obtain ⟨e10, ef10⟩ := rowc hbr3 (j := 10) rfl; clear hbr3; have HR3 := Lib.hid hr3; have HG3 := Lib.hid hgrow3; have HO3 := Lib.hid hown3; clear hr3 hgrow3 hown3)
          | fail)) | fail
        all_goals go_wp2
        all_goals
          have hB3 : Below w2.heap.size w2 w3 := ⟨HG3.out.os, HG3.out.tape, HG3.out.output, HG3.out.size, fun k hk => HG3.out.block k hk (by simp [Value.ownBlock])⟩
          have hL3 : StrSl w3 w.heap.size (.slice (some ⟨g', 0, none⟩) (0 + NT) cap) T := StrSl.of (by have := HO3.out; rw [List.nil_append] at this; rw [← HNT.out] at this ⊢; rw [Nat.zero_add] at this ⊢; exact this)
          rw [Nat.zero_add] at hL3
          exact bodyPost_ret (results_c3 (t := 6) (i := 7) (j := 8) (by kernel_rfl) rfl (load11 (set11 HR3.out (.slice (some ⟨g, off, none⟩) NT cT) (.slice AP NP cP) (.slice AO NO cO) (.bool d') (.bool false) (.bool tt) (.string st) (.slice none 0 0) (.bool false) (.string ⟨#[]⟩) (.bool false))) rfl rfl) rfl ⟨_, _, _, _, rfl, (HT2.out.below hB3).put11 HR3.out _ _ _ _ _ _ _ _ _ _ _, (HP2.out.below hB3).put11 HR3.out _ _ _ _ _ _ _ _ _ _ _, (HO2.out.below hB3).put11 HR3.out _ _ _ _ _ _ _ _ _ _ _, hL3.put11 HR3.out _ _ _ _ _ _ _ _ _ _ _, put11_below (HB2.out.trans (hB3.mono (Nat.le_of_lt hlt2))) (Nat.le_refl _) _ _ _ _ _ _ _ _ _ _ _⟩
      · have hr2 := HR2.out
        obtain ⟨a0, af0⟩ := rowc hr2 (j := 0) rfl
        obtain ⟨a1, af1⟩ := rowc hr2 (j := 1) rfl
        obtain ⟨a2, af2⟩ := rowc hr2 (j := 2) rfl
        obtain ⟨a3, af3⟩ := rowc hr2 (j := 3) rfl
        obtain ⟨a4, af4⟩ := rowc hr2 (j := 4) rfl
        obtain ⟨a5, af5⟩ := rowc hr2 (j := 5) rfl
        obtain ⟨a6, af6⟩ := rowc hr2 (j := 6) rfl
        obtain ⟨a7, af7⟩ := rowc hr2 (j := 7) rfl
        obtain ⟨a8, af8⟩ := rowc hr2 (j := 8) rfl
        obtain ⟨a9, af9⟩ := rowc hr2 (j := 9) rfl
        obtain ⟨a10, af10⟩ := rowc hr2 (j := 10) rfl
        clear hr2
        go_wp2
        exact bodyPost_ret (results_c3 (t := 6) (i := 7) (j := 8) (by kernel_rfl) rfl (load11 (set11 HR2.out (.slice AT NT cT) (.slice AP NP cP) (.slice AO NO cO) (.bool d') (.bool true) (.bool tt) (.string st) (.slice none 0 0) (.bool false) (.string ⟨#[]⟩) (.bool false))) rfl rfl) rfl ⟨_, _, _, _, rfl, HT2.out.put11 HR2.out _ _ _ _ _ _ _ _ _ _ _, HP2.out.put11 HR2.out _ _ _ _ _ _ _ _ _ _ _, HO2.out.put11 HR2.out _ _ _ _ _ _ _ _ _ _ _, StrSl.nil _ _, put11_below HB2.out (Nat.le_refl _) _ _ _ _ _ _ _ _ _ _ _⟩
end Go.Proofs.YtmcemaphhlcjfaaDoor
