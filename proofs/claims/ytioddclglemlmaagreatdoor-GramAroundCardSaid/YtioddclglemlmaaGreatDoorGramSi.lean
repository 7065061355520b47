/- A simple command; conditions: a parser that stands among tokens, the last one the end. -/
import Derived.Test.YtioddclglemlmaaGreatDoorGramQ
import Derived.Test.YtioddclglemlmaaGreatDoorShelf
namespace Go.Proofs.YtioddclglemlmaaGreatDoor
open Go.RowKit

theorem results_cell {P : Program} {fn : Func} {tmps : Array Value} {t : Tmp} {ty : TypeId} {a : Addr} {v : Value} {w : World} (h : fn.results = #[.cell t ty]) (hp : tmps.getD t undef = .pointer (some a)) (hl : (loadVar ty a).run P w = .ok v w) :
    (results fn tmps).run P w = .ok v w := by
  have ha : (asAddr (tmps.getD t undef)).run P w = .ok a w := by rw [hp]; rfl
  unfold results
  rw [h]
  simp only [List.mapM_toArray, List.mapM_cons, List.mapM_nil, Sem.run_map, Sem.run_bind, Sem.run_pure, Result.andThen_ok, ha, hl]
  rfl
/-- a function of the parser tells what P tells -/
def FnOK (fn : Nat) (pb : Nat) (T : List (Int × ByteArray)) (g cap d i0 : Nat) (P : Nat → PR CmdT) : Prop :=
  ∀ i w, i0 ≤ i → PAt w pb T i d g cap → Calls Tryz.prog fn #[.pointer (some ⟨pb, 0, none⟩)] w (PaR pb T g cap i d w (CmdR w.heap.size) (P i))
theorem CRow_get (kind : Int) (no : Bool) (V : Nat → Value) {f : Nat} (h2 : 2 ≤ f) (h6 : f ≤ 6) : (CRow kind no V)[f]? = some (V f) := by
  obtain rfl | rfl | rfl | rfl | rfl : f = 2 ∨ f = 3 ∨ f = 4 ∨ f = 5 ∨ f = 6 := by omega
  all_goals rfl
/-- what an append to a list needs -/
theorem Bld.ops {w : World} {rb cb base : Nat} {kind : Int} {no : Bool} {V : Nat → Value} {N : Nat → Nat} {X : Nat → List Value} {col : Nat → Nat} {fz : Nat → Bool} (h : Bld w rb cb base kind no V N X col fz) (f : Nat) (h2 : 2 ≤ f) (h6 : f ≤ 6) (hz : fz f = false) :
    (∀ o, OwnG (w.alloc o) base (cty f) (csz f) (V f) (N f) (X f)) ∧ (∀ o, (w.alloc o).cell? ⟨cb, f, none⟩ = some (V f)) ∧ (∀ o w6, (w.alloc o).grownBy w6 (V f).ownBlock → w6.cell? ⟨cb, f, none⟩ = some (V f) ∧ w6.frozen? ⟨cb, f, none⟩ = false) ∧ w.cell? ⟨cb, f, none⟩ = some (V f) ∧ w.frozen? ⟨cb, f, none⟩ = false ∧ base ≤ w.heap.size :=
  ⟨fun o => (h.own f h2 h6).move fun k hk => Below.heap_alloc w o k ((h.own f h2 h6).block_lt k hk).2,
   fun o => (rowc ((Below.heap_alloc w o cb (lt_of_block h.row)).trans h.row) (CRow_get kind no V h2 h6)).1,
   fun _ _ hg => rowc (h.rowg h2 h6 hz (Kept.refl (fun _ => False) w) (fun _ e => e.elim) hg) (CRow_get kind no V h2 h6),
   (rowc h.row (CRow_get kind no V h2 h6)).1, frozen_of_row w _ _ _ _ h.row, Nat.le_trans h.hc (Nat.le_of_lt (lt_of_block h.row))⟩
theorem Bld.touch {w : World} {rb cb base : Nat} {kind : Int} {no : Bool} {V : Nat → Value} {N : Nat → Nat} {X : Nat → List Value} {col : Nat → Nat} {fz : Nat → Bool} (h : Bld w rb cb base kind no V N X col fz) (f : Nat) (h2 : 2 ≤ f) (h6 : f ≤ 6) : ∀ k, (False ∨ k = cb ∨ (V f).ownBlock = some k) → base ≤ k := fun k hk => by
  rcases hk with e | e | e
  · exact e.elim
  · rw [e]; exact h.hc
  · exact ((h.own f h2 h6).block_lt k e).1
/-- a command that is built, as it is told -/
structure Fin7 (W : World) (rb cb base : Nat) (t : CmdT) (kind : Int) (no : Bool) (v2 v3 v4 v5 v6 : Value) : Prop where
  k0 : W.cell? ⟨cb, 0, none⟩ = some (.int .i64 kind)
  k1 : W.cell? ⟨cb, 1, none⟩ = some (.bool no)
  k2 : W.cell? ⟨cb, 2, none⟩ = some v2
  k3 : W.cell? ⟨cb, 3, none⟩ = some v3
  k4 : W.cell? ⟨cb, 4, none⟩ = some v4
  k5 : W.cell? ⟨cb, 5, none⟩ = some v5
  k6 : W.cell? ⟨cb, 6, none⟩ = some v6
  zs : ∃ z0 z1 z2 z3 z4 z5 z6, (W.cell? ⟨rb, 0, none⟩ = some z0 ∧ W.frozen? ⟨rb, 0, none⟩ = false) ∧ (W.cell? ⟨rb, 1, none⟩ = some z1 ∧ W.frozen? ⟨rb, 1, none⟩ = false) ∧ (W.cell? ⟨rb, 2, none⟩ = some z2 ∧ W.frozen? ⟨rb, 2, none⟩ = false) ∧ (W.cell? ⟨rb, 3, none⟩ = some z3 ∧ W.frozen? ⟨rb, 3, none⟩ = false) ∧ (W.cell? ⟨rb, 4, none⟩ = some z4 ∧ W.frozen? ⟨rb, 4, none⟩ = false) ∧ (W.cell? ⟨rb, 5, none⟩ = some z5 ∧ W.frozen? ⟨rb, 5, none⟩ = false) ∧ (W.cell? ⟨rb, 6, none⟩ = some z6 ∧ W.frozen? ⟨rb, 6, none⟩ = false)
  fin : ∃ W6, (((((((W.setCell ⟨rb, 0, none⟩ (.int .i64 kind)).setCell ⟨rb, 1, none⟩ (.bool no)).setCell ⟨rb, 2, none⟩ v2).setCell ⟨rb, 3, none⟩ v3).setCell ⟨rb, 4, none⟩ v4).setCell ⟨rb, 5, none⟩ v5).setCell ⟨rb, 6, none⟩ v6) = W6 ∧ (loadVar 28 ⟨rb, 0, none⟩).run Tryz.prog W6 = .ok (.agg #[.int .i64 kind, .bool no, v2, v3, v4, v5, v6]) W6 ∧
    CmdR base W6 (.agg #[.int .i64 kind, .bool no, v2, v3, v4, v5, v6]) t ∧ Kept (fun k => k = rb) W W6
theorem BT.fin {W : World} {rb cb base : Nat} {kind : Int} {no : Bool} {V : Nat → Value} {N : Nat → Nat} {X : Nat → List Value} {col : Nat → Nat} {fz : Nat → Bool} {az ws : List ByteArray} {rs : List (ByteArray × ByteArray)} {kids : List CmdT} {pats : List (List ByteArray)} {bodies : List CmdT}
    (h : BT W rb cb base kind no fz az ws rs kids pats bodies V N X col) : ∃ A2 l2 m2 A3 l3 m3 A4 l4 m4 A5 l5 m5 A6 l6 m6, Fin7 W rb cb base (.mk kind no az ws rs kids pats bodies) kind no (.slice A2 l2 m2) (.slice A3 l3 m3) (.slice A4 l4 m4) (.slice A5 l5 m5) (.slice A6 l6 m6) := by
  obtain ⟨A2, m2, e2, _, _⟩ := (h.1.own 2 (by decide) (by decide)).form
  obtain ⟨A3, m3, e3, _, _⟩ := (h.1.own 3 (by decide) (by decide)).form
  obtain ⟨A4, m4, e4, _, _⟩ := (h.1.own 4 (by decide) (by decide)).form
  obtain ⟨A5, m5, e5, _, _⟩ := (h.1.own 5 (by decide) (by decide)).form
  obtain ⟨A6, m6, e6, _, _⟩ := (h.1.own 6 (by decide) (by decide)).form
  obtain ⟨k0, k1, k2, k3, k4, k5, k6⟩ := h.1.cells
  obtain ⟨z0, z1, z2, z3, z4, z5, z6, hz⟩ := h.1.rrow
  obtain ⟨W6, hW6, hl6, hc6, hk6⟩ := BT.ret h
  rw [e2] at k2
  rw [e3] at k3
  rw [e4] at k4
  rw [e5] at k5
  rw [e6] at k6
  rw [e2, e3, e4, e5, e6] at hW6 hl6 hc6
  unfold put7 at hW6
  exact ⟨A2, _, m2, A3, _, m3, A4, _, m4, A5, _, m5, A6, _, m6, k0, k1, k2, k3, k4, k5, k6, ⟨z0, z1, z2, z3, z4, z5, z6, rowc hz rfl, rowc hz rfl, rowc hz rfl, rowc hz rfl, rowc hz rfl, rowc hz rfl, rowc hz rfl⟩, W6, hW6.symm, hl6, hc6, hk6⟩
def zero7 : Obj := .cells #[.int .i64 0, .bool false, .slice none 0 0, .slice none 0 0, .slice none 0 0, .slice none 0 0, .slice none 0 0] 28
/-- a command's variable, new, without lists -/
theorem BT.new {W0 : World} {rb cb base : Nat} (kind : Int) (no : Bool) (hrow : W0.heap[cb]? = some (.cells #[.int .i64 kind, .bool no, .slice none 0 0, .slice none 0 0, .slice none 0 0, .slice none 0 0, .slice none 0 0] 28 (0, 0)))
    (hrr : ∃ z0 z1 z2 z3 z4 z5 z6, W0.heap[rb]? = some (.cells #[z0, z1, z2, z3, z4, z5, z6] 28 (0, 0))) (hb : base ≤ rb) (hc : base ≤ cb) (hn : rb ≠ cb) (fz : Nat → Bool) :
    BT W0 rb cb base kind no fz [] [] [] [] [] [] (fun _ => .slice none 0 0) (fun _ => 0) (fun _ => []) (fun k => if k = cb then 1 else if k = rb then 8 else 7) := by
  refine ⟨⟨hrow, hrr, fun f _ _ => OwnG.nil _ _ _ _, fun f _ _ k hk => by simp [Value.ownBlock] at hk, if_pos rfl, by rw [if_neg hn, if_pos rfl], hc, hb, fun k hk => ?_, fun _ => rfl⟩, rfl, rfl, rfl, rfl, rfl, rfl, rfl, ⟨[], rfl, KidsAt.nil⟩, rfl, [], [], rfl, ArmsAt.nil⟩
  split at hk
  · cases hk
  · split at hk <;> cases hk
theorem Tryz.info9 : (Tryz.prog.info? 9).map (fun i => (i.zero, i.size, i.bytes)) = some (some (.string ⟨#[]⟩), 1, 16) := by kernel_rfl
theorem cut_max (s : ByteArray) : (⟨(Lib.cut s.data.toList [61]).1.toArray⟩ : ByteArray).size ≤ s.size := by
  show (Lib.cut s.data.toList [61]).1.length ≤ _
  unfold Lib.cut
  split
  · show (s.data.toList.take _).length ≤ _
    rw [List.length_take, Array.length_toList]; exact Nat.min_le_right _ _
  · show s.data.toList.length ≤ _
    rw [Array.length_toList]; exact Nat.le_refl _
section
variable {pb d g cap : Nat} {T : List (Int × ByteArray)}
set_option maxRecDepth 100000 in
set_option maxHeartbeats 4000000 in
theorem simple_any (i0 : Nat) : FnOK 83 pb T g cap d i0 (simP T) := by
  intro i w _ h
  obtain ⟨R, hR⟩ : ∃ R, simP T i = R := ⟨_, rfl⟩
  rw [hR]
  have HR := Lib.hid hR
  clear hR
  have HP := Lib.hid h
  have hbl := h.blt
  have hb1 := h.p1
  have HK := Lib.hid fun (w : World) (i : Nat) (h : PAt w pb T i d g cap) => kind_q h
  have HEA := Lib.hid fun s w => ends_any s w
  obtain ⟨c0, c1, c2, f0, f1, f2⟩ := h.cells
  have h0 := h
  clear h
  obtain ⟨i9, hi9, hz90, hz91, hz92⟩ := info_parts Tryz.info9
  go_enter Tryz.func83, Tryz.ntmps83
  go_upto_region 3 with fail
  obtain ⟨w2, hw2⟩ : ∃ w2, (w.alloc (.cells #[.int .i64 0, .bool false, .slice none 0 0, .slice none 0 0, .slice none 0 0, .slice none 0 0, .slice none 0 0] 28)).alloc (.cells #[.int .i64 1, .bool false, .slice none 0 0, .slice none 0 0, .slice none 0 0, .slice none 0 0, .slice none 0 0] 28) = w2 := ⟨_, rfl⟩
  rw [hw2]
  have hk2 : Kept (Own1 pb) w w2 := by rw [← hw2]; exact ((Kept.refl _ w).alloc _).alloc _
  have hp2 : PAt w2 pb T i d g cap := by rw [← hw2]; exact (HP.out.alloc _).alloc _
  have hb2 := BT.new (W0 := w2) (rb := w.heap.size) (cb := w.heap.size + 1) (base := w.heap.size) 1 false
    (by rw [← hw2]; have := heap_alloc_last (w.alloc (.cells #[.int .i64 0, .bool false, .slice none 0 0, .slice none 0 0, .slice none 0 0, .slice none 0 0, .slice none 0 0] 28)) (.cells #[.int .i64 1, .bool false, .slice none 0 0, .slice none 0 0, .slice none 0 0, .slice none 0 0, .slice none 0 0] 28); simpa using this)
    ⟨_, _, _, _, _, _, _, by rw [← hw2, Below.heap_alloc _ _ _ (by simp)]; exact heap_alloc_last w _⟩ (Nat.le_refl _) (Nat.le_succ _) (by omega) (fun _ => false)
  have HK2 := Lib.hid hk2
  have HP2 := Lib.hid hp2
  have HB2 := Lib.hid hb2
  clear hw2 hk2 hp2 hb2 c0 c1 c2 f0 f1 f2
  have HKI := Lib.hid fun n => HK.out _ _ (HP2.out.drewN n)
  obtain ⟨c0, c1, c2, f0, f1, f2⟩ := HP2.out.cells
  obtain ⟨t0, t1⟩ := HP2.out.tok i HP2.out.lt
  have hs := h0.small
  have hl := h0.lt
  obtain ⟨k, hk⟩ : ∃ k, (tk T i).1 = k := ⟨_, rfl⟩
  obtain ⟨x, hx⟩ : ∃ k, (tk T i).2 = k := ⟨_, rfl⟩
  obtain ⟨n, hn⟩ : ∃ n, T.length = n := ⟨_, rfl⟩
  have HQ1 := Lib.hid hk
  have HQ2 := Lib.hid hx
  have HQ3 := Lib.hid hn
  rw [hk] at t0 HKI
  rw [hx] at t1
  rw [hn] at c0 hs hl
  have q : (i : Int) < n := by omega
  have HEX := Lib.hid fun w => ends_any x w
  clear hk hx hn h0
  go_cut [44] from 45 (fun s44 wi => Hid (∃ b : Bool, s44 = .bool b ∧ Hid (b = true ↔ (k = 1 ∧ (endsB x = true ∨ x = bNot))) ∧ PAt wi pb T i d g cap ∧ BT wi w.heap.size (w.heap.size + 1) w.heap.size 1 false (fun _ => false) [] [] [] [] [] [] (fun _ => .slice none 0 0) (fun _ => 0) (fun _ => []) (fun k => if k = w.heap.size + 1 then 1 else if k = w.heap.size then 8 else 7) ∧ Kept (Own1 pb) w wi))
  case first =>
    have HND := Lib.hid fun (b : Bool) n (hq : Hid (b = true ↔ (k = 1 ∧ (endsB x = true ∨ x = bNot)))) => (⟨b, rfl, hq, HP2.out.drewN n, HB2.out.keep (T := fun _ => False) ((Kept.refl _ _).drewN n) (fun _ e => e.elim), HK2.out.drewN n⟩ : ∃ b' : Bool, Value.bool b = .bool b' ∧ Hid (b' = true ↔ (k = 1 ∧ (endsB x = true ∨ x = bNot))) ∧ PAt (w2.drewN n) pb T i d g cap ∧ BT (w2.drewN n) _ _ _ _ _ _ _ _ _ _ _ _ _ _ _ _ ∧ Kept (Own1 pb) w (w2.drewN n))
    by_cases k1 : k = 1
    · subst k1
      obtain ⟨b, hb⟩ : ∃ b, endsB x = b := ⟨_, rfl⟩
      rw [hb] at HEX
      cases b with
      | true =>
        have HRE := Lib.hid fun n => HND.out true n ⟨fun _ => ⟨rfl, .inl hb⟩, fun _ => rfl⟩
        clear hb HND
        go_wp2
        go_quiet (first | (go_at_call 30; exact Calls.quiet_of (HKI.out _)) | (go_at_call 47; exact Calls.quiet_of (HEX.out _)) | fail)
        go_wp2
        go_meet
        case rel => exact HRE.out _
      | false =>
        by_cases x1 : x.toList = [33]
        · obtain rfl := tl_eq x1
          have HRE := Lib.hid fun n => HND.out true n ⟨fun _ => ⟨rfl, .inr rfl⟩, fun _ => rfl⟩
          clear hb x1 HND
          go_wp2
          go_quiet (first | (go_at_call 30; exact Calls.quiet_of (HKI.out _)) | (go_at_call 47; exact Calls.quiet_of (HEX.out _)) | fail)
          go_wp2
          go_meet
          case rel => exact HRE.out _
        · have x1' : (x.toList == [33]) = false := beq_eq_false_iff_ne.2 x1
          have HRE := Lib.hid fun n => HND.out false n ⟨(fun e => by cases e), fun e => e.2.elim (fun e => by rw [hb] at e; cases e) fun e => absurd e (of_decide_eq_false (tl_ne x1))⟩
          clear hb HND
          go_wp2
          go_quiet (first | (go_at_call 30; exact Calls.quiet_of (HKI.out _)) | (go_at_call 47; exact Calls.quiet_of (HEX.out _)) | fail)
          go_wp2
          go_meet
          case rel => exact HRE.out _
    · have k1' : (k == 1) = false := beq_eq_false_iff_ne.2 k1
      have HRE := Lib.hid fun n => HND.out false n ⟨(fun e => by cases e), fun e => absurd e.1 k1⟩
      clear HND
      go_wp2
      go_quiet (first | (go_at_call 30; exact Calls.quiet_of (HKI.out _)) | (go_at_call 47; exact Calls.quiet_of (HEX.out _)) | fail)
      go_wp2
      go_meet
      case rel => exact HRE.out _
  case rest =>
    obtain ⟨b, rfl, hbb, hp3, hb3, hk3⟩ := hcut.out
    have hR := HR.out
    unfold simP at hR
    rw [HQ1.out, HQ2.out] at hR
    clear hcut HKI HEX t0 t1 c0 c1 c2 f0 f1 f2 HK2 HP2 HB2
    cases b with
    | true =>
      rw [if_pos (hbb.out.1 rfl)] at hR
      subst hR
      have HF := Lib.hid (pfail_any 31 hp3)
      have HK3 := Lib.hid hk3
      clear hbb hp3 hb3 hk3
      go_wp2_with fail
      refine HF.out.mono ?_
      rintro e w1 ⟨rfl, hw1⟩
      obtain rfl := hw1.symm
      go_wp2
      exact ⟨rfl, HK3.out, _, rfl⟩
    | false =>
      rw [if_neg (fun e => by have := hbb.out.2 e; cases this)] at hR
      have HR2 := Lib.hid hR
      have HP3 := Lib.hid hp3
      have HB3 := Lib.hid hb3
      have HK3 := Lib.hid hk3
      clear hR hbb hp3 hb3 hk3 HR
      go_wp2
      go_loopw [] (fun wi => ∃ (j f : Nat) (az ws : List ByteArray) (rs : List (ByteArray × ByteArray)) (V : Nat → Value) (N : Nat → Nat) (X : Nat → List Value) (col : Nat → Nat), PAt wi pb T j d g cap ∧ BT wi w.heap.size (w.heap.size + 1) w.heap.size 1 false (fun _ => false) az ws rs [] [] [] V N X col ∧ Kept (Own1 pb) w wi ∧ i ≤ j ∧ T.length < f + j ∧ az.length + ws.length + rs.length ≤ j ∧ Hid (((simF T f j az ws rs).bind fun c j => if j = i then .err 31 else .ok c j) = R)) (fun wi => T.length - iOf wi pb)
      case atStart => exact ⟨i, T.length + 1, [], [], [], _, _, _, _, HP3.out, HB3.out, HK3.out, Nat.le_refl _, by omega, Nat.zero_le _, HR2⟩
      case round =>
        obtain ⟨j, f, az, ws, rs, V, N, X, col, hp, hb, hk, hij, hf, hlen, hr⟩ := hrel
        have hlt := hp.lt
        have hsm := hp.small
        obtain ⟨f, rfl⟩ : ∃ g, f = g + 1 := ⟨f - 1, by omega⟩
        have hst := hr.out
        rw [simF] at hst
        have HM := Lib.hid (iOf_p hp)
        have HP5 := Lib.hid hp
        have HB5 := Lib.hid hb
        have HK5 := Lib.hid hk
        by_cases hq : rdQ T j = true
        · rw [if_pos hq] at hst
          have HRD := Lib.hid (redir_yes hp hq hb rfl (by omega) (by omega) (by omega))
          obtain ⟨r, hr2⟩ : ∃ r, textP T (j + 1) = r := ⟨_, rfl⟩
          rw [hr2] at HRD hst
          clear hr hp hb hk hq hr2
          go_wp2_with fail
          refine HRD.out.mono ?_
          rintro e w4 ⟨hk4, ha⟩
          have HK4 := Lib.hid (HK5.out.on hk4 (fun k e => e))
          cases r with
          | err n =>
            obtain ⟨k2, rfl⟩ := ha
            have e : R = .err n := hst.symm
            subst e
            clear hk4 hst
            go_wp2
            exact ⟨rfl, HK4.out, _, rfl⟩
          | ok y j2 =>
            obtain ⟨rfl, ⟨V2, N2, X2, col2, hb4⟩, hp4, hj4⟩ := ha
            have HB4 := Lib.hid hb4
            have HP4 := Lib.hid hp4
            have HM4 := Lib.hid (iOf_p hp4)
            have HS : Hid (((simF T f j2 az ws (rs ++ [((tk T j).2, y)])).bind fun c j => if j = i then .err 31 else .ok c j) = R) := hst
            clear hk4 hst hb4 hp4
            go_wp2
            exact ⟨⟨j2, f, _, _, _, _, _, _, _, HP4.out, HB4.out, HK4.out, by omega, by omega, by simp; omega, HS⟩, by rw [HM.out, HM4.out]; omega⟩
        · rw [if_neg hq] at hst
          rw [Bool.not_eq_true] at hq
          have HRD := Lib.hid (redir_no (cb := w.heap.size + 1) hp hq)
          have HK2 := Lib.hid fun n => kind_q (hp.drewN n)
          obtain ⟨k1, hk1⟩ : ∃ k, (tk T j).1 = k := ⟨_, rfl⟩
          rw [hk1] at HK2 hst
          by_cases kk : k1 = 1
          · subst kk
            rw [if_pos rfl] at hst
            obtain ⟨x, hx⟩ : ∃ x, (tk T j).2 = x := ⟨_, rfl⟩
            have HTX := Lib.hid fun n => text_any (hp.drewN n)
            have htp : textP T j = .ok x (j + 1) := by unfold textP; rw [hk1, hx, if_pos rfl]
            rw [htp] at HTX
            rw [hx] at hst
            have hxs : x.size ≤ 70000 := by rw [← hx]; exact hp.txt j
            have HCT := Lib.hid fun (w : World) (m : Int) (hm : w.cell? ⟨1, 0, none⟩ = some (.int .i64 m)) => Tryz.strings_Cut x ⟨#[61]⟩ m w (by omega) hm
            have HNM := Lib.hid fun w => named_any ⟨(Lib.cut x.data.toList [61]).1.toArray⟩ w (Nat.le_trans (cut_max x) hxs)
            have HCT : Hid (∀ (w : World) (m : Int) (_ : w.cell? ⟨1, 0, none⟩ = some (.int .i64 m)), Calls Tryz.prog 94 #[.string x, .string ⟨#[61]⟩] w fun e w' => e = .returned (.tuple #[.string ⟨(Lib.cut x.data.toList [61]).1.toArray⟩, .string ⟨(Lib.cut x.data.toList [61]).2.1.toArray⟩, .bool (Lib.cut x.data.toList [61]).2.2]) ∧ ∃ n, w' = w.drewN n) := HCT
            obtain ⟨y1, hy1⟩ : ∃ y, (⟨(Lib.cut x.data.toList [61]).1.toArray⟩ : ByteArray) = y := ⟨_, rfl⟩
            obtain ⟨y2, hy2⟩ : ∃ y, (⟨(Lib.cut x.data.toList [61]).2.1.toArray⟩ : ByteArray) = y := ⟨_, rfl⟩
            obtain ⟨b1, hb1'⟩ : ∃ b, (Lib.cut x.data.toList [61]).2.2 = b := ⟨_, rfl⟩
            rw [hy1, hy2, hb1'] at HCT
            rw [hy1] at HNM
            rw [hy1, hb1'] at hst
            obtain ⟨b2, hb2'⟩ : ∃ b, namedB y1 = b := ⟨_, rfl⟩
            rw [hb2'] at HNM hst
            have HS0 := Lib.hid hst
            clear hr hp hb hk hq hk1 hst htp hx hy1 hy2 hb1' hb2'
            go_wp2_with fail
            refine HRD.out.mono ?_
            rintro e w4 ⟨rfl, m4, hw4⟩
            obtain rfl := hw4.symm
            go_wp2_with fail
            refine (HK2.out _).mono ?_
            rintro e w4 ⟨rfl, m5, hw4⟩
            rw [World.drewN_drewN] at hw4
            obtain rfl := hw4.symm
            go_wp2_with fail
            refine (HTX.out _).mono ?_
            rintro e w5 ⟨hk5, u, rfl, rfl, hp5, _⟩
            obtain ⟨m, hm⟩ := hp5.gm
            have HCT := Lib.hid (HCT.out w5 m hm)
            have HP6 := Lib.hid hp5
            have HK6 := Lib.hid ((HK5.out.drewN (m4 + m5)).trans hk5)
            have HB6 := Lib.hid ((HB5.out.keep (T := fun _ => False) ((Kept.refl _ _).drewN (m4 + m5)) (fun _ e => e.elim)).keep hk5 (by intro k (e : k = pb); omega))
            clear hk5 hp5 hm
            go_wp2_with fail
            refine HCT.out.mono ?_
            rintro e w7 ⟨rfl, m7, hw7⟩
            have HP7 := Lib.hid (by rw [hw7]; exact HP6.out.drewN m7 : PAt w7 pb T (j + 1) d g cap)
            have HK7 := Lib.hid (by rw [hw7]; exact HK6.out.drewN m7 : Kept (Own1 pb) w w7)
            have hb7 : BT w7 w.heap.size (w.heap.size + 1) w.heap.size 1 false (fun _ => false) az ws rs [] [] [] V N X col := by rw [hw7]; exact HB6.out.keep (T := fun _ => False) ((Kept.refl _ _).drewN m7) (fun _ e => e.elim)
            clear hw7
            have hN2 : N 2 ≤ 5001 := by rw [hb7.2.n2]; omega
            have hN3 : N 3 ≤ 5001 := by rw [hb7.2.n3]; omega
            have HN3 := Lib.hid hb7.2.n3
            have HB7 := Lib.hid hb7
            have hst := HS0.out
            cases b1 with
            | false =>
              rw [Bool.false_and, Bool.false_and, if_neg (by decide)] at hst
              have HS := Lib.hid hst
              clear hst
              obtain ⟨A3, n3, hV3, _, _⟩ := (hb7.1.own 3 (by decide) (by decide)).form
              have hops := hb7.1.ops 3 (by decide) (by decide) rfl
              have HXX := Lib.hid fun (o : Obj) (w8 : World) (v' : Value) hg ho hn => hb7.wrd (w3 := w8) (v' := v') (o := o) (T := fun _ => False) (Kept.refl _ w7) (fun _ e => e.elim) x rfl hg ho hn
              have HTC := Lib.hid (hb7.1.touch 3 (by decide) (by decide))
              rw [hV3] at hops HXX HTC
              obtain ⟨hO, k3a, hJ, k3, kf3, hbs⟩ := hops
              have hO := Lib.hid hO
              have HJ := Lib.hid hJ
              clear hV3 hb7 hJ k3a
              go_wp2_with (at_builtin; refine wpList_append_G _ rfl _ _ 22 rfl w.heap.size 9 i9 (.string ⟨#[]⟩) 1 16 Tryz.underlying22 hi9 hz90 hz91 hz92 rfl (.slice A3 (N 3) n3) (N 3) (X 3) rfl (hO.out _) ⟨_, 0, none⟩ 1 1 [.string x] rfl rfl (cell_one_new _ _ _) (by simp [Value.oneCell']) (by decide) (by unfold maxLen; omega) (by omega) (by simp; omega) ?_; intro g6 cap6 w8 hown6 hgrow6 hnew6 _; obtain ⟨j1, j2⟩ := HJ.out _ _ hgrow6; have HY := Lib.hid (HXX.out _ _ _ hgrow6 hown6 (fun k hk => by have e6 : g6 = k := (by simpa [Value.ownBlock] using hk); rw [← e6]; exact hnew6)); clear hown6 hgrow6 hnew6)
              have HP8 := Lib.hid (HP7.out.keep HY.out.2 (fun e => by have := HTC.out _ e; omega) (fun e => by have := HTC.out _ e; omega) (fun e => by have := HTC.out _ e; omega))
              have HM8 := Lib.hid (iOf_p HP8.out)
              exact ⟨⟨j + 1, f, _, _, _, _, _, _, _, HP8.out, HY.out.1, HK7.out.on HY.out.2 (fun k e => .inr (HTC.out k e)), by omega, by omega, by simp; omega, HS⟩, by rw [HM.out, HM8.out]; omega⟩
            | true =>
              rw [Bool.true_and] at hst
              cases b2 with
              | false =>
                rw [Bool.false_and, if_neg (by decide)] at hst
                have HS := Lib.hid hst
                clear hst hb7
                go_wp2_with fail
                refine (HNM.out _).mono ?_
                rintro e w9 ⟨rfl, hw9⟩
                obtain rfl := hw9.symm
                have hb7 := HB7.out
                obtain ⟨A3, n3, hV3, _, _⟩ := (hb7.1.own 3 (by decide) (by decide)).form
                have hops := hb7.1.ops 3 (by decide) (by decide) rfl
                have HXX := Lib.hid fun (o : Obj) (w8 : World) (v' : Value) hg ho hn => hb7.wrd (w3 := w8) (v' := v') (o := o) (T := fun _ => False) (Kept.refl _ w7) (fun _ e => e.elim) x rfl hg ho hn
                have HTC := Lib.hid (hb7.1.touch 3 (by decide) (by decide))
                rw [hV3] at hops HXX HTC
                obtain ⟨hO, k3a, hJ, k3, kf3, hbs⟩ := hops
                have hO := Lib.hid hO
                have HJ := Lib.hid hJ
                clear hV3 hb7 hJ k3a
                go_wp2_with (at_builtin; refine wpList_append_G _ rfl _ _ 22 rfl w.heap.size 9 i9 (.string ⟨#[]⟩) 1 16 Tryz.underlying22 hi9 hz90 hz91 hz92 rfl (.slice A3 (N 3) n3) (N 3) (X 3) rfl (hO.out _) ⟨_, 0, none⟩ 1 1 [.string x] rfl rfl (cell_one_new _ _ _) (by simp [Value.oneCell']) (by decide) (by unfold maxLen; omega) (by omega) (by simp; omega) ?_; intro g6 cap6 w8 hown6 hgrow6 hnew6 _; obtain ⟨j1, j2⟩ := HJ.out _ _ hgrow6; have HY := Lib.hid (HXX.out _ _ _ hgrow6 hown6 (fun k hk => by have e6 : g6 = k := (by simpa [Value.ownBlock] using hk); rw [← e6]; exact hnew6)); clear hown6 hgrow6 hnew6)
                have HP8 := Lib.hid (HP7.out.keep HY.out.2 (fun e => by have := HTC.out _ e; omega) (fun e => by have := HTC.out _ e; omega) (fun e => by have := HTC.out _ e; omega))
                have HM8 := Lib.hid (iOf_p HP8.out)
                exact ⟨⟨j + 1, f, _, _, _, _, _, _, _, HP8.out, HY.out.1, HK7.out.on HY.out.2 (fun k e => .inr (HTC.out k e)), by omega, by omega, by simp; omega, HS⟩, by rw [HM.out, HM8.out]; omega⟩
              | true =>
                rw [Bool.true_and] at hst
                cases ws with
                | nil =>
                  rw [if_pos (show ([] : List ByteArray).isEmpty = true from rfl)] at hst
                  have HS := Lib.hid hst
                  have n0 : N 3 = 0 := HN3.out
                  obtain ⟨A9, n9, hV9, _, _⟩ := (hb7.1.own 3 (by decide) (by decide)).form
                  have k9 := hb7.1.cells.2.2.2.1
                  rw [hV9, n0] at k9
                  clear hst hb7 hV9 n0
                  go_wp2_with fail
                  refine (HNM.out _).mono ?_
                  rintro e w9 ⟨rfl, hw9⟩
                  obtain rfl := hw9.symm
                  go_upto_region 10 with fail
                  clear k9
                  have hb7 := HB7.out
                  obtain ⟨A3, n3, hV3, _, _⟩ := (hb7.1.own 2 (by decide) (by decide)).form
                  have hops := hb7.1.ops 2 (by decide) (by decide) rfl
                  have HXX := Lib.hid fun (o : Obj) (w8 : World) (v' : Value) hg ho hn => hb7.asg (w3 := w8) (v' := v') (o := o) (T := fun _ => False) (Kept.refl _ w7) (fun _ e => e.elim) x rfl hg ho hn
                  have HTC := Lib.hid (hb7.1.touch 2 (by decide) (by decide))
                  rw [hV3] at hops HXX HTC
                  obtain ⟨hO, k3a, hJ, k3, kf3, hbs⟩ := hops
                  have hO := Lib.hid hO
                  have HJ := Lib.hid hJ
                  clear hV3 hb7 hJ k3a
                  go_wp2_with (at_builtin; refine wpList_append_G _ rfl _ _ 22 rfl w.heap.size 9 i9 (.string ⟨#[]⟩) 1 16 Tryz.underlying22 hi9 hz90 hz91 hz92 rfl (.slice A3 (N 2) n3) (N 2) (X 2) rfl (hO.out _) ⟨_, 0, none⟩ 1 1 [.string x] rfl rfl (cell_one_new _ _ _) (by simp [Value.oneCell']) (by decide) (by unfold maxLen; omega) (by omega) (by simp; omega) ?_; intro g6 cap6 w8 hown6 hgrow6 hnew6 _; obtain ⟨j1, j2⟩ := HJ.out _ _ hgrow6; have HY := Lib.hid (HXX.out _ _ _ hgrow6 hown6 (fun k hk => by have e6 : g6 = k := (by simpa [Value.ownBlock] using hk); rw [← e6]; exact hnew6)); clear hown6 hgrow6 hnew6)
                  have HP8 := Lib.hid (HP7.out.keep HY.out.2 (fun e => by have := HTC.out _ e; omega) (fun e => by have := HTC.out _ e; omega) (fun e => by have := HTC.out _ e; omega))
                  have HM8 := Lib.hid (iOf_p HP8.out)
                  exact ⟨⟨j + 1, f, _, _, _, _, _, _, _, HP8.out, HY.out.1, HK7.out.on HY.out.2 (fun k e => .inr (HTC.out k e)), by omega, by omega, by simp; omega, HS⟩, by rw [HM.out, HM8.out]; omega⟩
                | cons z ws =>
                  simp only [List.length_cons] at hlen
                  rw [show (z :: ws).isEmpty = false from rfl, if_neg (by decide)] at hst
                  have HS := Lib.hid hst
                  obtain ⟨n0, hn0⟩ : ∃ n0, N 3 = n0 := ⟨_, rfl⟩
                  have n1 : 0 < n0 := by rw [← hn0, HN3.out]; simp
                  have n2 : ((n0 : Int) == 0) = false := beq_eq_false_iff_ne.2 (by omega)
                  have n3 : ¬ n0 = 0 := by omega
                  obtain ⟨A9, n9, hV9, _, _⟩ := (hb7.1.own 3 (by decide) (by decide)).form
                  have k9 := hb7.1.cells.2.2.2.1
                  rw [hV9, hn0] at k9
                  clear hst hb7 hV9 hn0
                  go_wp2_with fail
                  refine (HNM.out _).mono ?_
                  rintro e w9 ⟨rfl, hw9⟩
                  obtain rfl := hw9.symm
                  go_upto_region 11 with fail
                  clear k9
                  have hb7 := HB7.out
                  obtain ⟨A3, n3, hV3, _, _⟩ := (hb7.1.own 3 (by decide) (by decide)).form
                  have hops := hb7.1.ops 3 (by decide) (by decide) rfl
                  have HXX := Lib.hid fun (o : Obj) (w8 : World) (v' : Value) hg ho hn => hb7.wrd (w3 := w8) (v' := v') (o := o) (T := fun _ => False) (Kept.refl _ w7) (fun _ e => e.elim) x rfl hg ho hn
                  have HTC := Lib.hid (hb7.1.touch 3 (by decide) (by decide))
                  rw [hV3] at hops HXX HTC
                  obtain ⟨hO, k3a, hJ, k3, kf3, hbs⟩ := hops
                  have hO := Lib.hid hO
                  have HJ := Lib.hid hJ
                  clear hV3 hb7 hJ k3a
                  go_wp2_with (at_builtin; refine wpList_append_G _ rfl _ _ 22 rfl w.heap.size 9 i9 (.string ⟨#[]⟩) 1 16 Tryz.underlying22 hi9 hz90 hz91 hz92 rfl (.slice A3 (N 3) n3) (N 3) (X 3) rfl (hO.out _) ⟨_, 0, none⟩ 1 1 [.string x] rfl rfl (cell_one_new _ _ _) (by simp [Value.oneCell']) (by decide) (by unfold maxLen; omega) (by omega) (by simp; omega) ?_; intro g6 cap6 w8 hown6 hgrow6 hnew6 _; obtain ⟨j1, j2⟩ := HJ.out _ _ hgrow6; have HY := Lib.hid (HXX.out _ _ _ hgrow6 hown6 (fun k hk => by have e6 : g6 = k := (by simpa [Value.ownBlock] using hk); rw [← e6]; exact hnew6)); clear hown6 hgrow6 hnew6)
                  have HP8 := Lib.hid (HP7.out.keep HY.out.2 (fun e => by have := HTC.out _ e; omega) (fun e => by have := HTC.out _ e; omega) (fun e => by have := HTC.out _ e; omega))
                  have HM8 := Lib.hid (iOf_p HP8.out)
                  exact ⟨⟨j + 1, f, _, _, _, _, _, _, _, HP8.out, HY.out.1, HK7.out.on HY.out.2 (fun k e => .inr (HTC.out k e)), by omega, by omega, by simp; omega, HS⟩, by rw [HM.out, HM8.out]; omega⟩
          · rw [if_neg kk] at hst
            have kk' : (k1 == 1) = false := beq_eq_false_iff_ne.2 kk
            have HS : Hid ((if j = i then PR.err 31 else .ok (.mk 1 false az ws rs [] [] []) j) = R) := hst
            clear hr hp hb hk hq hk1 hst
            go_wp2_with fail
            refine HRD.out.mono ?_
            rintro e w4 ⟨rfl, m4, hw4⟩
            obtain rfl := hw4.symm
            go_wp2_with fail
            refine (HK2.out _).mono ?_
            rintro e w4 ⟨rfl, m5, hw4⟩
            rw [World.drewN_drewN] at hw4
            have HP6 := Lib.hid (by rw [hw4]; exact HP5.out.drewN _ : PAt w4 pb T j d g cap)
            have HK6 := Lib.hid (by rw [hw4]; exact HK5.out.drewN _ : Kept (Own1 pb) w w4)
            have hb6 : BT w4 w.heap.size (w.heap.size + 1) w.heap.size 1 false (fun _ => false) az ws rs [] [] [] V N X col := by rw [hw4]; exact HB5.out.keep (T := fun _ => False) ((Kept.refl _ _).drewN _) (fun _ e => e.elim)
            have HB6 := Lib.hid hb6
            clear hw4
            obtain ⟨c0, c1, c2, f0, f1, f2⟩ := HP6.out.cells
            by_cases hji : j = i
            · subst hji
              have e : R = .err 31 := by rw [← HS.out, if_pos rfl]
              subst e
              have HF := Lib.hid (pfail_any 31 HP6.out)
              clear hb6
              go_wp2_with fail
              refine HF.out.mono ?_
              rintro e w9 ⟨rfl, hw9⟩
              obtain rfl := hw9.symm
              go_wp2
              exact ⟨rfl, HK6.out, _, rfl⟩
            · have e : R = .ok (.mk 1 false az ws rs [] [] []) j := by rw [← HS.out, if_neg hji]
              subst e
              have hji' : ((j : Int) == i) = false := beq_eq_false_iff_ne.2 (by omega)
              obtain ⟨A2, l2, m2, A3, l3, m3, A4, l4, m4, A5, l5, m5, A6, l6, m6, k0, k1, k2, k3, k4, k5, k6, ⟨z0, z1, z2, z3, z4, z5, z6, ⟨y0, g0⟩, ⟨y1, g1⟩, ⟨y2, g2⟩, ⟨y3, g3⟩, ⟨y4, g4⟩, ⟨y5, g5⟩, ⟨y6, g6⟩⟩, hfin⟩ := BT.fin HB6.out
              have HRT := Lib.hid hfin
              clear hb6 hfin
              go_wp2
              obtain ⟨W6, hW6, hl6, hc6, hk6⟩ := HRT.out
              rw [hW6]
              exact bodyPost_ret (results_cell (t := 2) (by kernel_rfl) rfl hl6) rfl ⟨HK6.out.on hk6 (fun k e => .inr (Nat.le_of_eq e.symm)), _, rfl, hc6, HP6.out.keep hk6 (by show ¬ pb = _; omega) (by show ¬ g = _; omega) (by show ¬ 1 = _; omega), hij⟩
end
end Go.Proofs.YtioddclglemlmaaGreatDoor
