/- Loops. while and until. Conditions: as each part says. -/
import Derived.Test.YtioddclglemlmaaGreatDoorGramCo
import Derived.RegionDies
/- Loops; conditions: a parser that stands among tokens, the last one the end; what a list tells. -/
namespace Go.Proofs.YtioddclglemlmaaGreatDoor
open Go.RowKit

section
variable {pb d g cap : Nat} {T : List (Int × ByteArray)} {C : Nat → PR CmdT}
set_option maxRecDepth 100000 in
set_option maxHeartbeats 4000000 in
theorem loop_any (no : Bool) (i0 : Nat) (HLI : FnOK 91 pb T g cap d i0 (lisP T C)) : ∀ i w, i0 ≤ i → PAt w pb T i d g cap → Calls Tryz.prog 96 #[.pointer (some ⟨pb, 0, none⟩), .bool no] w (PaR pb T g cap i d w (CmdR w.heap.size) (looP T C no i)) := by
  intro i w hi h
  obtain ⟨R, hR⟩ : ∃ R, looP T C no i = R := ⟨_, rfl⟩
  rw [hR]
  unfold looP at hR
  have HLI := Lib.hid HLI
  have hbl := h.blt
  have hb1 := h.p1
  obtain ⟨i28, hi28, hz0, hz1, hz2⟩ := info_parts Tryz.info28
  have HLW := Lib.hid (HLI.out i _ hi (h.alloc (.cells #[.int .i64 0, .bool false, .slice none 0 0, .slice none 0 0, .slice none 0 0, .slice none 0 0, .slice none 0 0] 28)))
  obtain ⟨r, hr⟩ : ∃ r, lisP T C i = r := ⟨_, rfl⟩
  rw [hr] at HLW hR
  have HR := Lib.hid hR
  clear h hR hr
  cases r with
  | err n =>
    go_enter Tryz.func96, Tryz.ntmps96
    go_wp2_with fail
    refine HLW.out.mono ?_
    rintro e w4 ⟨hk4, k2, rfl⟩
    have e : R = .err n := HR.out.symm
    subst e
    have HK4 := Lib.hid (((Kept.refl _ w).alloc _).trans hk4)
    clear hk4
    go_wp2
    exact ⟨rfl, HK4.out, _, rfl⟩
  | ok c j1 =>
    go_enter Tryz.func96, Tryz.ntmps96
    go_wp2_with fail
    refine HLW.out.mono ?_
    rintro e w2 ⟨hk2, u, rfl, ⟨cs, rfl, hc2⟩, hp2, hj1⟩
    obtain ⟨kc0, nc0, B2, q2, p2, B3, q3, p3, B4, q4, p4, B5, q5, p5, B6, q6, p6, rfl⟩ := hc2.lit
    have hk02 : Kept (Own1 pb) w w2 := ((Kept.refl _ w).alloc _).trans hk2
    have hz2' : w2.heap[w.heap.size]? = some (.cells #[.int .i64 0, .bool false, .slice none 0 0, .slice none 0 0, .slice none 0 0, .slice none 0 0, .slice none 0 0] 28 (0, 0)) := (hk2.block _ (by simp) (by show ¬ _ = pb; omega)).trans (heap_alloc_last w _)
    have hsz2 := hk2.size
    rw [World.size_alloc] at hsz2 hc2
    have hbt := BT.newk (rb := w.heap.size) (base := w.heap.size) hc2 ⟨_, _, _, _, _, _, _, hz2'⟩ (Nat.le_refl _) (Nat.lt_succ_self _) hsz2 7 no
    obtain ⟨w3, hw3⟩ : ∃ w3, (w2.alloc (.cells #[.int .i64 kc0, .bool nc0, .slice B2 q2 p2, .slice B3 q3 p3, .slice B4 q4 p4, .slice B5 q5 p5, .slice B6 q6 p6] 28)).alloc (.cells #[.int .i64 7, .bool no, .slice none 0 0, .slice none 0 0, .slice none 0 0, .slice (some ⟨w2.heap.size, 0, none⟩) 1 1, .slice none 0 0] 28) = w3 := ⟨_, rfl⟩
    rw [hw3] at hbt
    obtain ⟨V0, N0, X0, col0, hbt⟩ := hbt
    have HP3 := Lib.hid (by rw [← hw3]; exact (hp2.alloc _).alloc _ : PAt w3 pb T j1 d g cap)
    have HK3 := Lib.hid (by rw [← hw3]; exact (hk02.alloc _).alloc _ : Kept (Own1 pb) w w3)
    have HB3 := Lib.hid hbt
    have HW3 := Lib.hid hw3
    have hcb : w.heap.size < w2.heap.size + 1 := by omega
    clear hp2 hk2 hk02 hz2' hc2 hbt hsz2 hw3
    have HR2 : Hid (((mustW T j1 bDo).bind fun _ j => (lisP T C j).bind fun d j => (mustW T j bDone).bind fun _ j => .ok (.mk 7 no [] [] [] [c, d] [] []) j) = R) := HR.out
    go_upto_region 2 with fail
    rw [HW3.out]
    clear HW3
    have HWD := Lib.hid (word_any bDo HP3.out)
    obtain ⟨qb, hqb⟩ : ∃ q, isW T j1 bDo = q := ⟨_, rfl⟩
    rw [hqb] at HWD
    have hrr := HR2.out
    unfold mustW at hrr
    rw [hqb] at hrr
    unfold bDo at HWD
    clear hqb
    cases qb with
    | false =>
      have e : R = .err 31 := hrr.symm
      subst e
      clear hrr
      go_wp2_with fail
      refine HWD.out.mono ?_
      rintro e w8 ⟨rfl, hp8, hk8⟩
      have HMU := Lib.hid (must_any false hp8)
      have HK8 := Lib.hid (HK3.out.trans hk8)
      clear hp8 hk8
      go_wp2_with fail
      refine HMU.out.mono ?_
      rintro e w9 ⟨hw9, rfl⟩
      obtain rfl := hw9.symm
      go_wp2
      exact ⟨rfl, HK8.out, _, rfl⟩
    | true =>
      have HR2' := Lib.hid hrr
      clear hrr
      go_wp2_with fail
      refine HWD.out.mono ?_
      rintro e w8 ⟨rfl, hp8, hk8⟩
      have HP3n := Lib.hid (show PAt w8 pb T (j1 + 1) d g cap from hp8)
      have HMU := Lib.hid (must_any true hp8)
      have HK3n := Lib.hid (HK3.out.trans hk8)
      have HB3n := Lib.hid (HB3.out.keep hk8 (by intro k (e : k = pb); omega))
      clear hp8 hk8
      go_wp2_with fail
      refine HMU.out.mono ?_
      rintro e w9 ⟨hw9, rfl⟩
      obtain rfl := hw9.symm
      have HR2' : Hid (((lisP T C (j1 + 1)).bind fun d j => (mustW T j bDone).bind fun _ j => .ok (.mk 7 no [] [] [] [c, d] [] []) j) = R) := HR2'
      go_upto_region 3 with fail
      go_cut [] from 15 (fun wi => Hid (∃ (cx : CmdT) (jx : Nat) (V : Nat → Value) (N : Nat → Nat) (X : Nat → List Value) (col : Nat → Nat), lisP T C (j1 + 1) = .ok cx jx ∧ (j1 + 1) ≤ jx ∧ PAt wi pb T jx d g cap ∧ BT wi w.heap.size (w2.heap.size + 1) w.heap.size 7 no (fun _ => false) [] [] [] ([c] ++ [cx]) [] [] V N X col ∧ Kept (Own1 pb) w wi))
      case first =>
        obtain ⟨r, hr⟩ : ∃ r, lisP T C (j1 + 1) = r := ⟨_, rfl⟩
        have HRR := Lib.hid hr
        have HCW := Lib.hid (HLI.out (j1 + 1) w8.drew (by omega) (HP3n.out.drewN 1))
        rw [hr] at HCW
        clear hr
        obtain ⟨A5, n5, hV5, _, _⟩ := (HB3n.out.1.own 5 (by decide) (by decide)).form
        have k5 := HB3n.out.1.cells.2.2.2.2.2.1
        have hN5 : N0 5 ≤ 10001 := by rw [HB3n.out.2.n5]; simp
        rw [hV5] at k5
        have HV5 := Lib.hid hV5
        clear hV5
        cases r with
        | err n =>
          go_upto_region 3 with fail
          go_region_dies
          all_goals
            go_at_call 91
            refine HCW.out.mono ?_
            rintro e w4 ⟨hk4, k2, rfl⟩
            have e : R = .err n := (by have := HR2'.out; rw [HRR.out] at this; exact this.symm); subst e; exact ⟨rfl, HK3n.out.drew.trans hk4, _, rfl⟩
        | ok cx jx =>
          go_upto_region 3 with fail
          first | (go_region_law (first
            | (refine step_append_G rfl _ _ 24 rfl w.heap.size 28 i28 (.agg #[.int .i64 0, .bool false, .slice none 0 0, .slice none 0 0, .slice none 0 0, .slice none 0 0, .slice none 0 0]) 7 136 Tryz.underlying24 hi28 hz0 hz1 hz2 rfl (.slice A5 (N0 5) n5) (N0 5) (X0 5) rfl (hO.out _) ⟨w4.heap.size, 0, none⟩ 1 1 [.int .i64 kc0, .bool nc0, .slice B2 q2 p2, .slice B3 q3 p3, .slice B4 q4 p4, .slice B5 q5 p5, .slice B6 q6 p6] rfl rfl (World.news_of_block (heap_alloc_last w4 _)) (by simp [Value.oneCell']) (by decide) (by unfold maxLen; omega) (by omega) (by simp; omega) ?_; intro g6 cap6 w6 hown6 hgrow6 hnew6 _; obtain ⟨j1', j2'⟩ := HJ.out _ _ hgrow6; have HY := Lib.hid (HXX.out _ _ _ hgrow6 hown6 (fun k hk => by have e6 : g6 = k := (by simpa [Value.ownBlock] using hk); rw [← e6]; exact hnew6)); clear hown6 hgrow6 hnew6)
            | (go_simp; go_at_call 91; refine HCW.out.mono ?_; rintro e w4 ⟨hk4, u, rfl, ⟨cs, rfl, hc4⟩, hp4, hj4⟩; obtain ⟨kc0, nc0, B2, q2, p2, B3, q3, p3, B4, q4, p4, B5, q5, p5, B6, q6, p6, rfl⟩ := hc4.lit; have hk34 : Kept (Own1 pb) w8 w4 := ((Kept.refl _ _).drewN 1).trans hk4; have hb4 := HB3n.out.keep hk34 (by intro k (e : k = pb); omega); have hops := hb4.1.ops 5 (by decide) (by decide) rfl; rw [HV5.out] at hops; obtain ⟨hO, ka5, hJ, kk5, kf5, hbs⟩ := hops; have hO := Lib.hid hO; have HJ := Lib.hid hJ; have HXX := Lib.hid fun (o : Obj) (w6 : World) (v' : Value) (hg : (w4.alloc o).grownBy w6 (Value.slice A5 (N0 5) n5).ownBlock) ho hn => HB3n.out.kid' (w3 := w6) (v' := v') (o := o) (T := Own1 pb) hk34 (by intro k (e : k = pb); omega) hc4 rfl (by rw [HV5.out]; exact hg) ho (by rw [HV5.out]; exact hn); have HP4 := Lib.hid hp4; have HK4 := Lib.hid (HK3n.out.trans hk34); have HTC := Lib.hid (HB3n.out.1.touch 5 (by decide) (by decide)); clear hJ hb4 hk34 hk4 hp4)
            | fail)) | fail
          all_goals
            have HK6 := Lib.hid (HK4.out.on HY.out.2 (fun k e => .inr (HTC.out k e)))
            have HP6 := Lib.hid (HP4.out.keep HY.out.2 (fun e => by have := HTC.out _ e; omega) (fun e => by have := HTC.out _ e; omega) (fun e => by have := HTC.out _ e; omega))
            go_wp2
            go_meet
            case rel => exact ⟨cx, jx, _, _, _, _, HRR.out, hj4, HP6.out, HY.out.1, HK6.out⟩
      case rest =>
        obtain ⟨c2, j2, V2, N2, X2, col2, hr1, hj2, hp4, hb4, hk4⟩ := hcut.out
        have hx0 := HR2'.out
        rw [hr1] at hx0
        have hx1 : ((mustW T j2 bDone).bind fun _ j => .ok (.mk 7 no [] [] [] [c, c2] [] []) j) = R := hx0
        have HR4 := Lib.hid hx1
        have HP4 := Lib.hid hp4
        have HB4 := Lib.hid hb4
        have HK4 := Lib.hid hk4
        clear hcut hr1 hp4 hb4 hk4 hx0 hx1 HP3n HK3n HB3n
        have HWD := Lib.hid (word_any bDone HP4.out)
        obtain ⟨qb, hqb⟩ : ∃ q, isW T j2 bDone = q := ⟨_, rfl⟩
        rw [hqb] at HWD
        have hrr := HR4.out
        unfold mustW at hrr
        rw [hqb] at hrr
        unfold bDone at HWD
        clear hqb
        cases qb with
        | false =>
          have e : R = .err 31 := hrr.symm
          subst e
          clear hrr
          go_wp2_with fail
          refine HWD.out.mono ?_
          rintro e w8 ⟨rfl, hp8, hk8⟩
          have HMU := Lib.hid (must_any false hp8)
          have HK8 := Lib.hid (HK4.out.trans hk8)
          clear hp8 hk8
          go_wp2_with fail
          refine HMU.out.mono ?_
          rintro e w9 ⟨hw9, rfl⟩
          obtain rfl := hw9.symm
          go_wp2
          exact ⟨rfl, HK8.out, _, rfl⟩
        | true =>
          have HR4' := Lib.hid hrr
          clear hrr
          go_wp2_with fail
          refine HWD.out.mono ?_
          rintro e w10 ⟨rfl, hp8, hk8⟩
          have HP4n := Lib.hid (show PAt w10 pb T (j2 + 1) d g cap from hp8)
          have HMU := Lib.hid (must_any true hp8)
          have HK4n := Lib.hid (HK4.out.trans hk8)
          have HB4n := Lib.hid (HB4.out.keep hk8 (by intro k (e : k = pb); omega))
          clear hp8 hk8
          go_wp2_with fail
          refine HMU.out.mono ?_
          rintro e w9 ⟨hw9, rfl⟩
          obtain rfl := hw9.symm
          have e : R = .ok (.mk 7 no [] [] [] [c, c2] [] []) (j2 + 1) := HR4'.out.symm
          subst e
          obtain ⟨A2, m2, A3, m3, A4, m4, A5, m5, A6, m6, k0, k1, k2, k3, k4, k5, k6, ⟨z0, z1, z2, z3, z4, z5, z6, ⟨y0, g0⟩, ⟨y1, g1⟩, ⟨y2, g2⟩, ⟨y3, g3⟩, ⟨y4, g4⟩, ⟨y5, g5⟩, ⟨y6, g6⟩⟩, hfin⟩ := BT.fin' HB4n.out
          have HRT := Lib.hid hfin
          clear hfin
          go_wp2
          obtain ⟨W6, hW6, hl6, hc6, hk6⟩ := HRT.out
          rw [hW6]
          exact bodyPost_ret (results_cell (t := 4) (by kernel_rfl) rfl hl6) rfl ⟨HK4n.out.on hk6 (fun k e => .inr (Nat.le_of_eq e.symm)), _, rfl, hc6, HP4n.out.keep hk6 (by show ¬ pb = _; omega) (by show ¬ g = _; omega) (by show ¬ 1 = _; omega), by omega⟩
end
end Go.Proofs.YtioddclglemlmaaGreatDoor

/- while and until; conditions: a parser that stands among tokens, the last one the end; what a list tells. -/
namespace Go.Proofs.YtioddclglemlmaaGreatDoor
open Go.RowKit

section
variable {pb d g cap : Nat} {T : List (Int × ByteArray)} {C : Nat → PR CmdT}
set_option maxRecDepth 100000 in
set_option maxHeartbeats 2000000 in
theorem while_any (i0 : Nat) (HLI : FnOK 91 pb T g cap d i0 (lisP T C)) : FnOK 87 pb T g cap d i0 (looP T C false) := by
  intro i w hi h
  have hbl := h.blt
  have hb1 := h.p1
  have HLO := Lib.hid (loop_any false i0 HLI i _ hi (h.alloc (.cells #[.int .i64 0, .bool false, .slice none 0 0, .slice none 0 0, .slice none 0 0, .slice none 0 0, .slice none 0 0] 28)))
  obtain ⟨r, hr⟩ : ∃ r, looP T C false i = r := ⟨_, rfl⟩
  rw [hr] at HLO ⊢
  clear h hr
  cases r with
  | err n =>
    go_enter Tryz.func87, Tryz.ntmps87
    go_wp2_with fail
    refine HLO.out.mono ?_
    rintro e w4 ⟨hk4, k2, rfl⟩
    have HK4 := Lib.hid (((Kept.refl _ w).alloc _).trans hk4)
    clear hk4
    go_wp2
    exact ⟨rfl, HK4.out, _, rfl⟩
  | ok c j1 =>
    go_enter Tryz.func87, Tryz.ntmps87
    go_wp2_with fail
    refine HLO.out.mono ?_
    rintro e w2 ⟨hk2, u, rfl, ⟨cs, rfl, hc2⟩, hp2, hj1⟩
    obtain ⟨kc0, nc0, B2, q2, p2, B3, q3, p3, B4, q4, p4, B5, q5, p5, B6, q6, p6, rfl⟩ := hc2.lit
    have HK2 := Lib.hid (((Kept.refl (Own1 pb) w).alloc _).trans hk2)
    have hz4 : w2.heap[w.heap.size]? = some (.cells #[.int .i64 0, .bool false, .slice none 0 0, .slice none 0 0, .slice none 0 0, .slice none 0 0, .slice none 0 0] 28 (0, 0)) := (hk2.block _ (by simp) (by show ¬ _ = pb; omega)).trans (heap_alloc_last w _)
    rw [World.size_alloc] at hc2
    have HRT := Lib.hid (put_fin (base := w.heap.size) ⟨_, _, _, _, _, _, _, hz4⟩ hc2 (fun k e => ⟨by omega, e.2, by omega⟩))
    have HP2 := Lib.hid hp2
    obtain ⟨y0, g0⟩ := rowc hz4 (j := 0) (v := .int .i64 0) rfl
    obtain ⟨y1, g1⟩ := rowc hz4 (j := 1) (v := .bool false) rfl
    obtain ⟨y2, g2⟩ := rowc hz4 (j := 2) (v := .slice none 0 0) rfl
    obtain ⟨y3, g3⟩ := rowc hz4 (j := 3) (v := .slice none 0 0) rfl
    obtain ⟨y4, g4⟩ := rowc hz4 (j := 4) (v := .slice none 0 0) rfl
    obtain ⟨y5, g5⟩ := rowc hz4 (j := 5) (v := .slice none 0 0) rfl
    obtain ⟨y6, g6⟩ := rowc hz4 (j := 6) (v := .slice none 0 0) rfl
    clear hk2 hp2 hz4 hc2
    go_wp2
    obtain ⟨W6, hW6, hl6, hc6, hk6⟩ := HRT.out
    rw [hW6]
    exact bodyPost_ret (results_cell (t := 2) (by kernel_rfl) rfl hl6) rfl ⟨HK2.out.on hk6 (fun k e => .inr (Nat.le_of_eq e.symm)), _, rfl, hc6, HP2.out.keep hk6 (by show ¬ pb = _; omega) (by show ¬ g = _; omega) (by show ¬ 1 = _; omega), hj1⟩
set_option maxRecDepth 100000 in
set_option maxHeartbeats 2000000 in
theorem until_any (i0 : Nat) (HLI : FnOK 91 pb T g cap d i0 (lisP T C)) : FnOK 88 pb T g cap d i0 (looP T C true) := by
  intro i w hi h
  have hbl := h.blt
  have hb1 := h.p1
  have HLO := Lib.hid (loop_any true i0 HLI i _ hi (h.alloc (.cells #[.int .i64 0, .bool false, .slice none 0 0, .slice none 0 0, .slice none 0 0, .slice none 0 0, .slice none 0 0] 28)))
  obtain ⟨r, hr⟩ : ∃ r, looP T C true i = r := ⟨_, rfl⟩
  rw [hr] at HLO ⊢
  clear h hr
  cases r with
  | err n =>
    go_enter Tryz.func88, Tryz.ntmps88
    go_wp2_with fail
    refine HLO.out.mono ?_
    rintro e w4 ⟨hk4, k2, rfl⟩
    have HK4 := Lib.hid (((Kept.refl _ w).alloc _).trans hk4)
    clear hk4
    go_wp2
    exact ⟨rfl, HK4.out, _, rfl⟩
  | ok c j1 =>
    go_enter Tryz.func88, Tryz.ntmps88
    go_wp2_with fail
    refine HLO.out.mono ?_
    rintro e w2 ⟨hk2, u, rfl, ⟨cs, rfl, hc2⟩, hp2, hj1⟩
    obtain ⟨kc0, nc0, B2, q2, p2, B3, q3, p3, B4, q4, p4, B5, q5, p5, B6, q6, p6, rfl⟩ := hc2.lit
    have HK2 := Lib.hid (((Kept.refl (Own1 pb) w).alloc _).trans hk2)
    have hz4 : w2.heap[w.heap.size]? = some (.cells #[.int .i64 0, .bool false, .slice none 0 0, .slice none 0 0, .slice none 0 0, .slice none 0 0, .slice none 0 0] 28 (0, 0)) := (hk2.block _ (by simp) (by show ¬ _ = pb; omega)).trans (heap_alloc_last w _)
    rw [World.size_alloc] at hc2
    have HRT := Lib.hid (put_fin (base := w.heap.size) ⟨_, _, _, _, _, _, _, hz4⟩ hc2 (fun k e => ⟨by omega, e.2, by omega⟩))
    have HP2 := Lib.hid hp2
    obtain ⟨y0, g0⟩ := rowc hz4 (j := 0) (v := .int .i64 0) rfl
    obtain ⟨y1, g1⟩ := rowc hz4 (j := 1) (v := .bool false) rfl
    obtain ⟨y2, g2⟩ := rowc hz4 (j := 2) (v := .slice none 0 0) rfl
    obtain ⟨y3, g3⟩ := rowc hz4 (j := 3) (v := .slice none 0 0) rfl
    obtain ⟨y4, g4⟩ := rowc hz4 (j := 4) (v := .slice none 0 0) rfl
    obtain ⟨y5, g5⟩ := rowc hz4 (j := 5) (v := .slice none 0 0) rfl
    obtain ⟨y6, g6⟩ := rowc hz4 (j := 6) (v := .slice none 0 0) rfl
    clear hk2 hp2 hz4 hc2
    go_wp2
    obtain ⟨W6, hW6, hl6, hc6, hk6⟩ := HRT.out
    rw [hW6]
    exact bodyPost_ret (results_cell (t := 2) (by kernel_rfl) rfl hl6) rfl ⟨HK2.out.on hk6 (fun k e => .inr (Nat.le_of_eq e.symm)), _, rfl, hc6, HP2.out.keep hk6 (by show ¬ pb = _; omega) (by show ¬ g = _; omega) (by show ¬ 1 = _; omega), hj1⟩
end
end Go.Proofs.YtioddclglemlmaaGreatDoor
