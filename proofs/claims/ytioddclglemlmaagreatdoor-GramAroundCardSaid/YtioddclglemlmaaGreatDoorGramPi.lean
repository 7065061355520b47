/- A pipe; conditions: a parser that stands among tokens, the last one the end; what a command tells. -/
import Derived.Test.YtioddclglemlmaaGreatDoorGramKi
import Derived.RegionDies
namespace Go.Proofs.YtioddclglemlmaaGreatDoor
open Go.RowKit

/-- how the loop of a pipe ends -/
def pipE (n : Bool) (ks : List CmdT) (j : Nat) : PR CmdT := match ks, n with
  | [k], false => .ok k j
  | ks, n => .ok (.mk 2 n [] [] [] ks [] []) j
section
variable {pb d g cap : Nat} {T : List (Int × ByteArray)} {C : Nat → PR CmdT}
set_option maxRecDepth 100000 in
set_option maxHeartbeats 4000000 in
theorem pipe_any (i0 : Nat) (HC : FnOK 75 pb T g cap d i0 C) : FnOK 62 pb T g cap d i0 (pipP T C) := by
  intro i w hi h
  obtain ⟨R, hR⟩ : ∃ R, pipP T C i = R := ⟨_, rfl⟩
  rw [hR]
  unfold pipP at hR
  have HC := Lib.hid HC
  have HP := Lib.hid h
  have hbl := h.blt
  have hb1 := h.p1
  obtain ⟨i28, hi28, hz0, hz1, hz2⟩ := info_parts Tryz.info28
  have HW := Lib.hid (word_any bNot (h.alloc (.cells #[.int .i64 0, .bool false, .slice none 0 0, .slice none 0 0, .slice none 0 0, .slice none 0 0, .slice none 0 0] 28)))
  obtain ⟨b, hb⟩ : ∃ b, isW T i bNot = b := ⟨_, rfl⟩
  rw [hb] at HW hR
  have hR2 : ((C (bump b i)).bind fun c j => (pipF T C (T.length + 1) j [c]).bind fun ks j => pipE b ks j) = R := hR
  clear hR
  have hR := hR2
  clear hR2
  obtain ⟨j0, hj0⟩ : ∃ j0, bump b i = j0 := ⟨_, rfl⟩
  have hij : i ≤ j0 := by rw [← hj0]; unfold bump; split <;> omega
  rw [hj0] at HW hR
  have HR := Lib.hid hR
  clear h hR hb hj0
  unfold bNot at HW
  go_enter Tryz.func62, Tryz.ntmps62
  go_wp2_with fail
  refine HW.out.mono ?_
  rintro e w2 ⟨rfl, hp2, hk2⟩
  have hk02 : Kept (Own1 pb) w w2 := ((Kept.refl _ w).alloc _).trans hk2
  have hz2' : w2.heap[w.heap.size]? = some (.cells #[.int .i64 0, .bool false, .slice none 0 0, .slice none 0 0, .slice none 0 0, .slice none 0 0, .slice none 0 0] 28 (0, 0)) := (hk2.block _ (by simp) (by show ¬ _ = pb; omega)).trans (heap_alloc_last w _)
  go_upto_region 2 with fail
  obtain ⟨w3, hw3⟩ : ∃ w3, w2.alloc (.cells #[.int .i64 2, .bool b, .slice none 0 0, .slice none 0 0, .slice none 0 0, .slice none 0 0, .slice none 0 0] 28) = w3 := ⟨_, rfl⟩
  rw [hw3]
  obtain ⟨cb, hcb⟩ : ∃ cb, w2.heap.size = cb := ⟨_, rfl⟩
  rw [hcb]
  have hp3 : PAt w3 pb T j0 d g cap := by rw [← hw3]; exact hp2.alloc _
  have hk3 : Kept (Own1 pb) w w3 := by rw [← hw3]; exact hk02.alloc _
  have hsz2 := hk2.size
  have hszw : w.heap.size < cb := by rw [← hcb]; have : (w.alloc (.cells #[.int .i64 0, .bool false, .slice none 0 0, .slice none 0 0, .slice none 0 0, .slice none 0 0, .slice none 0 0] 28)).heap.size = w.heap.size + 1 := by simp
                                     omega
  have hb3 := BT.new (W0 := w3) (rb := w.heap.size) (cb := cb) (base := w.heap.size) 2 b
    (by rw [← hw3, ← hcb]; exact heap_alloc_last w2 _)
    ⟨_, _, _, _, _, _, _, by rw [← hw3, Below.heap_alloc _ _ _ (by omega)]; exact hz2'⟩ (Nat.le_refl _) (Nat.le_of_lt hszw) (by omega) (fun _ => false)
  obtain ⟨V0, N0, X0, col0, hb3⟩ : ∃ V N X col, BT w3 w.heap.size cb w.heap.size 2 b (fun _ => false) [] [] [] [] [] [] V N X col := ⟨_, _, _, _, hb3⟩
  have HP3 := Lib.hid hp3
  have HK3 := Lib.hid hk3
  have HB3 := Lib.hid hb3
  clear hw3 hcb hp2 hk2 hk02 hz2' hp3 hk3
  go_cut [] from 14 (fun wi => Hid (∃ (c1 : CmdT) (j1 : Nat) (V : Nat → Value) (N : Nat → Nat) (X : Nat → List Value) (col : Nat → Nat), C j0 = .ok c1 j1 ∧ j0 ≤ j1 ∧ PAt wi pb T j1 d g cap ∧ BT wi w.heap.size cb w.heap.size 2 b (fun _ => false) [] [] [] [c1] [] [] V N X col ∧ Kept (Own1 pb) w wi))
  case first =>
    obtain ⟨r, hr⟩ : ∃ r, C j0 = r := ⟨_, rfl⟩
    have HRR := Lib.hid hr
    have HCW := Lib.hid (HC.out j0 w3.drew (Nat.le_trans hi hij) (HP3.out.drewN 1))
    rw [hr] at HCW
    clear hr
    obtain ⟨A5, n5, hV5, _, _⟩ := (HB3.out.1.own 5 (by decide) (by decide)).form
    have k5 := HB3.out.1.cells.2.2.2.2.2.1
    have hN5 : N0 5 ≤ 10001 := by rw [HB3.out.2.n5]; exact Nat.zero_le _
    rw [hV5] at k5
    have HV5 := Lib.hid hV5
    clear hV5
    cases r with
    | err n =>
      go_upto_region 2 with fail
      go_region_dies
      all_goals
        go_at_call 75
        refine HCW.out.mono ?_
        rintro e w4 ⟨hk4, k2, rfl⟩
        have e : R = .err n := (by have := HR.out; rw [HRR.out] at this; exact this.symm); subst e; exact ⟨rfl, HK3.out.drew.trans hk4, _, rfl⟩
    | ok c1 j1 =>
      go_upto_region 2 with fail
      first | (go_region_law (first
        | (refine step_append_G rfl _ _ 24 rfl w.heap.size 28 i28 (.agg #[.int .i64 0, .bool false, .slice none 0 0, .slice none 0 0, .slice none 0 0, .slice none 0 0, .slice none 0 0]) 7 136 Tryz.underlying24 hi28 hz0 hz1 hz2 rfl (.slice A5 (N0 5) n5) (N0 5) (X0 5) rfl (hO.out _) ⟨w4.heap.size, 0, none⟩ 1 1 [.int .i64 kc0, .bool nc0, .slice B2 q2 p2, .slice B3 q3 p3, .slice B4 q4 p4, .slice B5 q5 p5, .slice B6 q6 p6] rfl rfl (World.news_of_block (heap_alloc_last w4 _)) (by simp [Value.oneCell']) (by decide) (by unfold maxLen; omega) (by omega) (by simp; omega) ?_; intro g6 cap6 w6 hown6 hgrow6 hnew6 _; obtain ⟨j1', j2'⟩ := HJ.out _ _ hgrow6; have HY := Lib.hid (HXX.out _ _ _ hgrow6 hown6 (fun k hk => by have e6 : g6 = k := (by simpa [Value.ownBlock] using hk); rw [← e6]; exact hnew6)); clear hown6 hgrow6 hnew6)
        | (go_simp; go_at_call 75; refine HCW.out.mono ?_; rintro e w4 ⟨hk4, u, rfl, ⟨cs, rfl, hc4⟩, hp4, hj4⟩; obtain ⟨kc0, nc0, B2, q2, p2, B3, q3, p3, B4, q4, p4, B5, q5, p5, B6, q6, p6, rfl⟩ := hc4.lit; have hk34 : Kept (Own1 pb) w3 w4 := ((Kept.refl _ _).drewN 1).trans hk4; have hb4 := HB3.out.keep hk34 (by intro k (e : k = pb); omega); have hops := hb4.1.ops 5 (by decide) (by decide) rfl; rw [HV5.out] at hops; obtain ⟨hO, ka5, hJ, kk5, kf5, hbs⟩ := hops; have hO := Lib.hid hO; have HJ := Lib.hid hJ; have HXX := Lib.hid fun (o : Obj) (w6 : World) (v' : Value) (hg : (w4.alloc o).grownBy w6 (Value.slice A5 (N0 5) n5).ownBlock) ho hn => HB3.out.kid' (w3 := w6) (v' := v') (o := o) (T := Own1 pb) hk34 (by intro k (e : k = pb); omega) hc4 rfl (by rw [HV5.out]; exact hg) ho (by rw [HV5.out]; exact hn); have HP4 := Lib.hid hp4; have HK4 := Lib.hid (HK3.out.trans hk34); have HTC := Lib.hid (HB3.out.1.touch 5 (by decide) (by decide)); clear hJ hb4 hk34 hk4 hp4)
        | fail)) | fail
      all_goals
        have HK6 := Lib.hid (HK4.out.on HY.out.2 (fun k e => .inr (HTC.out k e)))
        have HP6 := Lib.hid (HP4.out.keep HY.out.2 (fun e => by have := HTC.out _ e; omega) (fun e => by have := HTC.out _ e; omega) (fun e => by have := HTC.out _ e; omega))
        go_wp2
        go_meet
        case rel => exact ⟨c1, j1, _, _, _, _, HRR.out, hj4, HP6.out, HY.out.1, HK6.out⟩
  case rest =>
    obtain ⟨c1, j1, V1, N1, X1, col1, hr1, hj1, hp4, hb4, hk4⟩ := hcut.out
    have HR2 : Hid (((pipF T C (T.length + 1) j1 [c1]).bind fun ks j => pipE b ks j) = R) := by
      have := HR.out
      rw [hr1] at this
      exact this
    have HP4 := Lib.hid hp4
    have HB4 := Lib.hid hb4
    have HK4 := Lib.hid hk4
    clear hcut hr1 hp4 hb4 hk4 HB3 HK3 HP3 HW hb3 hsz2
    go_wp2
    go_loopw [] (fun wi => ∃ (j f : Nat) (ks : List CmdT) (V : Nat → Value) (N : Nat → Nat) (X : Nat → List Value) (col : Nat → Nat), PAt wi pb T j d g cap ∧ BT wi w.heap.size cb w.heap.size 2 b (fun _ => false) [] [] [] ks [] [] V N X col ∧ Kept (Own1 pb) w wi ∧ j0 ≤ j ∧ T.length < f + j ∧ 1 ≤ ks.length ∧ ks.length ≤ j + 1 ∧ Hid (((pipF T C f j ks).bind fun ks j => pipE b ks j) = R)) (fun wi => T.length - iOf wi pb)
    case atStart => exact ⟨j1, T.length + 1, [c1], _, _, _, _, HP4.out, HB4.out, HK4.out, hj1, by omega, Nat.le_refl _, by simp, HR2⟩
    case round =>
      obtain ⟨j, f, ks, V, N, X, col, hp, hb, hk, hij2, hf, hk1, hlen, hr⟩ := hrel
      have hlt := hp.lt
      have hsm := hp.small
      obtain ⟨f, rfl⟩ : ∃ g, f = g + 1 := ⟨f - 1, by omega⟩
      have hst := hr.out
      rw [pipF] at hst
      have HM := Lib.hid (iOf_p hp)
      have HB5 := Lib.hid hb
      have HK5 := Lib.hid hk
      have HO := Lib.hid (op_any bPipe hp)
      obtain ⟨q, hq⟩ : ∃ q, isO T j bPipe = q := ⟨_, rfl⟩
      rw [hq] at HO hst
      unfold bPipe at HO
      clear hr hp hb hk hq
      cases q with
      | true =>
        rw [if_pos rfl] at hst
        have HST := Lib.hid hst
        clear hst
        go_wp2_with fail
        refine HO.out.mono ?_
        rintro e w6 ⟨rfl, hp6, hk6⟩
        have HL := Lib.hid (lines_any hp6)
        have HB6 := Lib.hid (HB5.out.keep hk6 (by intro k (e : k = pb); omega))
        have HK6 := Lib.hid (HK5.out.trans hk6)
        clear hp6 hk6
        go_wp2_with fail
        refine HL.out.mono ?_
        rintro e w7 ⟨rfl, hp7, hk7, hl7⟩
        obtain ⟨j2, hj2⟩ : ∃ j2, lineP T (bump true j) = j2 := ⟨_, rfl⟩
        rw [hj2] at hp7 hl7
        have hl7 : j + 1 ≤ j2 := hl7
        have HST2 : Hid (((C j2).bind fun c j => pipF T C f j (ks ++ [c])).bind (fun ks j => pipE b ks j) = R) := by
          have := HST.out
          rw [show lineP T (j + 1) = j2 from hj2] at this
          exact this
        have HP7 := Lib.hid hp7
        have HB7 := Lib.hid (HB6.out.keep hk7 (by intro k (e : k = pb); omega))
        have HK7 := Lib.hid (HK6.out.trans hk7)
        clear hp7 hk7 hj2 HL HB6 HK6 HST
        obtain ⟨r, hr⟩ : ∃ r, C j2 = r := ⟨_, rfl⟩
        have HRR := Lib.hid hr
        have HCW := Lib.hid (HC.out j2 w7.drew (by omega) (HP7.out.drewN 1))
        rw [hr] at HCW
        clear hr
        obtain ⟨A5, n5, hV5, _, _⟩ := (HB7.out.1.own 5 (by decide) (by decide)).form
        have k5 := HB7.out.1.cells.2.2.2.2.2.1
        have hN5 : N 5 ≤ 10001 := by rw [HB7.out.2.n5]; omega
        rw [hV5] at k5
        have HV5 := Lib.hid hV5
        clear hV5
        cases r with
        | err n =>
          go_upto_region 5 with fail
          go_region_dies
          all_goals
            go_at_call 75
            refine HCW.out.mono ?_
            rintro e w4 ⟨hk4, k2, rfl⟩
            have e : R = .err n := (by have := HST2.out; rw [HRR.out] at this; exact this.symm); subst e; first | exact ⟨rfl, HK7.out.drew.trans hk4, _, rfl⟩ | (show bodyPost _ _ _ (Exit.panic _) _ _; exact ⟨rfl, HK7.out.drew.trans hk4, _, rfl⟩) | (go_wp2; exact ⟨rfl, HK7.out.drew.trans hk4, _, rfl⟩)
        | ok c1 j1 =>
          go_upto_region 5 with fail
          first | (go_region_law (first
            | (refine step_append_G rfl _ _ 24 rfl w.heap.size 28 i28 (.agg #[.int .i64 0, .bool false, .slice none 0 0, .slice none 0 0, .slice none 0 0, .slice none 0 0, .slice none 0 0]) 7 136 Tryz.underlying24 hi28 hz0 hz1 hz2 rfl (.slice A5 (N 5) n5) (N 5) (X 5) rfl (hO.out _) ⟨w4.heap.size, 0, none⟩ 1 1 [.int .i64 kc0, .bool nc0, .slice B2 q2 p2, .slice B3 q3 p3, .slice B4 q4 p4, .slice B5 q5 p5, .slice B6 q6 p6] rfl rfl (World.news_of_block (heap_alloc_last w4 _)) (by simp [Value.oneCell']) (by decide) (by unfold maxLen; omega) (by omega) (by simp; omega) ?_; intro g6 cap6 w6 hown6 hgrow6 hnew6 _; obtain ⟨j1', j2'⟩ := HJ.out _ _ hgrow6; have HY := Lib.hid (HXX.out _ _ _ hgrow6 hown6 (fun k hk => by have e6 : g6 = k := (by simpa [Value.ownBlock] using hk); rw [← e6]; exact hnew6)); clear hown6 hgrow6 hnew6)
            | (go_simp; go_at_call 75; refine HCW.out.mono ?_; rintro e w4 ⟨hk4, u, rfl, ⟨cs, rfl, hc4⟩, hp4, hj4⟩; obtain ⟨kc0, nc0, B2, q2, p2, B3, q3, p3, B4, q4, p4, B5, q5, p5, B6, q6, p6, rfl⟩ := hc4.lit; have hk34 : Kept (Own1 pb) w7 w4 := ((Kept.refl _ _).drewN 1).trans hk4; have hb4 := HB7.out.keep hk34 (by intro k (e : k = pb); omega); have hops := hb4.1.ops 5 (by decide) (by decide) rfl; rw [HV5.out] at hops; obtain ⟨hO, ka5, hJ, kk5, kf5, hbs⟩ := hops; have hO := Lib.hid hO; have HJ := Lib.hid hJ; have HXX := Lib.hid fun (o : Obj) (w6 : World) (v' : Value) (hg : (w4.alloc o).grownBy w6 (Value.slice A5 (N 5) n5).ownBlock) ho hn => HB7.out.kid' (w3 := w6) (v' := v') (o := o) (T := Own1 pb) hk34 (by intro k (e : k = pb); omega) hc4 rfl (by rw [HV5.out]; exact hg) ho (by rw [HV5.out]; exact hn); have HP4 := Lib.hid hp4; have HK4 := Lib.hid (HK7.out.trans hk34); have HTC := Lib.hid (HB7.out.1.touch 5 (by decide) (by decide)); clear hJ hb4 hk34 hk4 hp4)
            | fail)) | fail
          all_goals
            have HK6 := Lib.hid (HK4.out.on HY.out.2 (fun k e => .inr (HTC.out k e)))
            have HP6 := Lib.hid (HP4.out.keep HY.out.2 (fun e => by have := HTC.out _ e; omega) (fun e => by have := HTC.out _ e; omega) (fun e => by have := HTC.out _ e; omega))
            have HM6 := Lib.hid (iOf_p HP6.out)
            have HS2 : Hid (((pipF T C f j1 (ks ++ [c1])).bind fun ks j => pipE b ks j) = R) := by
              have := HST2.out
              rw [HRR.out] at this
              exact this
            have hlt1 := HP6.out.lt
            go_wp2
            exact ⟨⟨j1, f, _, _, _, _, _, HP6.out, HY.out.1, HK6.out, by omega, by omega, by simp, by simp; omega, HS2⟩, by rw [HM.out, HM6.out]; omega⟩
      | false =>
        rw [if_neg (by decide)] at hst
        have HS : Hid (pipE b ks j = R) := hst
        clear hst
        go_wp2_with fail
        refine HO.out.mono ?_
        rintro e w6 ⟨rfl, hp6, hk6⟩
        have hb6 := HB5.out.keep hk6 (by intro k (e : k = pb); omega)
        have HB6 := Lib.hid hb6
        have HK6 := Lib.hid (HK5.out.trans hk6)
        have HP6 := Lib.hid (show PAt w6 pb T j d g cap from hp6)
        have hij3 : i ≤ j := by omega
        clear hp6 hk6
        obtain ⟨A5, n5, hV5, _, _⟩ := (hb6.1.own 5 (by decide) (by decide)).form
        have k5 := hb6.1.cells.2.2.2.2.2.1
        have k1 := hb6.1.cells.2.1
        have hn5 := hb6.2.n5
        by_cases hone : ks.length = 1
        · obtain ⟨c0, rfl⟩ : ∃ c0, ks = [c0] := by
            match ks, hone with
            | [c0], _ => exact ⟨c0, rfl⟩
          have hn5 : N 5 = 1 := hn5
          rw [hV5, hn5] at k5
          cases b with
          | false =>
            have e : R = .ok c0 j := HS.out.symm
            subst e
            have hown := hb6.1.own 5 (by decide) (by decide)
            rw [hn5] at hown
            obtain ⟨gk, cpk, kd, nk, A2, l2, m2, A3, l3, m3, A4, l4, m4, A5', l5, m5, A6, l6, m6, hv, hcap, hfn⟩ := kid_fin (base := w.heap.size) hb6.1.rrow hown hb6.2.x5 (fun k e => ⟨(hb6.1.zero k e).1, (hb6.1.zero k e).2, fun e2 => by rw [e2, hb6.1.c8] at e; cases e⟩)
            rw [hV5, hn5] at hv
            cases hv
            obtain ⟨k0, k1', k2, k3, k4, k5', k6, ⟨z0, z1, z2, z3, z4, z5, z6, ⟨y0, g0⟩, ⟨y1, g1⟩, ⟨y2, g2⟩, ⟨y3, g3⟩, ⟨y4, g4⟩, ⟨y5, g5⟩, ⟨y6, g6⟩⟩, hfin⟩ := hfn
            have HRT := Lib.hid hfin
            clear hfin hb6 hown hV5 hn5
            go_wp2
            obtain ⟨W6, hW6, hl6, hc6, hk6⟩ := HRT.out
            rw [hW6]
            exact bodyPost_ret (results_cell (t := 2) (by kernel_rfl) rfl hl6) rfl ⟨HK6.out.on hk6 (fun k e => .inr (Nat.le_of_eq e.symm)), _, rfl, hc6, HP6.out.keep hk6 (by show ¬ pb = _; omega) (by show ¬ g = _; omega) (by show ¬ 1 = _; omega), hij3⟩
          | true =>
            have e : R = .ok (.mk 2 true [] [] [] [c0] [] []) j := HS.out.symm
            subst e
            clear k5 k1 hb6 hV5
            obtain ⟨A2, m2, A3, m3, A4, m4, A5, m5, A6, m6, k0, k1, k2, k3, k4, k5, k6, ⟨z0, z1, z2, z3, z4, z5, z6, ⟨y0, g0⟩, ⟨y1, g1⟩, ⟨y2, g2⟩, ⟨y3, g3⟩, ⟨y4, g4⟩, ⟨y5, g5⟩, ⟨y6, g6⟩⟩, hfin⟩ := BT.fin' HB6.out
            rw [hn5] at k5 hfin
            have HRT := Lib.hid hfin
            clear hfin
            clear hn5
            go_wp2
            obtain ⟨W6, hW6, hl6, hc6, hk6⟩ := HRT.out
            rw [hW6]
            exact bodyPost_ret (results_cell (t := 2) (by kernel_rfl) rfl hl6) rfl ⟨HK6.out.on hk6 (fun k e => .inr (Nat.le_of_eq e.symm)), _, rfl, hc6, HP6.out.keep hk6 (by show ¬ pb = _; omega) (by show ¬ g = _; omega) (by show ¬ 1 = _; omega), hij3⟩
        · have e : R = .ok (.mk 2 b [] [] [] ks [] []) j := by
            rw [← HS.out]
            unfold pipE
            split
            · exact absurd rfl hone
            · rfl
          subst e
          clear k5 k1 hb6 hV5
          obtain ⟨nk, hnk⟩ : ∃ nk, ks.length = nk := ⟨_, rfl⟩
          rw [hnk] at hn5 hone
          have hone' : ((nk : Int) == 1) = false := beq_eq_false_iff_ne.2 (by omega)
          obtain ⟨A2, m2, A3, m3, A4, m4, A5, m5, A6, m6, k0, k1, k2, k3, k4, k5, k6, ⟨z0, z1, z2, z3, z4, z5, z6, ⟨y0, g0⟩, ⟨y1, g1⟩, ⟨y2, g2⟩, ⟨y3, g3⟩, ⟨y4, g4⟩, ⟨y5, g5⟩, ⟨y6, g6⟩⟩, hfin⟩ := BT.fin' HB6.out
          rw [hn5] at k5 hfin
          have HRT := Lib.hid hfin
          clear hfin
          clear hn5
          go_wp2
          obtain ⟨W6, hW6, hl6, hc6, hk6⟩ := HRT.out
          rw [hW6]
          exact bodyPost_ret (results_cell (t := 2) (by kernel_rfl) rfl hl6) rfl ⟨HK6.out.on hk6 (fun k e => .inr (Nat.le_of_eq e.symm)), _, rfl, hc6, HP6.out.keep hk6 (by show ¬ pb = _; omega) (by show ¬ g = _; omega) (by show ¬ 1 = _; omega), hij3⟩
end
end Go.Proofs.YtioddclglemlmaaGreatDoor
