/- case; conditions: a parser that stands among tokens, the last one the end; what a list tells. -/
import Derived.Test.YtioddclglemlmaaGreatDoorGramAA
namespace Go.Proofs.YtioddclglemlmaaGreatDoor
open Go.RowKit


section
variable {pb d g cap : Nat} {T : List (Int × ByteArray)} {C : Nat → PR CmdT}
set_option maxRecDepth 100000 in
set_option maxHeartbeats 8000000 in
theorem choice_any (i0 : Nat) (HLI : FnOK 91 pb T g cap d i0 (lisP T C)) : FnOK 90 pb T g cap d i0 (choP T C) := by
  intro i w hi h
  obtain ⟨R, hR⟩ : ∃ R, choP T C i = R := ⟨_, rfl⟩
  rw [hR]
  unfold choP at hR
  have HLI := Lib.hid HLI
  have hbl := h.blt
  have hb1 := h.p1
  have HTX := Lib.hid (text_any (h.alloc (.cells #[.int .i64 0, .bool false, .slice none 0 0, .slice none 0 0, .slice none 0 0, .slice none 0 0, .slice none 0 0] 28)))
  have htp : textP T i = .err 31 ∨ textP T i = .ok (tk T i).2 (i + 1) := by
    unfold textP; split
    · exact .inr rfl
    · exact .inl rfl
  obtain ⟨x, hx⟩ : ∃ x, (tk T i).2 = x := ⟨_, rfl⟩
  rw [hx] at htp
  rcases htp with htp | htp
  · rw [htp] at HTX hR
    have HR := Lib.hid hR
    clear h hR htp
    go_enter Tryz.func90, Tryz.ntmps90
    go_wp2_with fail
    refine HTX.out.mono ?_
    rintro e w4 ⟨hk4, k2, rfl⟩
    have e : R = .err 31 := HR.out.symm
    subst e
    have HK4 := Lib.hid (((Kept.refl _ w).alloc _).trans hk4)
    clear hk4
    go_wp2
    exact ⟨rfl, HK4.out, _, rfl⟩
  rw [htp] at HTX hR
  obtain ⟨j2, hj2⟩ : ∃ j, lineP T (i + 1) = j := ⟨_, rfl⟩
  have hR2 : ((mustW T (lineP T (i + 1)) bIn).bind fun _ j => (armF T C (T.length + 1) (lineP T j) [] []).bind fun a j =>
    (mustW T j bEsac).bind fun _ j => .ok (.mk 9 false [] [x] [] [] a.1 a.2) j) = R := hR
  rw [hj2] at hR2
  have HR2 := Lib.hid hR2
  have HLN := Lib.hid fun (w : World) (h : PAt w pb T (i + 1) d g cap) => lines_any h
  rw [hj2] at HLN
  clear h hR hR2 htp hx hj2
  go_enter Tryz.func90, Tryz.ntmps90
  go_wp2_with fail
  refine HTX.out.mono ?_
  rintro e w2 ⟨hk2, u, rfl, rfl, hp2, hj1⟩
  have hk02 : Kept (Own1 pb) w w2 := ((Kept.refl _ w).alloc _).trans hk2
  have hz2' : w2.heap[w.heap.size]? = some (.cells #[.int .i64 0, .bool false, .slice none 0 0, .slice none 0 0, .slice none 0 0, .slice none 0 0, .slice none 0 0] 28 (0, 0)) := (hk2.block _ (by simp) (by show ¬ _ = pb; omega)).trans (heap_alloc_last w _)
  have hsz2 := hk2.size
  rw [World.size_alloc] at hsz2
  have hbt := BT.neww (rb := w.heap.size) (base := w.heap.size) x ⟨_, _, _, _, _, _, _, hz2'⟩ (Nat.le_refl _) 9
  obtain ⟨w3, hw3⟩ : ∃ w3, (w2.alloc (.cells #[.string x] 9)).alloc (.cells #[.int .i64 9, .bool false, .slice none 0 0, .slice (some ⟨w2.heap.size, 0, none⟩) 1 1, .slice none 0 0, .slice none 0 0, .slice none 0 0] 28) = w3 := ⟨_, rfl⟩
  rw [hw3] at hbt
  obtain ⟨V0, N0, X0, col0, hbt⟩ := hbt
  have hp3 : PAt w3 pb T (i + 1) d g cap := by rw [← hw3]; exact (hp2.alloc _).alloc _
  have hk3 : Kept (Own1 pb) w w3 := by rw [← hw3]; exact (hk02.alloc _).alloc _
  have HLN := Lib.hid (HLN.out w3 hp3)
  have HK3 := Lib.hid hk3
  have HB3 := Lib.hid hbt
  have HW3 := Lib.hid hw3
  have hcb : w.heap.size < w2.heap.size + 1 := by omega
  clear hp2 hk2 hk02 hz2' hbt hw3 hp3 hk3
  go_upto_region 2 with fail
  rw [HW3.out]
  clear HW3
  go_wp2_with fail
  refine HLN.out.mono ?_
  rintro e w4 ⟨rfl, hp4, hk4, hl4⟩
  have HP5 := Lib.hid hp4
  have HK5 := Lib.hid (HK3.out.trans hk4)
  have HB5 := Lib.hid (HB3.out.keep hk4 (by intro k (e : k = pb); omega))
  have HR5 := HR2
  clear hp4 hk4 HK3 HB3 HLN
  have HWD := Lib.hid (word_any bIn HP5.out)
  obtain ⟨qb, hqb⟩ : ∃ q, isW T j2 bIn = q := ⟨_, rfl⟩
  rw [hqb] at HWD
  have hrr := HR5.out
  unfold mustW at hrr
  rw [hqb] at hrr
  unfold bIn at HWD
  clear hqb
  cases qb with
  | false =>
    have e : R = .err 31 := hrr.symm
    subst e
    clear hrr
    go_wp2_with fail
    refine HWD.out.mono ?_
    rintro e w8 ⟨rfl, hp8, hk8⟩
    have HMU := Lib.hid (must_any false hp8)
    have HK8 := Lib.hid (HK5.out.trans hk8)
    clear hp8 hk8
    go_wp2_with fail
    refine HMU.out.mono ?_
    rintro e w9 ⟨hw9, rfl⟩
    obtain rfl := hw9.symm
    go_wp2
    exact ⟨rfl, HK8.out, _, rfl⟩
  | true =>
    have HR5' := Lib.hid hrr
    clear hrr
    go_wp2_with fail
    refine HWD.out.mono ?_
    rintro e w9 ⟨rfl, hp8, hk8⟩
    have HP5n := Lib.hid (show PAt w9 pb T (j2 + 1) d g cap from hp8)
    have HMU := Lib.hid (must_any true hp8)
    have HK5n := Lib.hid (HK5.out.trans hk8)
    have HB5n := Lib.hid (HB5.out.keep hk8 (by intro k (e : k = pb); omega))
    clear hp8 hk8
    go_wp2_with fail
    refine HMU.out.mono ?_
    rintro e w9 ⟨hw9, rfl⟩
    obtain rfl := hw9.symm
    have HR5' : Hid (((armF T C (T.length + 1) (lineP T (j2 + 1)) [] []).bind fun a j => (mustW T j bEsac).bind fun _ j => .ok (.mk 9 false [] [x] [] [] a.1 a.2) j) = R) := HR5'
    have HL2 := Lib.hid (lines_any HP5n.out)
    obtain ⟨j3, hj3⟩ : ∃ j, lineP T (j2 + 1) = j := ⟨_, rfl⟩
    have hx0 := HR5'.out
    have hx : ((armF T C (T.length + 1) j3 [] []).bind fun a j => (mustW T j bEsac).bind fun _ j => .ok (.mk 9 false [] [x] [] [] a.1 a.2) j) = R := by rw [← hj3]; exact hx0
    rw [hj3] at HL2
    have HR6 := Lib.hid hx
    clear hx hx0 hj3 HR5'
    go_wp2_with fail
    refine HL2.out.mono ?_
    rintro e w10 ⟨rfl, hp10, hk10, hl10⟩
    have HP10 := Lib.hid hp10
    have HK10 := Lib.hid (HK5n.out.trans hk10)
    have HB10 := Lib.hid (HB5n.out.keep hk10 (by intro k (e : k = pb); omega))
    clear hp10 hk10 HP5n HK5n HB5n HL2
    go_wp2
    go_loopw [] (fun wi => ∃ (j f : Nat) (ps : List (List ByteArray)) (bs : List CmdT) (V : Nat → Value) (N : Nat → Nat) (X : Nat → List Value) (col : Nat → Nat), PAt wi pb T j d g cap ∧ BT wi w.heap.size (w2.heap.size + 1) w.heap.size 9 false (fun _ => false) [] [x] [] [] ps bs V N X col ∧ Kept (Own1 pb) w wi ∧ i < j ∧ T.length < f + j ∧ ps.length ≤ j ∧ Hid (((armF T C f j ps bs).bind fun a j => (mustW T j bEsac).bind fun _ j => .ok (.mk 9 false [] [x] [] [] a.1 a.2) j) = R)) (fun wi => T.length - iOf wi pb)
    case atStart => exact ⟨j3, T.length + 1, [], [], _, _, _, _, HP10.out, HB10.out, HK10.out, by omega, by omega, by simp, HR6⟩
    case round =>
      clear HP10 HB10 HK10 HR6
      obtain ⟨j, f, ps, bs, V, N, X, col, hp, hb, hk, hij, hf, hlen, hr⟩ := hrel
      have hlt := hp.lt
      have hsm := hp.small
      obtain ⟨f, rfl⟩ : ∃ g, f = g + 1 := ⟨f - 1, by omega⟩
      have hst := hr.out
      rw [armF] at hst
      have HM := Lib.hid (iOf_p hp)
      have HIS := Lib.hid (is_q 1 bEsac hp)
      have HP5 := Lib.hid hp
      have HB5 := Lib.hid hb
      have HK5 := Lib.hid hk
      obtain ⟨o1, ho1⟩ : ∃ q, isT T j 1 bEsac = q := ⟨_, rfl⟩
      rw [show isW T j bEsac = o1 from ho1] at hst
      rw [ho1] at HIS
      have HO1 := Lib.hid ho1
      unfold bEsac at HIS
      clear hr hp hb hk ho1
      cases o1 with
      | true =>
        rw [if_pos rfl] at hst
        have HR7 : Hid (((mustW T j bEsac).bind fun _ j => .ok (.mk 9 false [] [x] [] [] ps bs) j) = R) := hst
        clear hst
        go_wp2_with fail
        refine HIS.out.mono ?_
        rintro e w11 ⟨rfl, m, hw11⟩
        have HP7 := Lib.hid (by rw [hw11]; exact HP5.out.drewN m : PAt w11 pb T j d g cap)
        have HK7 := Lib.hid (by rw [hw11]; exact HK5.out.drewN m : Kept (Own1 pb) w w11)
        have HB7 := Lib.hid (by rw [hw11]; exact HB5.out.keep (T := fun _ => False) ((Kept.refl _ _).drewN m) (fun _ e => e.elim) : BT w11 w.heap.size (w2.heap.size + 1) w.heap.size 9 false (fun _ => false) [] [x] [] [] ps bs V N X col)
        clear hw11
        have HWD := Lib.hid (word_any bEsac HP7.out)
        obtain ⟨qb, hqb⟩ : ∃ q, isW T j bEsac = q := ⟨_, rfl⟩
        rw [hqb] at HWD
        have hrr := HR7.out
        unfold mustW at hrr
        rw [hqb] at hrr
        unfold bEsac at HWD
        clear hqb
        cases qb with
        | false =>
          have e : R = .err 31 := hrr.symm
          subst e
          clear hrr
          go_wp2_with fail
          refine HWD.out.mono ?_
          rintro e w8 ⟨rfl, hp8, hk8⟩
          have HMU := Lib.hid (must_any false hp8)
          have HK8 := Lib.hid (HK7.out.trans hk8)
          clear hp8 hk8
          go_wp2_with fail
          refine HMU.out.mono ?_
          rintro e w9 ⟨hw9, rfl⟩
          obtain rfl := hw9.symm
          go_wp2
          exact ⟨rfl, HK8.out, _, rfl⟩
        | true =>
          have HR7' := Lib.hid hrr
          clear hrr
          go_wp2_with fail
          refine HWD.out.mono ?_
          rintro e w12 ⟨rfl, hp8, hk8⟩
          have HP7n := Lib.hid (show PAt w12 pb T (j + 1) d g cap from hp8)
          have HMU := Lib.hid (must_any true hp8)
          have HK7n := Lib.hid (HK7.out.trans hk8)
          have HB7n := Lib.hid (HB7.out.keep hk8 (by intro k (e : k = pb); omega))
          clear hp8 hk8
          go_wp2_with fail
          refine HMU.out.mono ?_
          rintro e w9 ⟨hw9, rfl⟩
          obtain rfl := hw9.symm
          have e : R = .ok (.mk 9 false [] [x] [] [] ps bs) (j + 1) := HR7'.out.symm
          subst e
          obtain ⟨A2, m2, A3, m3, A4, m4, A5, m5, A6, m6, k0, k1, k2, k3, k4, k5, k6, ⟨z0, z1, z2, z3, z4, z5, z6, ⟨y0, g0⟩, ⟨y1, g1⟩, ⟨y2, g2⟩, ⟨y3, g3⟩, ⟨y4, g4⟩, ⟨y5, g5⟩, ⟨y6, g6⟩⟩, hfin⟩ := BT.fin' HB7n.out
          have HRT := Lib.hid hfin
          clear hfin
          go_wp2
          obtain ⟨W6, hW6, hl6, hc6, hk6⟩ := HRT.out
          rw [hW6]
          exact bodyPost_ret (results_cell (t := 2) (by kernel_rfl) rfl hl6) rfl ⟨HK7n.out.on hk6 (fun k e => .inr (Nat.le_of_eq e.symm)), _, rfl, hc6, HP7n.out.keep hk6 (by show ¬ pb = _; omega) (by show ¬ g = _; omega) (by show ¬ 1 = _; omega), by omega⟩
      | false =>
        rw [if_neg (by decide)] at hst
        obtain ⟨r, hr⟩ : ∃ r, armP T C j = r := ⟨_, rfl⟩
        have HAM := Lib.hid fun (w1 : World) (h : PAt w1 pb T j d g cap) (hb : BT w1 w.heap.size (w2.heap.size + 1) w.heap.size 9 false (fun _ => false) [] [x] [] [] ps bs V N X col) => arm_any i0 HLI.out j w1 (by omega) h hb rfl (by omega) (by omega) (by omega)
        rw [hr] at HAM hst
        clear hr
        go_wp2_with fail
        refine HIS.out.mono ?_
        rintro e w11 ⟨rfl, m, hw11⟩
        have hp11 : PAt w11 pb T j d g cap := by rw [hw11]; exact HP5.out.drewN m
        have hb11 : BT w11 w.heap.size (w2.heap.size + 1) w.heap.size 9 false (fun _ => false) [] [x] [] [] ps bs V N X col := by rw [hw11]; exact HB5.out.keep (T := fun _ => False) ((Kept.refl _ _).drewN m) (fun _ e => e.elim)
        have HAM := Lib.hid (HAM.out w11 hp11 hb11)
        have HK7 := Lib.hid (by rw [hw11]; exact HK5.out.drewN m : Kept (Own1 pb) w w11)
        clear hw11 hp11 hb11
        cases r with
        | err n =>
          have e : R = .err n := hst.symm
          subst e
          clear hst
          go_wp2_with fail
          refine HAM.out.mono ?_
          rintro e w12 ⟨hk12, k2, rfl⟩
          have HK8 := Lib.hid (HK7.out.on hk12 (fun k e => e))
          clear hk12
          go_wp2
          exact ⟨rfl, HK8.out, _, rfl⟩
        | ok a j4 =>
          obtain ⟨p1, b1, mo⟩ := a
          have hst : (if mo then armF T C f j4 (ps ++ [p1]) (bs ++ [b1]) else .ok (ps ++ [p1], bs ++ [b1]) j4).bind (fun a j => (mustW T j bEsac).bind fun _ j => .ok (.mk 9 false [] [x] [] [] a.1 a.2) j) = R := hst
          have HST := Lib.hid hst
          clear hst
          go_wp2_with fail
          refine HAM.out.mono ?_
          rintro e w12 ⟨hk12, rfl, ⟨V2, N2, X2, col2, hb12⟩, hp12, hj4⟩
          have HP12 := Lib.hid hp12
          have HB12 : Hid (BT w12 w.heap.size (w2.heap.size + 1) w.heap.size 9 false (fun _ => false) [] [x] [] [] (ps ++ [p1]) (bs ++ [b1]) V2 N2 X2 col2) := hb12
          have HK12 := Lib.hid (HK7.out.on hk12 (fun k e => e))
          have HM12 := Lib.hid (iOf_p hp12)
          have hlt12 := hp12.lt
          clear hk12 hb12 hp12
          cases mo with
          | true =>
            have HS : Hid (((armF T C f j4 (ps ++ [p1]) (bs ++ [b1])).bind fun a j => (mustW T j bEsac).bind fun _ j => .ok (.mk 9 false [] [x] [] [] a.1 a.2) j) = R) := HST.out
            go_wp2
            exact ⟨⟨j4, f, _, _, _, _, _, _, HP12.out, HB12.out, HK12.out, by omega, by omega, by simp; omega, HS⟩, by rw [HM.out, HM12.out]; omega⟩
          | false =>
            have HR7 : Hid (((mustW T j4 bEsac).bind fun _ j => .ok (.mk 9 false [] [x] [] [] (ps ++ [p1]) (bs ++ [b1])) j) = R) := HST.out
            have HWD := Lib.hid (word_any bEsac HP12.out)
            obtain ⟨qb, hqb⟩ : ∃ q, isW T j4 bEsac = q := ⟨_, rfl⟩
            rw [hqb] at HWD
            have hrr := HR7.out
            unfold mustW at hrr
            rw [hqb] at hrr
            unfold bEsac at HWD
            clear hqb
            cases qb with
            | false =>
              have e : R = .err 31 := hrr.symm
              subst e
              clear hrr
              go_wp2_with fail
              refine HWD.out.mono ?_
              rintro e w8 ⟨rfl, hp8, hk8⟩
              have HMU := Lib.hid (must_any false hp8)
              have HK8 := Lib.hid (HK12.out.trans hk8)
              clear hp8 hk8
              go_wp2_with fail
              refine HMU.out.mono ?_
              rintro e w9 ⟨hw9, rfl⟩
              obtain rfl := hw9.symm
              go_wp2
              exact ⟨rfl, HK8.out, _, rfl⟩
            | true =>
              have HR7' := Lib.hid hrr
              clear hrr
              go_wp2_with fail
              refine HWD.out.mono ?_
              rintro e w13 ⟨rfl, hp8, hk8⟩
              have HP12n := Lib.hid (show PAt w13 pb T (j4 + 1) d g cap from hp8)
              have HMU := Lib.hid (must_any true hp8)
              have HK12n := Lib.hid (HK12.out.trans hk8)
              have HB12n := Lib.hid (HB12.out.keep hk8 (by intro k (e : k = pb); omega))
              clear hp8 hk8
              go_wp2_with fail
              refine HMU.out.mono ?_
              rintro e w9 ⟨hw9, rfl⟩
              obtain rfl := hw9.symm
              have e : R = .ok (.mk 9 false [] [x] [] [] (ps ++ [p1]) (bs ++ [b1])) (j4 + 1) := HR7'.out.symm
              subst e
              obtain ⟨A2, m2, A3, m3, A4, m4, A5, m5, A6, m6, k0, k1, k2, k3, k4, k5, k6, ⟨z0, z1, z2, z3, z4, z5, z6, ⟨y0, g0⟩, ⟨y1, g1⟩, ⟨y2, g2⟩, ⟨y3, g3⟩, ⟨y4, g4⟩, ⟨y5, g5⟩, ⟨y6, g6⟩⟩, hfin⟩ := BT.fin' HB12n.out
              have HRT := Lib.hid hfin
              clear hfin
              go_wp2
              obtain ⟨W6, hW6, hl6, hc6, hk6⟩ := HRT.out
              rw [hW6]
              exact bodyPost_ret (results_cell (t := 2) (by kernel_rfl) rfl hl6) rfl ⟨HK12n.out.on hk6 (fun k e => .inr (Nat.le_of_eq e.symm)), _, rfl, hc6, HP12n.out.keep hk6 (by show ¬ pb = _; omega) (by show ¬ g = _; omega) (by show ¬ 1 = _; omega), by omega⟩
end
end Go.Proofs.YtioddclglemlmaaGreatDoor
