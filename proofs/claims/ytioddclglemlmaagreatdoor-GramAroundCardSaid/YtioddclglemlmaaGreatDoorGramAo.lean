/- A list of commands by && and ||; conditions: a parser that stands among tokens, the last one the end; what a pipe tells. -/
import Derived.Test.YtioddclglemlmaaGreatDoorGramKi
import Derived.RegionDies
namespace Go.Proofs.YtioddclglemlmaaGreatDoor
open Go.RowKit


/-- a command in a variable at cb, the result's at rb -/
structure CV (W : World) (rb cb base : Nat) (cs : List Value) (t : CmdT) : Prop where
  row : W.heap[cb]? = some (.cells cs.toArray 28 (0, 0))
  cmd : CmdAt W (fun k => base ≤ k ∧ k < W.heap.size ∧ k ≠ rb ∧ k ≠ cb) cs t
  rrow : ∃ z0 z1 z2 z3 z4 z5 z6, W.heap[rb]? = some (.cells #[z0, z1, z2, z3, z4, z5, z6] 28 (0, 0))
  hr : base ≤ rb
  hc : base ≤ cb
  ne : rb ≠ cb
section
variable {W W' : World} {rb cb base : Nat} {cs : List Value} {t : CmdT}
theorem CV.keep {T : Nat → Prop} (h : CV W rb cb base cs t) (hk : Kept T W W') (hT : ∀ k, T k → k < base) : CV W' rb cb base cs t := by
  have hb : ∀ k, base ≤ k → k < W.heap.size → W'.heap[k]? = W.heap[k]? := fun k h1 h2 => hk.block k h2 fun e => by have := hT k e; omega
  obtain ⟨z0, z1, z2, z3, z4, z5, z6, hr⟩ := h.rrow
  exact ⟨(hb _ h.hc (lt_of_block h.row)).trans h.row, h.cmd.move (fun k e => ⟨e.1, Nat.lt_of_lt_of_le e.2.1 hk.size, e.2.2⟩) (fun k e => hb k e.1 e.2.1), ⟨z0, z1, z2, z3, z4, z5, z6, (hb _ h.hr (lt_of_block hr)).trans hr⟩, h.hr, h.hc, h.ne⟩
theorem CV.fin {kc0 : Int} {nc0 : Bool} {B2 : Option Addr} {q2 p2 : Nat} {B3 : Option Addr} {q3 p3 : Nat} {B4 : Option Addr} {q4 p4 : Nat} {B5 : Option Addr} {q5 p5 : Nat} {B6 : Option Addr} {q6 p6 : Nat} (h : CV W rb cb base [.int .i64 kc0, .bool nc0, .slice B2 q2 p2, .slice B3 q3 p3, .slice B4 q4 p4, .slice B5 q5 p5, .slice B6 q6 p6] t) : Fin7 W rb cb base t kc0 nc0 (.slice B2 q2 p2) (.slice B3 q3 p3) (.slice B4 q4 p4) (.slice B5 q5 p5) (.slice B6 q6 p6) :=
  fin_of (rowc h.row (j := 0) rfl).1 (rowc h.row (j := 1) rfl).1 (rowc h.row (j := 2) rfl).1 (rowc h.row (j := 3) rfl).1 (rowc h.row (j := 4) rfl).1 (rowc h.row (j := 5) rfl).1 (rowc h.row (j := 6) rfl).1 h.rrow h.cmd fun k e => ⟨e.1, e.2.1, e.2.2.1⟩
/-- two commands become the kids of a new one -/
theorem CV.pair {w4 : World} {c0 c1 c2 c3 c4 c5 c6 d0 d1 d2 d3 d4 d5 d6 : Value} {td : CmdT} {a : Nat} (h : CV w4 rb cb base [c0, c1, c2, c3, c4, c5, c6] t) (hd : CmdAt w4 (fun k => a ≤ k ∧ k < w4.heap.size) [d0, d1, d2, d3, d4, d5, d6] td) (ha : base ≤ a) (hr : rb < a) (hc : cb < a) (kind : Int) :
    CV (put7 (w4.alloc (.cells #[c0, c1, c2, c3, c4, c5, c6, d0, d1, d2, d3, d4, d5, d6] 28)) cb (.int .i64 kind) (.bool false) (.slice none 0 0) (.slice none 0 0) (.slice none 0 0) (.slice (some ⟨w4.heap.size, 0, none⟩) 2 2) (.slice none 0 0)) rb cb base [.int .i64 kind, .bool false, .slice none 0 0, .slice none 0 0, .slice none 0 0, .slice (some ⟨w4.heap.size, 0, none⟩) 2 2, .slice none 0 0] (.mk kind false [] [] [] [t, td] [] []) ∧
    Kept (fun k => k = cb) w4 (put7 (w4.alloc (.cells #[c0, c1, c2, c3, c4, c5, c6, d0, d1, d2, d3, d4, d5, d6] 28)) cb (.int .i64 kind) (.bool false) (.slice none 0 0) (.slice none 0 0) (.slice none 0 0) (.slice (some ⟨w4.heap.size, 0, none⟩) 2 2) (.slice none 0 0)) := by
  have hcb := lt_of_block h.row
  obtain ⟨z0, z1, z2, z3, z4, z5, z6, hrr⟩ := h.rrow
  have hrb := lt_of_block hrr
  obtain ⟨w5, hw5⟩ : ∃ w5, w4.alloc (.cells #[c0, c1, c2, c3, c4, c5, c6, d0, d1, d2, d3, d4, d5, d6] 28) = w5 := ⟨_, rfl⟩
  have hnew : w5.heap[w4.heap.size]? = some (.cells #[c0, c1, c2, c3, c4, c5, c6, d0, d1, d2, d3, d4, d5, d6] 28 (0, 0)) := by rw [← hw5]; exact heap_alloc_last w4 _
  have hold : ∀ k, k < w4.heap.size → w5.heap[k]? = w4.heap[k]? := fun k hk => by rw [← hw5]; exact Below.heap_alloc _ _ _ hk
  have hs5 : w5.heap.size = w4.heap.size + 1 := by rw [← hw5]; simp
  have hk5 : Kept (fun k => k = cb) w4 w5 := by rw [← hw5]; exact (Kept.refl _ _).alloc _
  rw [hw5]
  have hs := set7 ((hold _ hcb).trans h.row) (.int .i64 kind) (.bool false) (.slice none 0 0) (.slice none 0 0) (.slice none 0 0) (.slice (some ⟨w4.heap.size, 0, none⟩) 2 2) (.slice none 0 0)
  have ho : ∀ k, k ≠ cb → (put7 w5 cb (.int .i64 kind) (.bool false) (.slice none 0 0) (.slice none 0 0) (.slice none 0 0) (.slice (some ⟨w4.heap.size, 0, none⟩) 2 2) (.slice none 0 0)).heap[k]? = w5.heap[k]? := fun k hk => put7_other hk _ _ _ _ _ _ _
  have hk := put7_kept hk5 (.inl rfl) (.int .i64 kind) (.bool false) (.slice none 0 0) (.slice none 0 0) (.slice none 0 0) (.slice (some ⟨w4.heap.size, 0, none⟩) 2 2) (.slice none 0 0)
  obtain ⟨W, hW⟩ : ∃ W, put7 w5 cb (.int .i64 kind) (.bool false) (.slice none 0 0) (.slice none 0 0) (.slice none 0 0) (.slice (some ⟨w4.heap.size, 0, none⟩) 2 2) (.slice none 0 0) = W := ⟨_, rfl⟩
  rw [hW] at hs ho hk ⊢
  have hsz : w4.heap.size < W.heap.size := by rw [← hW]; unfold put7; simp; omega
  have gnew := (ho w4.heap.size (by omega)).trans hnew
  refine ⟨⟨hs, ?_, ⟨z0, z1, z2, z3, z4, z5, z6, (ho _ h.ne).trans ((hold _ hrb).trans hrr)⟩, h.hr, h.hc, h.ne⟩, hk⟩
  refine CmdAt.of (RdG.nil _ _ _ _) (RdG.nil _ _ _ _) (RdG.nil _ _ _ _) (kc := [[c0, c1, c2, c3, c4, c5, c6], [d0, d1, d2, d3, d4, d5, d6]]) ⟨⟨rfl, .inr ⟨w4.heap.size, 2, _, rfl, Nat.zero_le _, gnew, Nat.le_refl _, by unfold maxLen; omega, Nat.le_refl _, rfl⟩⟩, fun k hk => ?_⟩ ?_ (pc := []) (bc := []) (RdG.nil _ _ _ _) ArmsAt.nil
  · have e : w4.heap.size = k := by simpa [Value.ownBlock] using hk
    rw [← e]
    exact ⟨Nat.le_trans h.hc (Nat.le_of_lt hcb), hsz, by omega, by omega⟩
  · have m1 : CmdAt W (fun k => base ≤ k ∧ k < W.heap.size ∧ k ≠ rb ∧ k ≠ cb) [c0, c1, c2, c3, c4, c5, c6] t := h.cmd.move (fun k e => ⟨e.1, by omega, e.2.2⟩) fun k e => (ho k e.2.2.2).trans (hold k e.2.1)
    have m2 : CmdAt W (fun k => base ≤ k ∧ k < W.heap.size ∧ k ≠ rb ∧ k ≠ cb) [d0, d1, d2, d3, d4, d5, d6] td := hd.move (fun _ e => ⟨by omega, by omega, by omega, by omega⟩) fun k e => (ho k (by omega)).trans (hold k e.2)
    exact (KidsAt.one m1).snoc m2
end
section
variable {pb d g cap : Nat} {T : List (Int × ByteArray)} {C : Nat → PR CmdT}
set_option maxRecDepth 100000 in
set_option maxHeartbeats 4000000 in
theorem andor_any (i0 : Nat) (HC : FnOK 62 pb T g cap d i0 (pipP T C)) : FnOK 49 pb T g cap d i0 (aoP T C) := by
  intro i w hi h
  obtain ⟨R, hR⟩ : ∃ R, aoP T C i = R := ⟨_, rfl⟩
  rw [hR]
  unfold aoP at hR
  have HC := Lib.hid HC
  have HP := Lib.hid h
  have hbl := h.blt
  have hb1 := h.p1
  have HPI := Lib.hid (HC.out i _ hi (h.alloc (.cells #[.int .i64 0, .bool false, .slice none 0 0, .slice none 0 0, .slice none 0 0, .slice none 0 0, .slice none 0 0] 28)))
  obtain ⟨r, hr⟩ : ∃ r, pipP T C i = r := ⟨_, rfl⟩
  rw [hr] at HPI hR
  have HR := Lib.hid hR
  clear h hR hr
  cases r with
  | err n =>
    go_enter Tryz.func49, Tryz.ntmps49
    go_wp2_with fail
    refine HPI.out.mono ?_
    rintro e w4 ⟨hk4, k2, rfl⟩
    have e : R = .err n := HR.out.symm
    subst e
    have HK4 := Lib.hid (((Kept.refl _ w).alloc _).trans hk4)
    clear hk4
    go_wp2
    exact ⟨rfl, HK4.out, _, rfl⟩
  | ok c j1 =>
    have HR2 : Hid (aoF T C (T.length + 1) j1 c = R) := HR.out
    go_enter Tryz.func49, Tryz.ntmps49
    go_wp2_with fail
    refine HPI.out.mono ?_
    rintro e w2 ⟨hk2, u, rfl, ⟨cs, rfl, hc2⟩, hp2, hj2⟩
    obtain ⟨kc0, nc0, B2, q2, p2, B3, q3, p3, B4, q4, p4, B5, q5, p5, B6, q6, p6, rfl⟩ := hc2.lit
    have hk02 : Kept (Own1 pb) w w2 := ((Kept.refl _ w).alloc _).trans hk2
    have hz2' : w2.heap[w.heap.size]? = some (.cells #[.int .i64 0, .bool false, .slice none 0 0, .slice none 0 0, .slice none 0 0, .slice none 0 0, .slice none 0 0] 28 (0, 0)) := (hk2.block _ (by simp) (by show ¬ _ = pb; omega)).trans (heap_alloc_last w _)
    have hsz2 := hk2.size
    rw [World.size_alloc] at hsz2 hc2
    obtain ⟨w3, hw3⟩ : ∃ w3, w2.alloc (.cells #[.int .i64 kc0, .bool nc0, .slice B2 q2 p2, .slice B3 q3 p3, .slice B4 q4 p4, .slice B5 q5 p5, .slice B6 q6 p6] 28) = w3 := ⟨_, rfl⟩
    obtain ⟨cb, hcb⟩ : ∃ cb, w2.heap.size = cb := ⟨_, rfl⟩
    have hcv : CV w3 w.heap.size cb w.heap.size [.int .i64 kc0, .bool nc0, .slice B2 q2 p2, .slice B3 q3 p3, .slice B4 q4 p4, .slice B5 q5 p5, .slice B6 q6 p6] c := by
      refine ⟨by rw [← hw3, ← hcb]; exact heap_alloc_last w2 _, hc2.move (fun k e => ⟨by omega, by rw [← hw3]; simp; omega, by omega, by omega⟩) (fun k e => by rw [← hw3]; exact Below.heap_alloc _ _ _ e.2), ⟨_, _, _, _, _, _, _, by rw [← hw3, Below.heap_alloc _ _ _ (by omega)]; exact hz2'⟩, Nat.le_refl _, by omega, by omega⟩
    have HP3 := Lib.hid (by rw [← hw3]; exact hp2.alloc _ : PAt w3 pb T j1 d g cap)
    have HK3 := Lib.hid (by rw [← hw3]; exact hk02.alloc _ : Kept (Own1 pb) w w3)
    have HCV := Lib.hid hcv
    have HW3 := Lib.hid hw3
    have hcw : w.heap.size < cb := by omega
    clear hp2 hk2 hk02 hz2' hcv hc2 hsz2 hw3
    go_wp2
    rw [HW3.out]
    clear hcb HW3
    go_loopw [] (fun wi => ∃ (j f : Nat) (kc0 : Int) (nc0 : Bool) (B2 : Option Addr) (q2 p2 : Nat) (B3 : Option Addr) (q3 p3 : Nat) (B4 : Option Addr) (q4 p4 : Nat) (B5 : Option Addr) (q5 p5 : Nat) (B6 : Option Addr) (q6 p6 : Nat) (t : CmdT), PAt wi pb T j d g cap ∧ CV wi w.heap.size cb w.heap.size [.int .i64 kc0, .bool nc0, .slice B2 q2 p2, .slice B3 q3 p3, .slice B4 q4 p4, .slice B5 q5 p5, .slice B6 q6 p6] t ∧ Kept (Own1 pb) w wi ∧ i ≤ j ∧ T.length < f + j ∧ Hid (aoF T C f j t = R)) (fun wi => T.length - iOf wi pb)
    case atStart => exact ⟨j1, T.length + 1, _, _, _, _, _, _, _, _, _, _, _, _, _, _, _, _, _, _, HP3.out, HCV.out, HK3.out, hj2, by omega, HR2⟩
    case round =>
      clear HCV HP3 HK3 HR2
      obtain ⟨j, f, kc0, nc0, B2, q2, p2, B3, q3, p3, B4, q4, p4, B5, q5, p5, B6, q6, p6, t, hp, hcv, hk, hij2, hf, hr⟩ := hrel
      have hlt := hp.lt
      have hsm := hp.small
      obtain ⟨f, rfl⟩ : ∃ g, f = g + 1 := ⟨f - 1, by omega⟩
      have hst := hr.out
      rw [aoF] at hst
      have HM := Lib.hid (iOf_p hp)
      have HCV5 := Lib.hid hcv
      have HK5 := Lib.hid hk
      have HOA := Lib.hid (op_any bAnd hp)
      have HOB := Lib.hid fun (w : World) (h : PAt w pb T j d g cap) => op_any bOr h
      obtain ⟨o1, hq1⟩ : ∃ q, isO T j bAnd = q := ⟨_, rfl⟩
      obtain ⟨o2, hq2⟩ : ∃ q, isO T j bOr = q := ⟨_, rfl⟩
      rw [hq1] at HOA hst
      rw [hq2] at HOB hst
      unfold bAnd at HOA
      unfold bOr at HOB
      clear hr hp hcv hk hq1 hq2
      cases o1 with
      | true =>
        rw [if_pos rfl] at hst
        have HST := Lib.hid hst
        clear hst
        go_wp2_with fail
        refine HOA.out.mono ?_
        rintro e w6 ⟨rfl, hp6, hk6⟩
        have HLL := Lib.hid (lines_any hp6)
        have HCV6 := Lib.hid (HCV5.out.keep hk6 (by intro k (e : k = pb); omega))
        have HK6 := Lib.hid (HK5.out.trans hk6)
        clear hp6 hk6
        go_wp2_with fail
        refine HLL.out.mono ?_
        rintro e w7 ⟨rfl, hp7, hk7, hl7⟩
        obtain ⟨j2, hj2⟩ : ∃ j2, lineP T (bump true j) = j2 := ⟨_, rfl⟩
        rw [hj2] at hp7 hl7
        have hl7 : j + 1 ≤ j2 := hl7
        obtain ⟨r, hr⟩ : ∃ r, pipP T C j2 = r := ⟨_, rfl⟩
        have HST2 : Hid ((r.bind fun d j => aoF T C f j (.mk 3 false [] [] [] [t, d] [] [])) = R) := by
          have := HST.out
          rw [show lineP T (j + 1) = j2 from hj2, hr] at this
          exact this
        have HCW := Lib.hid (HC.out j2 w7.drew (by omega) (hp7.drewN 1))
        rw [hr] at HCW
        have HP7 := Lib.hid hp7
        have HCV7 := Lib.hid (HCV6.out.keep hk7 (by intro k (e : k = pb); omega))
        have HK7 := Lib.hid (HK6.out.trans hk7)
        clear hp7 hk7 hj2 hr HLL HCV6 HK6 HST HCV5 HK5
        have row7 := HCV7.out.row
        obtain ⟨k0, _⟩ := rowc row7 (j := 0) (v := .int .i64 kc0) rfl
        obtain ⟨k1, _⟩ := rowc row7 (j := 1) (v := .bool nc0) rfl
        obtain ⟨k2, _⟩ := rowc row7 (j := 2) (v := .slice B2 q2 p2) rfl
        obtain ⟨k3, _⟩ := rowc row7 (j := 3) (v := .slice B3 q3 p3) rfl
        obtain ⟨k4, _⟩ := rowc row7 (j := 4) (v := .slice B4 q4 p4) rfl
        obtain ⟨k5, _⟩ := rowc row7 (j := 5) (v := .slice B5 q5 p5) rfl
        obtain ⟨k6, _⟩ := rowc row7 (j := 6) (v := .slice B6 q6 p6) rfl
        clear row7
        cases r with
        | err n =>
          go_upto_region 9 with fail
          go_region_dies
          all_goals
            go_at_call 62
            refine HCW.out.mono ?_
            rintro e w4 ⟨hk4, k2, rfl⟩
            have e : R = .err n := HST2.out.symm
            subst e
            first | exact ⟨rfl, HK7.out.drew.trans hk4, _, rfl⟩ | (show bodyPost _ _ _ (Exit.panic _) _ _; exact ⟨rfl, HK7.out.drew.trans hk4, _, rfl⟩) | (go_wp2; exact ⟨rfl, HK7.out.drew.trans hk4, _, rfl⟩)
        | ok c1 j1' =>
          go_upto_region 9 with fail
          first | (go_region_law (first
            | (go_simp; go_at_call 62; refine HCW.out.mono ?_; rintro e w4 ⟨hk4, u, rfl, ⟨cs, rfl, hc4⟩, hp4, hj4⟩; obtain ⟨kd0, nd0, D2, e2, f2, D3, e3, f3, D4, e4, f4, D5, e5, f5, D6, e6, f6, rfl⟩ := hc4.lit; have hk74 : Kept (Own1 pb) w7 w4 := (Kept.refl _ _).drew.trans hk4; have hcv4 := HCV7.out.keep hk74 (by intro k (e : k = pb); omega); have row4 := hcv4.row; have ra := fun o => (Below.heap_alloc w4 o cb (lt_of_block row4)).trans row4; obtain ⟨n0, _⟩ := rowc row4 (j := 0) (v := .int .i64 kc0) rfl; obtain ⟨n1, _⟩ := rowc row4 (j := 1) (v := .bool nc0) rfl; obtain ⟨n2, _⟩ := rowc row4 (j := 2) (v := .slice B2 q2 p2) rfl; obtain ⟨n3, _⟩ := rowc row4 (j := 3) (v := .slice B3 q3 p3) rfl; obtain ⟨n4, _⟩ := rowc row4 (j := 4) (v := .slice B4 q4 p4) rfl; obtain ⟨n5, _⟩ := rowc row4 (j := 5) (v := .slice B5 q5 p5) rfl; obtain ⟨n6, _⟩ := rowc row4 (j := 6) (v := .slice B6 q6 p6) rfl; have a0 := fun o => rowc (ra o) (j := 0) (v := .int .i64 kc0) rfl; have a1 := fun o => rowc (ra o) (j := 1) (v := .bool nc0) rfl; have a2 := fun o => rowc (ra o) (j := 2) (v := .slice B2 q2 p2) rfl; have a3 := fun o => rowc (ra o) (j := 3) (v := .slice B3 q3 p3) rfl; have a4 := fun o => rowc (ra o) (j := 4) (v := .slice B4 q4 p4) rfl; have a5 := fun o => rowc (ra o) (j := 5) (v := .slice B5 q5 p5) rfl; have a6 := fun o => rowc (ra o) (j := 6) (v := .slice B6 q6 p6) rfl; have b0 := fun o => (a0 o).1; have b1 := fun o => (a1 o).1; have b2 := fun o => (a2 o).1; have b3 := fun o => (a3 o).1; have b4 := fun o => (a4 o).1; have b5 := fun o => (a5 o).1; have b6 := fun o => (a6 o).1; have d0 := fun o => (a0 o).2; have d1 := fun o => (a1 o).2; have d2 := fun o => (a2 o).2; have d3 := fun o => (a3 o).2; have d4 := fun o => (a4 o).2; have d5 := fun o => (a5 o).2; have d6 := fun o => (a6 o).2; have HZ := Lib.hid (hcv4.pair hc4 (Nat.le_trans (Nat.le_of_lt hcw) (Nat.le_of_lt (lt_of_block HCV7.out.row))) (Nat.lt_trans hcw (lt_of_block HCV7.out.row)) (lt_of_block HCV7.out.row) 3); have HP4 := Lib.hid hp4; have HK4 := Lib.hid (HK7.out.trans hk74); clear a0 a1 a2 a3 a4 a5 a6 ra row4 hcv4 hk74 hk4 hp4 hc4)
            | fail)) | fail
          all_goals
            have hlt4 := HP4.out.lt
            obtain ⟨w9, hw9⟩ : ∃ w9, put7 (w4.alloc (.cells #[.int .i64 kc0, .bool nc0, .slice B2 q2 p2, .slice B3 q3 p3, .slice B4 q4 p4, .slice B5 q5 p5, .slice B6 q6 p6, .int .i64 kd0, .bool nd0, .slice D2 e2 f2, .slice D3 e3 f3, .slice D4 e4 f4, .slice D5 e5 f5, .slice D6 e6 f6] 28)) cb (.int .i64 3) (.bool false) (.slice none 0 0) (.slice none 0 0) (.slice none 0 0) (.slice (some ⟨w4.heap.size, 0, none⟩) 2 2) (.slice none 0 0) = w9 := ⟨_, rfl⟩
            have hz := HZ.out
            rw [hw9] at hz
            have HCV9 := Lib.hid hz.1
            have HP9 := Lib.hid (HP4.out.keep hz.2 (by show ¬ pb = _; omega) (by show ¬ g = _; omega) (by show ¬ 1 = _; omega))
            have HM9 := Lib.hid (iOf_p HP9.out)
            have HK9 := Lib.hid (HK4.out.on hz.2 (fun k e => .inr (by rw [e]; omega)))
            unfold put7 at hw9
            clear hz HZ b0 b1 b2 b3 b4 b5 b6 d0 d1 d2 d3 d4 d5 d6 n0 n1 n2 n3 n4 n5 n6 k0 k1 k2 k3 k4 k5 k6
            rw [hw9]
            clear hw9
            go_wp2
            exact ⟨⟨j1', f, _, _, _, _, _, _, _, _, _, _, _, _, _, _, _, _, _, _, HP9.out, HCV9.out, HK9.out, by omega, by omega, HST2⟩, by rw [HM.out, HM9.out]; omega⟩
      | false =>
        rw [if_neg (by decide)] at hst
        cases o2 with
        | true =>
          rw [if_pos rfl] at hst
          have HST := Lib.hid hst
          clear hst
          go_wp2_with fail
          refine HOA.out.mono ?_
          rintro e w5 ⟨rfl, hp5, hk5⟩
          have HOB := Lib.hid (HOB.out w5 hp5)
          have HK5a := Lib.hid hk5
          clear hp5 hk5
          go_wp2_with fail
          refine HOB.out.mono ?_
          rintro e w6 ⟨rfl, hp6, hk6⟩
          have hk6 := HK5a.out.trans hk6
          have HLL := Lib.hid (lines_any hp6)
          have HCV6 := Lib.hid (HCV5.out.keep hk6 (by intro k (e : k = pb); omega))
          have HK6 := Lib.hid (HK5.out.trans hk6)
          clear hp6 hk6
          go_wp2_with fail
          refine HLL.out.mono ?_
          rintro e w7 ⟨rfl, hp7, hk7, hl7⟩
          obtain ⟨j2, hj2⟩ : ∃ j2, lineP T (bump true j) = j2 := ⟨_, rfl⟩
          rw [hj2] at hp7 hl7
          have hl7 : j + 1 ≤ j2 := hl7
          obtain ⟨r, hr⟩ : ∃ r, pipP T C j2 = r := ⟨_, rfl⟩
          have HST2 : Hid ((r.bind fun d j => aoF T C f j (.mk 4 false [] [] [] [t, d] [] [])) = R) := by
            have := HST.out
            rw [show lineP T (j + 1) = j2 from hj2, hr] at this
            exact this
          have HCW := Lib.hid (HC.out j2 w7.drew (by omega) (hp7.drewN 1))
          rw [hr] at HCW
          have HP7 := Lib.hid hp7
          have HCV7 := Lib.hid (HCV6.out.keep hk7 (by intro k (e : k = pb); omega))
          have HK7 := Lib.hid (HK6.out.trans hk7)
          clear hp7 hk7 hj2 hr HLL HCV6 HK6 HST HCV5 HK5
          have row7 := HCV7.out.row
          obtain ⟨k0, _⟩ := rowc row7 (j := 0) (v := .int .i64 kc0) rfl
          obtain ⟨k1, _⟩ := rowc row7 (j := 1) (v := .bool nc0) rfl
          obtain ⟨k2, _⟩ := rowc row7 (j := 2) (v := .slice B2 q2 p2) rfl
          obtain ⟨k3, _⟩ := rowc row7 (j := 3) (v := .slice B3 q3 p3) rfl
          obtain ⟨k4, _⟩ := rowc row7 (j := 4) (v := .slice B4 q4 p4) rfl
          obtain ⟨k5, _⟩ := rowc row7 (j := 5) (v := .slice B5 q5 p5) rfl
          obtain ⟨k6, _⟩ := rowc row7 (j := 6) (v := .slice B6 q6 p6) rfl
          clear row7
          cases r with
          | err n =>
            go_upto_region 9 with fail
            go_region_dies
            all_goals
              go_at_call 62
              refine HCW.out.mono ?_
              rintro e w4 ⟨hk4, k2, rfl⟩
              have e : R = .err n := HST2.out.symm
              subst e
              first | exact ⟨rfl, HK7.out.drew.trans hk4, _, rfl⟩ | (show bodyPost _ _ _ (Exit.panic _) _ _; exact ⟨rfl, HK7.out.drew.trans hk4, _, rfl⟩) | (go_wp2; exact ⟨rfl, HK7.out.drew.trans hk4, _, rfl⟩)
          | ok c1 j1' =>
            go_upto_region 9 with fail
            first | (go_region_law (first
              | (go_simp; go_at_call 62; refine HCW.out.mono ?_; rintro e w4 ⟨hk4, u, rfl, ⟨cs, rfl, hc4⟩, hp4, hj4⟩; obtain ⟨kd0, nd0, D2, e2, f2, D3, e3, f3, D4, e4, f4, D5, e5, f5, D6, e6, f6, rfl⟩ := hc4.lit; have hk74 : Kept (Own1 pb) w7 w4 := (Kept.refl _ _).drew.trans hk4; have hcv4 := HCV7.out.keep hk74 (by intro k (e : k = pb); omega); have row4 := hcv4.row; have ra := fun o => (Below.heap_alloc w4 o cb (lt_of_block row4)).trans row4; obtain ⟨n0, _⟩ := rowc row4 (j := 0) (v := .int .i64 kc0) rfl; obtain ⟨n1, _⟩ := rowc row4 (j := 1) (v := .bool nc0) rfl; obtain ⟨n2, _⟩ := rowc row4 (j := 2) (v := .slice B2 q2 p2) rfl; obtain ⟨n3, _⟩ := rowc row4 (j := 3) (v := .slice B3 q3 p3) rfl; obtain ⟨n4, _⟩ := rowc row4 (j := 4) (v := .slice B4 q4 p4) rfl; obtain ⟨n5, _⟩ := rowc row4 (j := 5) (v := .slice B5 q5 p5) rfl; obtain ⟨n6, _⟩ := rowc row4 (j := 6) (v := .slice B6 q6 p6) rfl; have a0 := fun o => rowc (ra o) (j := 0) (v := .int .i64 kc0) rfl; have a1 := fun o => rowc (ra o) (j := 1) (v := .bool nc0) rfl; have a2 := fun o => rowc (ra o) (j := 2) (v := .slice B2 q2 p2) rfl; have a3 := fun o => rowc (ra o) (j := 3) (v := .slice B3 q3 p3) rfl; have a4 := fun o => rowc (ra o) (j := 4) (v := .slice B4 q4 p4) rfl; have a5 := fun o => rowc (ra o) (j := 5) (v := .slice B5 q5 p5) rfl; have a6 := fun o => rowc (ra o) (j := 6) (v := .slice B6 q6 p6) rfl; have b0 := fun o => (a0 o).1; have b1 := fun o => (a1 o).1; have b2 := fun o => (a2 o).1; have b3 := fun o => (a3 o).1; have b4 := fun o => (a4 o).1; have b5 := fun o => (a5 o).1; have b6 := fun o => (a6 o).1; have d0 := fun o => (a0 o).2; have d1 := fun o => (a1 o).2; have d2 := fun o => (a2 o).2; have d3 := fun o => (a3 o).2; have d4 := fun o => (a4 o).2; have d5 := fun o => (a5 o).2; have d6 := fun o => (a6 o).2; have HZ := Lib.hid (hcv4.pair hc4 (Nat.le_trans (Nat.le_of_lt hcw) (Nat.le_of_lt (lt_of_block HCV7.out.row))) (Nat.lt_trans hcw (lt_of_block HCV7.out.row)) (lt_of_block HCV7.out.row) 4); have HP4 := Lib.hid hp4; have HK4 := Lib.hid (HK7.out.trans hk74); clear a0 a1 a2 a3 a4 a5 a6 ra row4 hcv4 hk74 hk4 hp4 hc4)
              | fail)) | fail
            all_goals
              have hlt4 := HP4.out.lt
              obtain ⟨w9, hw9⟩ : ∃ w9, put7 (w4.alloc (.cells #[.int .i64 kc0, .bool nc0, .slice B2 q2 p2, .slice B3 q3 p3, .slice B4 q4 p4, .slice B5 q5 p5, .slice B6 q6 p6, .int .i64 kd0, .bool nd0, .slice D2 e2 f2, .slice D3 e3 f3, .slice D4 e4 f4, .slice D5 e5 f5, .slice D6 e6 f6] 28)) cb (.int .i64 4) (.bool false) (.slice none 0 0) (.slice none 0 0) (.slice none 0 0) (.slice (some ⟨w4.heap.size, 0, none⟩) 2 2) (.slice none 0 0) = w9 := ⟨_, rfl⟩
              have hz := HZ.out
              rw [hw9] at hz
              have HCV9 := Lib.hid hz.1
              have HP9 := Lib.hid (HP4.out.keep hz.2 (by show ¬ pb = _; omega) (by show ¬ g = _; omega) (by show ¬ 1 = _; omega))
              have HM9 := Lib.hid (iOf_p HP9.out)
              have HK9 := Lib.hid (HK4.out.on hz.2 (fun k e => .inr (by rw [e]; omega)))
              unfold put7 at hw9
              clear hz HZ b0 b1 b2 b3 b4 b5 b6 d0 d1 d2 d3 d4 d5 d6 n0 n1 n2 n3 n4 n5 n6 k0 k1 k2 k3 k4 k5 k6
              rw [hw9]
              clear hw9
              go_wp2
              exact ⟨⟨j1', f, _, _, _, _, _, _, _, _, _, _, _, _, _, _, _, _, _, _, HP9.out, HCV9.out, HK9.out, by omega, by omega, HST2⟩, by rw [HM.out, HM9.out]; omega⟩
        | false =>
          rw [if_neg (by decide)] at hst
          subst hst
          go_wp2_with fail
          refine HOA.out.mono ?_
          rintro e w5 ⟨rfl, hp5, hk5⟩
          have HOB := Lib.hid (HOB.out w5 hp5)
          have HK5a := Lib.hid hk5
          clear hp5 hk5
          go_wp2_with fail
          refine HOB.out.mono ?_
          rintro e w6 ⟨rfl, hp6, hk6⟩
          have hk6 := HK5a.out.trans hk6
          have hcv6 := HCV5.out.keep hk6 (by intro k (e : k = pb); omega)
          have HK6 := Lib.hid (HK5.out.trans hk6)
          have HP6 := Lib.hid (show PAt w6 pb T j d g cap from hp6)
          obtain ⟨k0, k1, k2, k3, k4, k5, k6, ⟨z0, z1, z2, z3, z4, z5, z6, ⟨y0, g0⟩, ⟨y1, g1⟩, ⟨y2, g2⟩, ⟨y3, g3⟩, ⟨y4, g4⟩, ⟨y5, g5⟩, ⟨y6, g6⟩⟩, hfin⟩ := hcv6.fin
          have HRT := Lib.hid hfin
          clear hfin hcv6 hp6 hk6
          go_wp2
          obtain ⟨W6, hW6, hl6, hc6, hk6⟩ := HRT.out
          rw [hW6]
          exact bodyPost_ret (results_cell (t := 2) (by kernel_rfl) rfl hl6) rfl ⟨HK6.out.on hk6 (fun k e => .inr (Nat.le_of_eq e.symm)), _, rfl, hc6, HP6.out.keep hk6 (by show ¬ pb = _; omega) (by show ¬ g = _; omega) (by show ¬ 1 = _; omega), hij2⟩
end
end Go.Proofs.YtioddclglemlmaaGreatDoor
