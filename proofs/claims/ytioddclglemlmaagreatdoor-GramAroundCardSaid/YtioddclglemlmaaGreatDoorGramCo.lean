/- Commands around a list: ( ) and braces; conditions: a parser that stands among tokens, the last one the end; what a list tells. -/
import Derived.Test.YtioddclglemlmaaGreatDoorGramLL
import Derived.RegionDies
namespace Go.Proofs.YtioddclglemlmaaGreatDoor
open Go.RowKit

/-- a command's variable, new, with one kid -/
theorem BT.newk {W4 : World} {rb base a : Nat} {c0 c1 c2 c3 c4 c5 c6 : Value} {t : CmdT} (hc : CmdAt W4 (fun k => a ≤ k ∧ k < W4.heap.size) [c0, c1, c2, c3, c4, c5, c6] t) (hrr : ∃ z0 z1 z2 z3 z4 z5 z6, W4.heap[rb]? = some (.cells #[z0, z1, z2, z3, z4, z5, z6] 28 (0, 0))) (hb : base ≤ rb) (hra : rb < a) (ha : a ≤ W4.heap.size) (kind : Int) (no : Bool) :
    ∃ V N X col, BT ((W4.alloc (.cells #[c0, c1, c2, c3, c4, c5, c6] 28)).alloc (.cells #[.int .i64 kind, .bool no, .slice none 0 0, .slice none 0 0, .slice none 0 0, .slice (some ⟨W4.heap.size, 0, none⟩) 1 1, .slice none 0 0] 28)) rb (W4.heap.size + 1) base kind no (fun _ => false) [] [] [] [t] [] [] V N X col := by
  obtain ⟨z0, z1, z2, z3, z4, z5, z6, hr⟩ := hrr
  have hrb := lt_of_block hr
  obtain ⟨W5, hW5⟩ : ∃ W, W4.alloc (.cells #[c0, c1, c2, c3, c4, c5, c6] 28) = W := ⟨_, rfl⟩
  have h5n : W5.heap[W4.heap.size]? = some (.cells #[c0, c1, c2, c3, c4, c5, c6] 28 (0, 0)) := by rw [← hW5]; exact heap_alloc_last W4 _
  have h5o : ∀ k, k < W4.heap.size → W5.heap[k]? = W4.heap[k]? := fun k hk => by rw [← hW5]; exact Below.heap_alloc _ _ _ hk
  have h5s : W5.heap.size = W4.heap.size + 1 := by rw [← hW5]; simp
  rw [hW5, ← h5s]
  obtain ⟨W6, hW6⟩ : ∃ W, W5.alloc (.cells #[.int .i64 kind, .bool no, .slice none 0 0, .slice none 0 0, .slice none 0 0, .slice (some ⟨W4.heap.size, 0, none⟩) 1 1, .slice none 0 0] 28) = W := ⟨_, rfl⟩
  have h6n : W6.heap[W5.heap.size]? = some (.cells #[.int .i64 kind, .bool no, .slice none 0 0, .slice none 0 0, .slice none 0 0, .slice (some ⟨W4.heap.size, 0, none⟩) 1 1, .slice none 0 0] 28 (0, 0)) := by rw [← hW6]; exact heap_alloc_last W5 _
  have h6o : ∀ k, k < W5.heap.size → W6.heap[k]? = W5.heap[k]? := fun k hk => by rw [← hW6]; exact Below.heap_alloc _ _ _ hk
  have h6s : W6.heap.size = W5.heap.size + 1 := by rw [← hW6]; simp
  rw [hW6]
  refine ⟨fun f => if f = 5 then .slice (some ⟨W4.heap.size, 0, none⟩) 1 1 else .slice none 0 0, fun f => if f = 5 then 1 else 0, fun f => if f = 5 then [c0, c1, c2, c3, c4, c5, c6] else [], fun k => if k = W5.heap.size then 1 else if k = W4.heap.size then 5 else if a ≤ k ∧ k < W4.heap.size then 0 else if k = rb then 8 else 7, ⟨h6n, ⟨z0, z1, z2, z3, z4, z5, z6, (h6o _ (by omega)).trans ((h5o _ hrb).trans hr)⟩, fun f h2 h6 => ?_, fun f h2 h6 k hk => ?_, if_pos rfl, ?_, by omega, hb, fun k hk => ?_, fun _ => rfl⟩, rfl, rfl, rfl, rfl, rfl, rfl, rfl, ⟨[[c0, c1, c2, c3, c4, c5, c6]], rfl, KidsAt.one (hc.move (fun k e => ?_) fun k e => (h6o k (by omega)).trans (h5o k e.2))⟩, rfl, [], [], rfl, ArmsAt.nil⟩
  · by_cases q : f = 5
    · subst q
      exact ⟨rfl, .inr ⟨W4.heap.size, 1, _, rfl, by omega, (h6o _ (by omega)).trans h5n, Nat.le_refl _, by unfold maxLen; omega, Nat.le_refl _, rfl⟩⟩
    · rw [if_neg q, if_neg q, if_neg q]; exact OwnG.nil _ _ _ _
  · by_cases q : f = 5
    · subst q
      have e : W4.heap.size = k := by simpa [Value.ownBlock] using hk
      left
      rw [← e, if_neg (by omega), if_pos rfl]
    · rw [if_neg q] at hk
      simp [Value.ownBlock] at hk
  · rw [if_neg (by omega), if_neg (by omega), if_neg (by omega), if_pos rfl]
  · split at hk
    · cases hk
    · split at hk
      · cases hk
      · split at hk
        · omega
        · split at hk <;> cases hk
  · show (if k = W5.heap.size then 1 else if k = W4.heap.size then 5 else if a ≤ k ∧ k < W4.heap.size then 0 else if k = rb then 8 else 7) = 0
    rw [if_neg (by omega), if_neg (by omega), if_pos e]
section
variable {pb d g cap : Nat} {T : List (Int × ByteArray)} {C : Nat → PR CmdT}
set_option maxRecDepth 100000 in
set_option maxHeartbeats 4000000 in
theorem sub_any (i0 : Nat) (HLI : FnOK 91 pb T g cap d i0 (lisP T C)) : FnOK 82 pb T g cap d i0 (subP T C) := by
  intro i w hi h
  obtain ⟨R, hR⟩ : ∃ R, subP T C i = R := ⟨_, rfl⟩
  rw [hR]
  unfold subP at hR
  have HLI := Lib.hid HLI
  have hbl := h.blt
  have hb1 := h.p1
  obtain ⟨i28, hi28, hz0, hz1, hz2⟩ := info_parts Tryz.info28
  have HLW := Lib.hid (HLI.out i _ hi (h.alloc (.cells #[.int .i64 0, .bool false, .slice none 0 0, .slice none 0 0, .slice none 0 0, .slice none 0 0, .slice none 0 0] 28)))
  obtain ⟨r, hr⟩ : ∃ r, lisP T C i = r := ⟨_, rfl⟩
  rw [hr] at HLW hR
  have HR := Lib.hid hR
  clear h hR hr
  cases r with
  | err n =>
    go_enter Tryz.func82, Tryz.ntmps82
    go_wp2_with fail
    refine HLW.out.mono ?_
    rintro e w4 ⟨hk4, k2, rfl⟩
    have e : R = .err n := HR.out.symm
    subst e
    have HK4 := Lib.hid (((Kept.refl _ w).alloc _).trans hk4)
    clear hk4
    go_wp2
    exact ⟨rfl, HK4.out, _, rfl⟩
  | ok c j1 =>
    go_enter Tryz.func82, Tryz.ntmps82
    go_wp2_with fail
    refine HLW.out.mono ?_
    rintro e w2 ⟨hk2, u, rfl, ⟨cs, rfl, hc2⟩, hp2, hj1⟩
    obtain ⟨kc0, nc0, B2, q2, p2, B3, q3, p3, B4, q4, p4, B5, q5, p5, B6, q6, p6, rfl⟩ := hc2.lit
    have hk02 : Kept (Own1 pb) w w2 := ((Kept.refl _ w).alloc _).trans hk2
    have hz2' : w2.heap[w.heap.size]? = some (.cells #[.int .i64 0, .bool false, .slice none 0 0, .slice none 0 0, .slice none 0 0, .slice none 0 0, .slice none 0 0] 28 (0, 0)) := (hk2.block _ (by simp) (by show ¬ _ = pb; omega)).trans (heap_alloc_last w _)
    have hsz2 := hk2.size
    rw [World.size_alloc] at hsz2 hc2
    have hbt := BT.newk (rb := w.heap.size) (base := w.heap.size) hc2 ⟨_, _, _, _, _, _, _, hz2'⟩ (Nat.le_refl _) (Nat.lt_succ_self _) hsz2 11 false
    obtain ⟨w3, hw3⟩ : ∃ w3, (w2.alloc (.cells #[.int .i64 kc0, .bool nc0, .slice B2 q2 p2, .slice B3 q3 p3, .slice B4 q4 p4, .slice B5 q5 p5, .slice B6 q6 p6] 28)).alloc (.cells #[.int .i64 11, .bool false, .slice none 0 0, .slice none 0 0, .slice none 0 0, .slice (some ⟨w2.heap.size, 0, none⟩) 1 1, .slice none 0 0] 28) = w3 := ⟨_, rfl⟩
    rw [hw3] at hbt
    obtain ⟨V0, N0, X0, col0, hbt⟩ := hbt
    have HP3 := Lib.hid (by rw [← hw3]; exact (hp2.alloc _).alloc _ : PAt w3 pb T j1 d g cap)
    have HK3 := Lib.hid (by rw [← hw3]; exact (hk02.alloc _).alloc _ : Kept (Own1 pb) w w3)
    have HB3 := Lib.hid hbt
    have HW3 := Lib.hid hw3
    have hcb : w.heap.size < w2.heap.size + 1 := by omega
    clear hp2 hk2 hk02 hz2' hc2 hbt hsz2 hw3
    have HR2 : Hid (((mustO T j1 bShut).bind fun _ j => .ok (.mk 11 false [] [] [] [c] [] []) j) = R) := HR.out
    go_upto_region 2 with fail
    rw [HW3.out]
    clear HW3
    have HWD := Lib.hid (op_any bShut HP3.out)
    obtain ⟨qb, hqb⟩ : ∃ q, isO T j1 bShut = q := ⟨_, rfl⟩
    rw [hqb] at HWD
    have hrr := HR2.out
    unfold mustO at hrr
    rw [hqb] at hrr
    unfold bShut at HWD
    clear hqb
    cases qb with
    | false =>
      have e : R = .err 31 := hrr.symm
      subst e
      clear hrr
      go_wp2_with fail
      refine HWD.out.mono ?_
      rintro e w8 ⟨rfl, hp8, hk8⟩
      have HMU := Lib.hid (must_any false hp8)
      have HK8 := Lib.hid (HK3.out.trans hk8)
      clear hp8 hk8
      go_wp2_with fail
      refine HMU.out.mono ?_
      rintro e w9 ⟨hw9, rfl⟩
      obtain rfl := hw9.symm
      go_wp2
      exact ⟨rfl, HK8.out, _, rfl⟩
    | true =>
      have HR2' := Lib.hid hrr
      clear hrr
      go_wp2_with fail
      refine HWD.out.mono ?_
      rintro e w8 ⟨rfl, hp8, hk8⟩
      have HP3n := Lib.hid (show PAt w8 pb T (j1 + 1) d g cap from hp8)
      have HMU := Lib.hid (must_any true hp8)
      have HK3n := Lib.hid (HK3.out.trans hk8)
      have HB3n := Lib.hid (HB3.out.keep hk8 (by intro k (e : k = pb); omega))
      clear hp8 hk8
      go_wp2_with fail
      refine HMU.out.mono ?_
      rintro e w9 ⟨hw9, rfl⟩
      obtain rfl := hw9.symm
      have e : R = .ok (.mk 11 false [] [] [] [c] [] []) (j1 + 1) := HR2'.out.symm
      subst e
      obtain ⟨A2, m2, A3, m3, A4, m4, A5, m5, A6, m6, k0, k1, k2, k3, k4, k5, k6, ⟨z0, z1, z2, z3, z4, z5, z6, ⟨y0, g0⟩, ⟨y1, g1⟩, ⟨y2, g2⟩, ⟨y3, g3⟩, ⟨y4, g4⟩, ⟨y5, g5⟩, ⟨y6, g6⟩⟩, hfin⟩ := BT.fin' HB3n.out
      have HRT := Lib.hid hfin
      clear hfin
      go_wp2
      obtain ⟨W6, hW6, hl6, hc6, hk6⟩ := HRT.out
      rw [hW6]
      exact bodyPost_ret (results_cell (t := 2) (by kernel_rfl) rfl hl6) rfl ⟨HK3n.out.on hk6 (fun k e => .inr (Nat.le_of_eq e.symm)), _, rfl, hc6, HP3n.out.keep hk6 (by show ¬ pb = _; omega) (by show ¬ g = _; omega) (by show ¬ 1 = _; omega), by omega⟩
set_option maxRecDepth 100000 in
set_option maxHeartbeats 4000000 in
theorem group_any (i0 : Nat) (HLI : FnOK 91 pb T g cap d i0 (lisP T C)) : FnOK 85 pb T g cap d i0 (grpP T C) := by
  intro i w hi h
  obtain ⟨R, hR⟩ : ∃ R, grpP T C i = R := ⟨_, rfl⟩
  rw [hR]
  unfold grpP at hR
  have HLI := Lib.hid HLI
  have hbl := h.blt
  have hb1 := h.p1
  obtain ⟨i28, hi28, hz0, hz1, hz2⟩ := info_parts Tryz.info28
  have HLW := Lib.hid (HLI.out i _ hi (h.alloc (.cells #[.int .i64 0, .bool false, .slice none 0 0, .slice none 0 0, .slice none 0 0, .slice none 0 0, .slice none 0 0] 28)))
  obtain ⟨r, hr⟩ : ∃ r, lisP T C i = r := ⟨_, rfl⟩
  rw [hr] at HLW hR
  have HR := Lib.hid hR
  clear h hR hr
  cases r with
  | err n =>
    go_enter Tryz.func85, Tryz.ntmps85
    go_wp2_with fail
    refine HLW.out.mono ?_
    rintro e w4 ⟨hk4, k2, rfl⟩
    have e : R = .err n := HR.out.symm
    subst e
    have HK4 := Lib.hid (((Kept.refl _ w).alloc _).trans hk4)
    clear hk4
    go_wp2
    exact ⟨rfl, HK4.out, _, rfl⟩
  | ok c j1 =>
    go_enter Tryz.func85, Tryz.ntmps85
    go_wp2_with fail
    refine HLW.out.mono ?_
    rintro e w2 ⟨hk2, u, rfl, ⟨cs, rfl, hc2⟩, hp2, hj1⟩
    obtain ⟨kc0, nc0, B2, q2, p2, B3, q3, p3, B4, q4, p4, B5, q5, p5, B6, q6, p6, rfl⟩ := hc2.lit
    have hk02 : Kept (Own1 pb) w w2 := ((Kept.refl _ w).alloc _).trans hk2
    have hz2' : w2.heap[w.heap.size]? = some (.cells #[.int .i64 0, .bool false, .slice none 0 0, .slice none 0 0, .slice none 0 0, .slice none 0 0, .slice none 0 0] 28 (0, 0)) := (hk2.block _ (by simp) (by show ¬ _ = pb; omega)).trans (heap_alloc_last w _)
    have hsz2 := hk2.size
    rw [World.size_alloc] at hsz2 hc2
    have hbt := BT.newk (rb := w.heap.size) (base := w.heap.size) hc2 ⟨_, _, _, _, _, _, _, hz2'⟩ (Nat.le_refl _) (Nat.lt_succ_self _) hsz2 10 false
    obtain ⟨w3, hw3⟩ : ∃ w3, (w2.alloc (.cells #[.int .i64 kc0, .bool nc0, .slice B2 q2 p2, .slice B3 q3 p3, .slice B4 q4 p4, .slice B5 q5 p5, .slice B6 q6 p6] 28)).alloc (.cells #[.int .i64 10, .bool false, .slice none 0 0, .slice none 0 0, .slice none 0 0, .slice (some ⟨w2.heap.size, 0, none⟩) 1 1, .slice none 0 0] 28) = w3 := ⟨_, rfl⟩
    rw [hw3] at hbt
    obtain ⟨V0, N0, X0, col0, hbt⟩ := hbt
    have HP3 := Lib.hid (by rw [← hw3]; exact (hp2.alloc _).alloc _ : PAt w3 pb T j1 d g cap)
    have HK3 := Lib.hid (by rw [← hw3]; exact (hk02.alloc _).alloc _ : Kept (Own1 pb) w w3)
    have HB3 := Lib.hid hbt
    have HW3 := Lib.hid hw3
    have hcb : w.heap.size < w2.heap.size + 1 := by omega
    clear hp2 hk2 hk02 hz2' hc2 hbt hsz2 hw3
    have HR2 : Hid (((mustW T j1 bRB).bind fun _ j => .ok (.mk 10 false [] [] [] [c] [] []) j) = R) := HR.out
    go_upto_region 2 with fail
    rw [HW3.out]
    clear HW3
    have HWD := Lib.hid (word_any bRB HP3.out)
    obtain ⟨qb, hqb⟩ : ∃ q, isW T j1 bRB = q := ⟨_, rfl⟩
    rw [hqb] at HWD
    have hrr := HR2.out
    unfold mustW at hrr
    rw [hqb] at hrr
    unfold bRB at HWD
    clear hqb
    cases qb with
    | false =>
      have e : R = .err 31 := hrr.symm
      subst e
      clear hrr
      go_wp2_with fail
      refine HWD.out.mono ?_
      rintro e w8 ⟨rfl, hp8, hk8⟩
      have HMU := Lib.hid (must_any false hp8)
      have HK8 := Lib.hid (HK3.out.trans hk8)
      clear hp8 hk8
      go_wp2_with fail
      refine HMU.out.mono ?_
      rintro e w9 ⟨hw9, rfl⟩
      obtain rfl := hw9.symm
      go_wp2
      exact ⟨rfl, HK8.out, _, rfl⟩
    | true =>
      have HR2' := Lib.hid hrr
      clear hrr
      go_wp2_with fail
      refine HWD.out.mono ?_
      rintro e w8 ⟨rfl, hp8, hk8⟩
      have HP3n := Lib.hid (show PAt w8 pb T (j1 + 1) d g cap from hp8)
      have HMU := Lib.hid (must_any true hp8)
      have HK3n := Lib.hid (HK3.out.trans hk8)
      have HB3n := Lib.hid (HB3.out.keep hk8 (by intro k (e : k = pb); omega))
      clear hp8 hk8
      go_wp2_with fail
      refine HMU.out.mono ?_
      rintro e w9 ⟨hw9, rfl⟩
      obtain rfl := hw9.symm
      have e : R = .ok (.mk 10 false [] [] [] [c] [] []) (j1 + 1) := HR2'.out.symm
      subst e
      obtain ⟨A2, m2, A3, m3, A4, m4, A5, m5, A6, m6, k0, k1, k2, k3, k4, k5, k6, ⟨z0, z1, z2, z3, z4, z5, z6, ⟨y0, g0⟩, ⟨y1, g1⟩, ⟨y2, g2⟩, ⟨y3, g3⟩, ⟨y4, g4⟩, ⟨y5, g5⟩, ⟨y6, g6⟩⟩, hfin⟩ := BT.fin' HB3n.out
      have HRT := Lib.hid hfin
      clear hfin
      go_wp2
      obtain ⟨W6, hW6, hl6, hc6, hk6⟩ := HRT.out
      rw [hW6]
      exact bodyPost_ret (results_cell (t := 2) (by kernel_rfl) rfl hl6) rfl ⟨HK3n.out.on hk6 (fun k e => .inr (Nat.le_of_eq e.symm)), _, rfl, hc6, HP3n.out.keep hk6 (by show ¬ pb = _; omega) (by show ¬ g = _; omega) (by show ¬ 1 = _; omega), by omega⟩
end
end Go.Proofs.YtioddclglemlmaaGreatDoor
