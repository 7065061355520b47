/- A whole script; conditions: a parser at the head of tokens, the last one the end. -/
import Derived.Test.YtioddclglemlmaaGreatDoorGramLL
namespace Go.Proofs.YtioddclglemlmaaGreatDoor
open Go.RowKit


section
variable {pb d g cap : Nat} {T : List (Int × ByteArray)} {C : Nat → PR CmdT}
/-- what a script tells, what a list's commands tell given -/
def scrC (T : List (Int × ByteArray)) (C : Nat → PR CmdT) (i : Nat) : PR CmdT := (if begP T (lineP T i) then aosP T C (lineP T i) else .ok [] (lineP T i)).bind fun ks j => if (tk T j).1 = 4 then .ok (.mk 5 false [] [] [] ks [] []) j else .err 31
set_option maxRecDepth 100000 in
set_option maxHeartbeats 8000000 in
theorem script_any (i0 : Nat) (HC : LsOK pb T g cap d i0 (aosP T C)) : FnOK 19 pb T g cap d i0 (scrC T C) := by
  intro i w hi h
  obtain ⟨R, hR⟩ : ∃ R, scrC T C i = R := ⟨_, rfl⟩
  rw [hR]
  unfold scrC at hR
  have hbl := h.blt
  have hb1 := h.p1
  obtain ⟨w0, hw0⟩ : ∃ w0, (w.alloc (.cells #[.int .i64 0, .bool false, .slice none 0 0, .slice none 0 0, .slice none 0 0, .slice none 0 0, .slice none 0 0] 28)).alloc (.cells #[.int .i64 5, .bool false, .slice none 0 0, .slice none 0 0, .slice none 0 0, .slice none 0 0, .slice none 0 0] 28) = w0 := ⟨_, rfl⟩
  have hp0 : PAt w0 pb T i d g cap := by rw [← hw0]; exact (h.alloc _).alloc _
  have hk0 : Kept (Own1 pb) w w0 := by rw [← hw0]; exact ((Kept.refl _ _).alloc _).alloc _
  have hz0 : w0.heap[w.heap.size]? = some (.cells #[.int .i64 0, .bool false, .slice none 0 0, .slice none 0 0, .slice none 0 0, .slice none 0 0, .slice none 0 0] 28 (0, 0)) := by rw [← hw0, Below.heap_alloc _ _ _ (by simp)]; exact heap_alloc_last w _
  have hc0 : w0.heap[w.heap.size + 1]? = some (.cells #[.int .i64 5, .bool false, .slice none 0 0, .slice none 0 0, .slice none 0 0, .slice none 0 0, .slice none 0 0] 28 (0, 0)) := by
    rw [← hw0]
    have := heap_alloc_last (w.alloc (.cells #[.int .i64 0, .bool false, .slice none 0 0, .slice none 0 0, .slice none 0 0, .slice none 0 0, .slice none 0 0] 28)) (.cells #[.int .i64 5, .bool false, .slice none 0 0, .slice none 0 0, .slice none 0 0, .slice none 0 0, .slice none 0 0] 28)
    rw [World.size_alloc] at this
    exact this
  have HL := Lib.hid (lines_any hp0)
  obtain ⟨j0, hj0⟩ : ∃ j0, lineP T i = j0 := ⟨_, rfl⟩
  rw [hj0] at HL hR
  have HC := Lib.hid fun (w : World) (h1 : i ≤ j0) (h : PAt w pb T j0 d g cap) => HC j0 w (Nat.le_trans hi h1) h
  have HR := Lib.hid hR
  have HK0 := Lib.hid hk0
  have HZ0 := Lib.hid hz0
  have HC0 := Lib.hid hc0
  have HW0 := Lib.hid hw0
  clear h hR hj0 hp0 hk0 hz0 hc0 hw0
  go_enter Tryz.func19, Tryz.ntmps19
  go_upto_region 2 with fail
  rw [HW0.out]
  clear HW0
  go_wp2_with fail
  refine HL.out.mono ?_
  rintro e w2 ⟨rfl, hp2, hk2, hij⟩
  have HP2 := Lib.hid hp2
  have HK2 := Lib.hid (HK0.out.trans hk2)
  have HZ2 := Lib.hid ((hk2.block _ (lt_of_block HZ0.out) (by show ¬ _ = pb; omega)).trans HZ0.out)
  have HC2 := Lib.hid ((hk2.block _ (lt_of_block HC0.out) (by show ¬ _ = pb; omega)).trans HC0.out)
  clear hp2 hk2 HZ0 HC0 HK0 HL
  have HBG := Lib.hid (begins_any HP2.out)
  obtain ⟨q1, hq1⟩ : ∃ q, begP T j0 = q := ⟨_, rfl⟩
  have hst := HR.out
  rw [hq1] at HBG hst
  clear hq1 HR
  go_wp2_with fail
  refine HBG.out.mono ?_
  rintro e w3 ⟨rfl, m, hw3⟩
  have HP3 := Lib.hid (by rw [hw3]; exact HP2.out.drewN m : PAt w3 pb T j0 d g cap)
  have HK3 := Lib.hid (by rw [hw3]; exact HK2.out.drewN m : Kept (Own1 pb) w w3)
  have HZ3 := Lib.hid (by rw [hw3]; exact HZ2.out : w3.heap[w.heap.size]? = some (.cells #[.int .i64 0, .bool false, .slice none 0 0, .slice none 0 0, .slice none 0 0, .slice none 0 0, .slice none 0 0] 28 (0, 0)))
  have HC3 := Lib.hid (by rw [hw3]; exact HC2.out : w3.heap[w.heap.size + 1]? = some (.cells #[.int .i64 5, .bool false, .slice none 0 0, .slice none 0 0, .slice none 0 0, .slice none 0 0, .slice none 0 0] 28 (0, 0)))
  clear hw3 HP2 HK2 HZ2 HC2 HBG
  go_upto_if 8 with fail
  go_cut [] from 12 (fun wi => Hid (∃ (ks : List CmdT) (u : Option Addr) (n c : Nat) (j : Nat), PAt wi pb T j d g cap ∧ Kept (Own1 pb) w wi ∧ wi.heap[w.heap.size]? = some (.cells #[.int .i64 0, .bool false, .slice none 0 0, .slice none 0 0, .slice none 0 0, .slice none 0 0, .slice none 0 0] 28 (0, 0)) ∧
    wi.heap[w.heap.size + 1]? = some (.cells #[.int .i64 5, .bool false, .slice none 0 0, .slice none 0 0, .slice none 0 0, .slice u n c, .slice none 0 0] 28 (0, 0)) ∧
    CmdAt wi (fun k => w.heap.size + 2 ≤ k ∧ k < wi.heap.size) [.int .i64 5, .bool false, .slice none 0 0, .slice none 0 0, .slice none 0 0, .slice u n c, .slice none 0 0] (.mk 5 false [] [] [] ks [] []) ∧ i ≤ j ∧ Hid ((if (tk T j).1 = 4 then PR.ok (.mk 5 false [] [] [] ks [] []) j else .err 31) = R)))
  case first =>
    cases q1 with
    | false =>
      have HS : Hid ((if (tk T j0).1 = 4 then PR.ok (.mk 5 false [] [] [] [] [] []) j0 else .err 31) = R) := hst
      clear hst
      go_wp2
      go_meet
      case rel => exact ⟨[], none, 0, 0, j0, HP3.out, HK3.out, HZ3.out, HC3.out, CmdAt.of (RdG.nil _ _ _ _) (RdG.nil _ _ _ _) (RdG.nil _ _ _ _) (kc := []) (RdG.nil _ _ _ _) KidsAt.nil (pc := []) (bc := []) (RdG.nil _ _ _ _) ArmsAt.nil, hij, HS⟩
    | true =>
      rw [if_pos rfl] at hst
      have HCW := Lib.hid (HC.out w3 hij HP3.out)
      obtain ⟨r, hr⟩ : ∃ r, aosP T C j0 = r := ⟨_, rfl⟩
      rw [hr] at HCW hst
      clear hr
      cases r with
      | err n =>
        have e : R = .err n := hst.symm
        subst e
        clear hst
        go_wp2_with fail
        refine HCW.out.mono ?_
        rintro e w4 ⟨hk4, k2, rfl⟩
        have HK4 := Lib.hid (HK3.out.trans hk4)
        clear hk4
        go_wp2
        exact ⟨rfl, HK4.out, _, rfl⟩
      | ok ks j =>
        have HS : Hid ((if (tk T j).1 = 4 then PR.ok (.mk 5 false [] [] [] ks [] []) j else .err 31) = R) := hst
        clear hst
        go_wp2_with fail
        refine HCW.out.mono ?_
        rintro e w4 ⟨hk4, u, rfl, ⟨X4, kc4, ho4, hx4, hkk4⟩, hp4, hj4⟩
        obtain ⟨A4, c4, rfl, _, _⟩ := ho4.form
        have hz4 := (hk4.block _ (lt_of_block HZ3.out) (by show ¬ _ = pb; omega)).trans HZ3.out
        have hc4 := (hk4.block _ (lt_of_block HC3.out) (by show ¬ _ = pb; omega)).trans HC3.out
        have hs3 : w.heap.size + 1 < w3.heap.size := lt_of_block HC3.out
        have hcm : CmdAt w4 (fun k => w3.heap.size ≤ k ∧ k < w4.heap.size) [.int .i64 5, .bool false, .slice none 0 0, .slice none 0 0, .slice none 0 0, .slice A4 ks.length c4, .slice none 0 0] (.mk 5 false [] [] [] ks [] []) :=
          CmdAt.of (RdG.nil _ _ _ _) (RdG.nil _ _ _ _) (RdG.nil _ _ _ _) (kc := kc4) ⟨by rw [← hx4]; exact ho4.lower (Nat.zero_le _), fun k hk => ho4.block_lt k hk⟩ (hkk4.move (fun k e => ⟨e.1, e.2.1⟩) fun _ _ => rfl) (pc := []) (bc := []) (RdG.nil _ _ _ _) ArmsAt.nil
        obtain ⟨w5, hw5⟩ : ∃ w5, w4.setCell ⟨w.heap.size + 1, 5, none⟩ (.slice A4 ks.length c4) = w5 := ⟨_, rfl⟩
        have hkw : Kept (fun k => k = w.heap.size + 1) w4 w5 := by rw [← hw5]; exact (Kept.refl (fun k => k = w.heap.size + 1) w4).setCell (p := ⟨w.heap.size + 1, 5, none⟩) (.inl rfl) _
        have HP5 := Lib.hid (hp4.keep hkw (by show ¬ pb = _; omega) (by show ¬ g = _; omega) (by show ¬ 1 = _; omega))
        have HK5 := Lib.hid ((HK3.out.trans hk4).on hkw (fun k e => .inr (by rw [e]; omega)))
        have HZ5 := Lib.hid ((hkw.block _ (lt_of_block hz4) (by show ¬ w.heap.size = _; omega)).trans hz4)
        have hc5 : w5.heap[w.heap.size + 1]? = some (.cells #[.int .i64 5, .bool false, .slice none 0 0, .slice none 0 0, .slice none 0 0, .slice A4 ks.length c4, .slice none 0 0] 28 (0, 0)) := by
          rw [← hw5]; simpa using heap_setCell_same w4 (w.heap.size + 1) 5 _ 28 (.slice A4 ks.length c4) hc4
        have HC5 := Lib.hid hc5
        have HM5 : Hid (CmdAt w5 (fun k => w.heap.size + 2 ≤ k ∧ k < w5.heap.size) [.int .i64 5, .bool false, .slice none 0 0, .slice none 0 0, .slice none 0 0, .slice A4 ks.length c4, .slice none 0 0] (.mk 5 false [] [] [] ks [] [])) := hcm.move (fun k e => ⟨by omega, Nat.lt_of_lt_of_le e.2 hkw.size⟩) fun k e => hkw.block k e.2 (by show ¬ k = _; omega)
        obtain ⟨y5, g5⟩ := rowc hc4 (j := 5) (v := .slice none 0 0) rfl
        have HW5 := Lib.hid hw5
        have hij2 : i ≤ j := by omega
        clear hk4 hp4 hz4 hc4 hc5 hcm hkw hw5 ho4 hx4 hkk4
        go_wp2
        rw [HW5.out]
        go_meet
        case rel => exact ⟨ks, _, _, _, j, HP5.out, HK5.out, HZ5.out, HC5.out, HM5.out, hij2, HS⟩
  case rest =>
    obtain ⟨ks, u, n, c, j, hp6, hk6, hz6, hc6, hm6, hij2, hr6⟩ := hcut.out
    have HKQ := Lib.hid (kind_q hp6)
    have HFA := Lib.hid fun m => pfail_any 31 (hp6.drewN m)
    obtain ⟨k, hk⟩ : ∃ k, (tk T j).1 = k := ⟨_, rfl⟩
    have hst2 := hr6.out
    rw [hk] at HKQ hst2
    have HP6 := Lib.hid hp6
    have HK6 := Lib.hid hk6
    have HFN := Lib.hid (fun m => fin_of (W := wc.drewN m) (rb := w.heap.size) (b := w.heap.size + 1) (base := w.heap.size) (kind := 5) (no := false) (v2 := .slice none 0 0) (v3 := .slice none 0 0) (v4 := .slice none 0 0) (v5 := .slice u n c) (v6 := .slice none 0 0) (rowc hc6 (j := 0) rfl).1 (rowc hc6 (j := 1) rfl).1 (rowc hc6 (j := 2) rfl).1 (rowc hc6 (j := 3) rfl).1 (rowc hc6 (j := 4) rfl).1 (rowc hc6 (j := 5) rfl).1 (rowc hc6 (j := 6) rfl).1 ⟨_, _, _, _, _, _, _, hz6⟩ (hm6.move (W' := wc.drewN m) (fun _ e => e) fun _ _ => rfl) (fun k e => ⟨by omega, e.2, by omega⟩))
    clear hcut hp6 hk6 hz6 hc6 hm6 hr6 hst hk
    by_cases k4 : k = 4
    · subst k4
      rw [if_pos rfl] at hst2
      subst hst2
      go_wp2_with fail
      refine HKQ.out.mono ?_
      rintro e w7 ⟨rfl, m, hw7⟩
      obtain rfl := hw7.symm
      obtain ⟨k0, k1, k2, k3, k4, k5, k6, ⟨z0, z1, z2, z3, z4, z5, z6, ⟨y0, g0⟩, ⟨y1, g1⟩, ⟨y2, g2⟩, ⟨y3, g3⟩, ⟨y4, g4⟩, ⟨y5, g5⟩, ⟨y6, g6⟩⟩, hfin⟩ := HFN.out m
      have HRT := Lib.hid hfin
      clear hfin
      go_wp2
      obtain ⟨W6, hW6, hl6, hc6, hk6⟩ := HRT.out
      rw [hW6]
      exact bodyPost_ret (results_cell (t := 2) (by kernel_rfl) rfl hl6) rfl ⟨(HK6.out.drewN m).on hk6 (fun k e => .inr (Nat.le_of_eq e.symm)), _, rfl, hc6, (HP6.out.drewN m).keep hk6 (by show ¬ pb = _; omega) (by show ¬ g = _; omega) (by show ¬ 1 = _; omega), hij2⟩
    · rw [if_neg k4] at hst2
      subst hst2
      have k4' : (k == 4) = false := beq_eq_false_iff_ne.2 k4
      go_wp2_with fail
      refine HKQ.out.mono ?_
      rintro e w7 ⟨rfl, m, hw7⟩
      obtain rfl := hw7.symm
      go_wp2_with fail
      refine (HFA.out m).mono ?_
      rintro e w9 ⟨rfl, hw9⟩
      obtain rfl := hw9.symm
      go_wp2
      exact ⟨rfl, HK6.out.drewN m, _, rfl⟩
end
end Go.Proofs.YtioddclglemlmaaGreatDoor
