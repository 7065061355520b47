/- RefsNames: the names of the functions, and how many arguments each name has. -/
import Derived.Test.YtndoloohdloflaaRefsG
namespace Go.Proofs.Ytndoloohdloflaa
open Go.RowKit

set_option maxRecDepth 100000 in
set_option maxHeartbeats 1000000 in
theorem RefsNames_walk (s : ByteArray) (n : Int) (w : World) (hs : s.size ≤ 140737488351232) (hn : (Lit.int .i64 n).wf = true) :
    Calls Try.prog 13 #[.string s, .int .i64 n] w fun e w' => e = .returned (.bool true) ∧ Below w.heap.size w w' := by
  have HL := Lib.hid (refsAlive w)
  by_cases hb : (100 : Int) < s.size ∨ n < 0
  · by_cases h1 : (100 : Int) < s.size
    · go_enter Try.func13, Try.ntmps13
      go_wp2_with (go_at_call 49; refine HL.out.mono ?_; rintro e w1 ⟨rfl, HB⟩)
      go_ret
      exact ⟨rfl, HB⟩
    · have h2 : n < 0 := by omega
      clear hb
      go_enter Try.func13, Try.ntmps13
      go_wp2_with (go_at_call 49; refine HL.out.mono ?_; rintro e w1 ⟨rfl, HB⟩)
      go_ret
      exact ⟨rfl, HB⟩
  have q1 : ¬ (100 : Int) < s.size := by omega
  have q2 : ¬ n < 0 := by omega
  clear hb
  have E1 := Lib.hid fun w => Funcs_any w
  have E2 := Lib.hid fun w => FuncsR_any w
  have E3 := Lib.hid fun s w => Bounds_any s w
  have E4 := Lib.hid fun s w => BoundsR_any s w
  have hlen := namesK_len 34
  obtain ⟨R, hR⟩ : ∃ R, namesK 34 = R := ⟨_, rfl⟩
  rw [hR] at E1 E2 hlen
  clear hR
  obtain ⟨L, hL⟩ : ∃ L : Nat, 34 = L := ⟨_, rfl⟩
  rw [hL] at hlen
  rw [hlen] at E1 E2
  have hL1 : (0 : Int) < L := by omega
  have hL2 : L ≤ 34 := by omega
  obtain ⟨K, hK⟩ : ∃ K : Nat, n.toNat % L = K := ⟨_, rfl⟩
  have hKL : K < L := by rw [← hK]; exact Nat.mod_lt _ (by omega)
  have hmod : n.tmod L = (K : Int) := by
    have : n = (n.toNat : Int) := by omega
    rw [this, ← Int.ofNat_tmod, ← hK]
  have hKL2 : (K : Int) < L := by omega
  obtain ⟨x, hx⟩ : ∃ x, R[K]? = some x := ⟨_, List.getElem?_eq_getElem (by omega)⟩
  have HX : Hid ((R.map Value.string)[K]? = some (.string x)) := by unfold Hid; simp [hx]
  have HLEN := Lib.hid hlen
  clear hL hK hlen hx
  go_enter Try.func13, Try.ntmps13
  go_wp2_with fail
  refine HL.out.mono ?_
  rintro e w1 ⟨rfl, hb1⟩
  go_wp2_with fail
  refine (E1.out w1).mono ?_
  rintro e w2 ⟨v2, rfl, hv2, hb2⟩
  go_wp2_with fail
  refine (E2.out w2).mono ?_
  rintro e w3 ⟨v3, rfl, hv3, hb3⟩
  have hv2' := hv2.below hb3
  obtain ⟨A2, c2, rfl, _, _⟩ := hv2'.form
  obtain ⟨A3, c3, rfl, _, _⟩ := hv3.form
  have HS := Lib.hid (Same_any w3 A2 A3 c2 c3 R R hv2'.strsAt hv3.strsAt (by rw [HLEN.out]; omega))
  rw [sameL_self, HLEN.out] at HS
  rcases hv2.2 with ⟨_, h0⟩ | ⟨g2, cap2, cur2, h, hg2, hbk2, _⟩
  · omega
  cases h
  rcases hv3.2 with ⟨_, h0⟩ | ⟨g3, cap3, cur3, h, hg3, hbk3, _⟩
  · omega
  cases h
  have hne : g2 < g3 := by have := lt_of_block hbk2; omega
  have HNE := Lib.hid hne
  have HV2 := Lib.hid hv2'
  have HV3 := Lib.hid hv3
  have HG2 := Lib.hid hg2
  have HB3 := Lib.hid (hb1.trans ((hb2.trans (hb3.mono hb2.size)).mono hb1.size))
  have HG := Lib.hid hg3
  have HZ1 := Lib.hid hb1.size
  clear hv2 hv2' hv3 hbk2 hbk3 hb1 hb2 hb3 hne hg2 hg3
  go_wp2_with fail
  refine HS.out.mono ?_
  rintro e w4 ⟨rfl, hb4⟩
  go_wp2_with fail
  refine (E3.out s w4).mono ?_
  rintro e w5 ⟨x1, y1, rfl, hr1, hb5⟩
  go_wp2_with fail
  refine (E4.out s w5).mono ?_
  rintro e w6 ⟨x2, y2, rfl, hr2, hb6⟩
  obtain ⟨rfl, rfl⟩ := bndOf_eq hr1 hr2
  have hb36 := hb4.trans (hb5.mono hb4.size)
  have hb36 := hb36.trans (hb6.mono hb36.size)
  have hc6 : w6.cell? ⟨g3, K, none⟩ = some (.string x) := (HV3.out.below hb36).cells K _ HX.out
  clear hr1 hr2 hb4 hb5 hb6
  go_wp2_with fail
  refine (E3.out x w6).mono ?_
  rintro e w7 ⟨x3, y3, rfl, hr1, hb7⟩
  have hb37 := hb36.trans (hb7.mono hb36.size)
  have hc7 : w7.cell? ⟨g3, K, none⟩ = some (.string x) := (HV3.out.below hb37).cells K _ HX.out
  go_wp2_with fail
  refine (E4.out x w7).mono ?_
  rintro e w8 ⟨x4, y4, rfl, hr2, hb8⟩
  obtain ⟨rfl, rfl⟩ := bndOf_eq hr1 hr2
  have hb38 := hb37.trans (hb8.mono hb37.size)
  have hv8 := HV2.out.below hb38
  have hw8 := HV3.out.below hb38
  clear hr1 hr2 hb7 hb8 hb36 hb37 hc6 hc7
  go_wp2_with fail
  refine (Wipe_any w8 w1.heap.size L _ _ hv8 (by omega)).mono ?_
  rintro e w9 ⟨rfl, hb9, ho9⟩
  have hst9 : StrsAt w9 (some ⟨g3, 0, none⟩) R := (hw8.move fun k hk => ho9 k (fun e => by simp [Value.ownBlock] at e hk; have := HNE.out; omega)).strsAt
  have HSZ : Hid (w3.heap.size ≤ w9.heap.size) := by have := hb38.size; have := hb9.size; unfold Hid; omega
  have HB9 : Hid (Below w.heap.size w w9) := (HB3.out.trans (hb38.mono HB3.out.size)).trans (hb9.mono HZ1.out)
  clear hb38 hv8 hw8 hb9 ho9
  go_wp2_with fail
  refine (E1.out w9).mono ?_
  rintro e w10 ⟨v10, rfl, hv10, hb10⟩
  obtain ⟨A10, c10, rfl, _, _⟩ := hv10.form
  have HS2 := Lib.hid (Same_any w10 A10 (some ⟨g3, 0, none⟩) c10 c3 R R hv10.strsAt (hst9.below (Nat.le_refl _) hb10) (by rw [HLEN.out]; omega))
  rw [sameL_self, HLEN.out] at HS2
  have HB10 : Hid (Below w.heap.size w w10) := HB9.out.trans (hb10.mono HB9.out.size)
  clear hv10 hst9 hb10
  go_wp2_with fail
  refine HS2.out.mono ?_
  rintro e w11 ⟨rfl, hb11⟩
  have HB11 : Hid (Below w.heap.size w w11) := HB10.out.trans (hb11.mono HB10.out.size)
  clear hb11
  go_wp2
  go_ret
  exact ⟨rfl, HB11.out⟩
end Go.Proofs.Ytndoloohdloflaa
