/- The reference's store: Undefine with the word on all other blocks; conditions: a store that lies in memory, its names rising. -/
import Derived.Test.YtndoloohdloflabVarsFr2
namespace Go.Proofs.Ytndoloohdloflab
open Go.RowKit Go.Maps

set_option maxRecDepth 100000 in
set_option maxHeartbeats 2000000 in
theorem refPutF_any (w : World) (r : Nat) (l : List Vr) (k n0 v0 : ByteArray) (f0 o0 e0 : Int) (H : RefAt w r l) :
    Calls Try.prog 88 #[.pointer (some ⟨r, 0, none⟩), .string k, .agg #[.string n0, .string v0, .int .i64 f0, .int .i64 o0, .int .i64 e0], .bool false] w fun e w' => e = .returned (.tuple #[]) ∧ RefAt w' r (delV l k) ∧ Below r w w' ∧ Fr w w' r := by
  obtain ⟨i0, hi, hz0, hz1, hz2⟩ := info_parts Try.info64
  have HA := Lib.hid fun w1 (h : RefAt w1 r l) => refAt_any w1 r l k h
  have H0 := Lib.hid fun o => H.below ((Below.refl _ w).alloc (Nat.le_refl _) o)
  have HB0 := Lib.hid fun o => (Below.refl r w).alloc (Nat.le_of_lt H.lt) o
  have HBB := Lib.hid fun o => (Below.refl w.heap.size w).alloc (Nat.le_refl _) o
  have HL := Lib.hid H.len
  have HU := Lib.hid H.up
  have HLT := Lib.hid H.lt
  clear H
  obtain ⟨D, hD⟩ : ∃ D, delV l k = D := ⟨_, rfl⟩
  rw [hD]
  have HDD := Lib.hid hD
  clear hD
  go_enter Try.func88, Try.ntmps88
  go_wp2_with fail
  refine (HA.out _ (H0.out _)).mono ?_
  rintro e w1 ⟨p, nq, rfl, hp, hw1⟩
  have hR1 : RefAt w1 r l := by rw [hw1]; exact (H0.out _).below (below_drewN (Below.refl _ _) nq)
  have HB1 : Below r w w1 := by rw [hw1]; exact below_drewN (HB0.out _) nq
  have HBF : Hid (Below w.heap.size w w1) := by unfold Hid; rw [hw1]; exact below_drewN (HBB.out _) nq
  have HF1 : Fr w w1 r := Fr.below HBF.out HLT.out
  clear hw1
  cases hf : foundAt l k.data.toList p
  · have hd := del_not HU.out hp hf
    obtain rfl : l = D := by rw [← hd]; exact HDD.out
    clear hd
    go_wp2
    go_end0
    exact ⟨rfl, hR1, HB1, HF1⟩
  · have hd := del_found HU.out hp hf
    obtain ⟨y, hy, hyk⟩ := found_ex hf
    rw [HDD.out] at hd
    have HUD : Hid (Up D) := by rw [← HDD.out]; exact del_up HU.out
    obtain ⟨g, c, d1, d2, d3, d4, -, -, -, -, -, d10, d11⟩ := hR1.row hy
    have hpl := (List.getElem?_eq_some_iff.1 hy).1
    obtain ⟨L, hL⟩ : ∃ L, l.length = L := ⟨_, rfl⟩
    have hL1 := HL.out
    rw [hL] at d1 d3 d10 d11 hpl hL1
    have hDl : D.length = p + (L - (p + 1)) := by rw [hd]; simp; omega
    have hrow : vRows l = vRows (l.take p) ++ (y.cells ++ vRows (l.drop (p + 1))) := by
      conv => lhs; rw [(place_take hy).1]
      rw [vRows_app, vRows]
    have hl1 : (vRows (l.take p)).length = p * 5 := by rw [vRows_len, List.length_take, hL, Nat.min_eq_left (by omega)]
    have hl2 : (vRows (l.drop (p + 1))).length = (L - (p + 1)) * 5 := by rw [vRows_len, List.length_drop, hL]
    have hc1 : ∀ j u, (vRows (l.take p))[j]? = some u → w1.cell? ⟨g, j, none⟩ = some u := fun j u hj => by
      refine d10.cells j u ?_
      rw [hrow, List.getElem?_append_left (List.getElem?_eq_some_iff.1 hj).1]; exact hj
    have hc2 : ∀ j u, (vRows (l.drop (p + 1)))[j]? = some u → w1.cell? ⟨g, (p + 1) * 5 + j, none⟩ = some u := fun j u hj => by
      refine d10.cells _ u ?_
      rw [hrow, List.getElem?_append_right (by omega), hl1, List.getElem?_append_right (by show 5 ≤ _; omega)]
      rw [show (p + 1) * 5 + j - p * 5 - y.cells.length = j by show (p + 1) * 5 + j - p * 5 - 5 = j; omega]
      exact hj
    have hadd : ∀ o j, (⟨g, o, none⟩ : Addr).add j = ⟨g, o + j, none⟩ := fun o j => by
      simp only [Addr.add]
      split
      · subst_vars; rfl
      · simp
    obtain ⟨X1, hX1⟩ : ∃ X, vRows (l.take p) = X := ⟨_, rfl⟩
    obtain ⟨X2, hX2⟩ : ∃ X, vRows (l.drop (p + 1)) = X := ⟨_, rfl⟩
    have hDr : vRows D = X1 ++ X2 := by rw [hd, vRows_app, hX1, hX2]
    have ho1 : ∀ v ∈ X1, v.oneCell' = true := by rw [← hX1]; exact vRows_one _
    have ho2 : ∀ v ∈ X2, v.oneCell' = true := by rw [← hX2]; exact vRows_one _
    rw [hX1] at hl1 hc1
    rw [hX2] at hl2 hc2
    have HDR := Lib.hid hDr
    have HDL := Lib.hid hDl
    have HX := Lib.hid d11
    have hgl : g < w1.heap.size := (d10.block_lt g (by simp [Value.ownBlock])).2
    have hrl : r < w1.heap.size := hR1.lt
    have HD2 : Hid (D.length ≤ 1000) := by unfold Hid; omega
    have q1 : p ≤ L := by omega
    have q2 : p + 1 ≤ L := by omega
    have q3 : IntKind.i64.wrap ((p : Int) + 1) = ((p + 1 : Nat) : Int) := by rw [IntWalk.i64_in _ (by omega)]; omega
    have q4 : (p : Int) ≤ L := by omega
    have q5 : (p : Int) + 1 ≤ L := by omega
    have q6 : (0 : Int) ≤ (p : Int) + 1 := by omega
    have q7 : p ≤ c := by omega
    have q8 : p + 1 ≤ c := by omega
    have q9 : (p : Int) ≤ c := by omega
    have q10 : (p : Int) + 1 ≤ c := by omega
    have HC1 : Hid (0 < p → ∃ ad, some (⟨g, 0, none⟩ : Addr) = some ad ∧ ∀ j u, X1[j]? = some u → w1.drew.cell? (ad.add j) = some u) := fun _ => ⟨_, rfl, fun j u hj => by rw [hadd, Nat.zero_add]; exact hc1 j u hj⟩
    have HC2 : Hid (∀ w2, w1.grownBy w2 none → (0 < L - (p + 1) → ∃ ad, (if c = p + 1 then some (⟨g, 0, none⟩ : Addr) else some ⟨g, (p + 1) * 5, none⟩) = some ad ∧ ∀ j u, X2[j]? = some u → w2.cell? (ad.add j) = some u)) := fun w2 hg h0 => ⟨⟨g, (p + 1) * 5, none⟩, if_neg (by omega), fun j u hj => by
      rw [hadd, World.cell?_of_block (w := w1) (hg.block g hgl (by simp))]; exact hc2 j u hj⟩
    have HK2 : Hid (∀ w2, w1.grownBy w2 none → w2.heap[r]? = some (.cells #[.slice (some ⟨g, 0, none⟩) L c] 50 (0, 0))) := fun w2 hg => (hg.block r hrl (by simp)).trans HX.out
    clear hd hX1 hX2 hDr hDl d10 d11 hc1 hc2 hadd hrow hp hy hyk hR1 d2
    go_wp2
    (go_region_law (first | (refine step_append_GX rfl (.const (.slice none 0 0)) (.tmp 24) 48 rfl w1.heap.size 64 i0 (.agg #[.string ⟨#[]⟩, .string ⟨#[]⟩, .int .i64 0, .int .i64 0, .int .i64 0]) 5 56 Try.underlying48 hi hz0 hz1 hz2 rfl none 0 0 [] rfl (OwnG.nil _ _ _ _) (some ⟨g, 0, none⟩) p c X1 (by simp [go_sem]) (by simpa using hl1) HC1.out ho1 (by unfold maxLen; omega) (by omega) (Nat.le_refl _) ?_; intro A1 c1 w2 hw2 hg2; have hg2' : w1.grownBy w2 none := ⟨hg2.os, hg2.tape, hg2.output, hg2.size, hg2.block⟩; have hb2 : w2.cell? ⟨r, 0, none⟩ = some (.slice (some ⟨g, 0, none⟩) L c) := (by simp [World.cell?, HK2.out w2 hg2']); rw [Nat.zero_add] at hw2 ⊢) | (refine step_append_GX rfl (.tmp 25) (.tmp 32) 48 rfl w1.heap.size 64 i0 (.agg #[.string ⟨#[]⟩, .string ⟨#[]⟩, .int .i64 0, .int .i64 0, .int .i64 0]) 5 56 Try.underlying48 hi hz0 hz1 hz2 rfl A1 p c1 X1 rfl (by simpa using hw2) (if c = p + 1 then some ⟨g, 0, none⟩ else some ⟨g, (p + 1) * 5, none⟩) (L - (p + 1)) (c - (p + 1)) X2 (by simp [go_sem]) hl2 (HC2.out w2 hg2') ho2 (by unfold maxLen; omega) (by omega) (hg2'.size) ?_; intro A2 c2 w3 hw3 hg3; have hh3 : w3.heap[r]? = some (.cells #[.slice (some ⟨g, 0, none⟩) L c] 50 (0, 0)) := (hg3.block r (by have := hg2'.size; omega) (fun e => by have := (hw2.block_lt r e.symm).1; omega)).trans (HK2.out w2 hg2'); have hb3 : w3.cell? ⟨r, 0, none⟩ = some (.slice (some ⟨g, 0, none⟩) L c) := (by simp [World.cell?, hh3]); have hf3 : w3.frozen? ⟨r, 0, none⟩ = false := frozen_of_row w3 _ _ _ _ hh3; have HB3 := (HB1.grown hg2' (Nat.le_of_lt hrl) (by simp)).grown hg3 (by have := hg2'.size; omega) (fun j hj => by have := (hw2.block_lt j hj).1; omega))))
    all_goals
      have HX3 := Lib.hid (heap_setCell_same w3 r 0 _ 50 (.slice A2 (p + (L - (p + 1))) c2) hh3)
      have HF3 : Hid (Fr w (w3.setCell ⟨r, 0, none⟩ (.slice A2 (p + (L - (p + 1))) c2)) r) := by
        have e1 := HBF.out.size
        have e2 := hg2'.size
        have e3 := hg3.size
        refine ⟨by simp; omega, fun k h1 h2 h3 => ⟨?_, ?_⟩⟩
        · rw [Below.heap_setCell _ _ _ _ (show k ≠ r from h2), hg3.block k (by omega) (fun e => by have := (hw2.block_lt k e.symm).1; omega), hg2'.block k (by omega) (by simp)]
          exact HBF.out.block k h1
        · rw [rowBlk_of HX3.out]
          intro e; have := (hw3.block_lt k e).1; omega
      have HO3 : Hid (OwnG (w3.setCell ⟨r, 0, none⟩ (.slice A2 (p + (L - (p + 1))) c2)) (r + 1) 64 5 (.slice A2 (p + (L - (p + 1))) c2) (p + (L - (p + 1))) (X1 ++ X2)) := (hw3.lower (by omega)).move fun j hj => by
        have := (hw3.block_lt j hj).1
        exact Below.heap_setCell _ _ _ _ (show j ≠ r by omega)
      have HB4 := Lib.hid (HB3.setCell (p := ⟨r, 0, none⟩) (Nat.le_refl r) (.slice A2 (p + (L - (p + 1))) c2))
      clear hh3 hw3 hg3 hw2 hg2
      go_wp2
      all_goals go_end0
      all_goals exact ⟨rfl, ⟨⟨.slice A2 (p + (L - (p + 1))) c2, HX3.out, by rw [HDL.out, HDR.out]; exact HO3.out⟩, HUD.out, HD2.out⟩, HB4.out, HF3.out⟩

set_option maxRecDepth 100000 in
set_option maxHeartbeats 1000000 in
theorem refUndefineF_any (w : World) (r : Nat) (l : List Vr) (k : ByteArray) (o : Int) (H : RefAt w r l) :
    Calls Try.prog 74 #[.pointer (some ⟨r, 0, none⟩), .string k, .int .i64 o] w fun e w' => e = .returned (.bool (undefV l k o)) ∧ RefAt w' r (if undefV l k o then delV l k else l) ∧ Below r w w' ∧ Fr w w' r := by
  have HG := Lib.hid (refGet_any w r l k H)
  have HP := Lib.hid fun w1 n0 v0 f0 o0 e0 (h : RefAt w1 r l) => refPutF_any w1 r l k n0 v0 f0 o0 e0 h
  have HH := Lib.hid H
  have HLT := Lib.hid (Nat.le_of_lt H.lt)
  have HLT2 := Lib.hid H.lt
  clear H
  rcases hg : getV l k with _ | ⟨n0, v0, f0, o0, e0⟩
  · have hu : undefV l k o = true := by unfold undefV; rw [hg]
    rw [hg] at HG
    have HG2 : Hid (Calls Try.prog 47 #[.pointer (some ⟨r, 0, none⟩), .string k] w fun e w' => e = .returned (.tuple #[.agg #[.string ⟨#[]⟩, .string ⟨#[]⟩, .int .i64 0, .int .i64 0, .int .i64 0], .bool false]) ∧ Below w.heap.size w w') := HG.out
    rw [hu, if_pos rfl]
    clear HG hg hu
    go_enter Try.func74, Try.ntmps74
    go_wp2_with (first | (go_at_call 47; refine HG2.out.mono ?_; rintro e w1 ⟨rfl, hb1⟩; have HR1 := Lib.hid fun o => (HH.out.below hb1).below ((Below.refl _ w1).alloc (Nat.le_refl _) o); have HB1 := Lib.hid fun o => (hb1.mono HLT.out).alloc (Nat.le_trans HLT.out hb1.size) o; have HF1 := Lib.hid fun o => Fr.below (r := r) (hb1.alloc hb1.size o) HLT2.out; clear hb1) | (go_at_call 88; refine (HP.out _ _ _ _ _ _ (HR1.out _)).mono ?_; rintro e w2 ⟨rfl, hr2, hb2, hf2⟩))
    go_ret
    exact ⟨rfl, hr2, (HB1.out _).trans hb2, (HF1.out _).trans hf2⟩
  · rw [hg] at HG
    have HG2 : Hid (Calls Try.prog 47 #[.pointer (some ⟨r, 0, none⟩), .string k] w fun e w' => e = .returned (.tuple #[.agg #[.string n0, .string v0, .int .i64 f0, .int .i64 o0, .int .i64 e0], .bool true]) ∧ Below w.heap.size w w') := HG.out
    by_cases hc : o0 > o
    · have hu : undefV l k o = false := by unfold undefV; rw [hg]; simpa using hc
      rw [hu, if_neg (by simp)]
      clear HG hg hu
      go_enter Try.func74, Try.ntmps74
      go_wp2_with (go_at_call 47; refine HG2.out.mono ?_; rintro e w1 ⟨rfl, hb1⟩; have HR1 := Lib.hid fun o => (HH.out.below hb1).below ((Below.refl _ w1).alloc (Nat.le_refl _) o); have HB1 := Lib.hid fun o => (hb1.mono HLT.out).alloc (Nat.le_trans HLT.out hb1.size) o; have HF1 := Lib.hid fun o => Fr.below (r := r) (hb1.alloc hb1.size o) HLT2.out; clear hb1)
      go_ret
      exact ⟨rfl, HR1.out _, HB1.out _, HF1.out _⟩
    · have hu : undefV l k o = true := by unfold undefV; rw [hg]; simpa using hc
      rw [hu, if_pos rfl]
      clear HG hg hu
      go_enter Try.func74, Try.ntmps74
      go_wp2_with (first | (go_at_call 47; refine HG2.out.mono ?_; rintro e w1 ⟨rfl, hb1⟩; have HR1 := Lib.hid fun o => (HH.out.below hb1).below ((Below.refl _ w1).alloc (Nat.le_refl _) o); have HB1 := Lib.hid fun o => (hb1.mono HLT.out).alloc (Nat.le_trans HLT.out hb1.size) o; have HF1 := Lib.hid fun o => Fr.below (r := r) (hb1.alloc hb1.size o) HLT2.out; clear hb1) | (go_at_call 88; refine (HP.out _ _ _ _ _ _ (HR1.out _)).mono ?_; rintro e w2 ⟨rfl, hr2, hb2, hf2⟩))
      go_ret
      exact ⟨rfl, hr2, (HB1.out _).trans hb2, (HF1.out _).trans hf2⟩
end Go.Proofs.Ytndoloohdloflab
