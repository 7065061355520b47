/- The rule that two sides make, as package rule builds it; conditions: texts of at most 400,000 bytes, the library's one number in its cell. -/
import Derived.Test.YtmcemaphhlcjfaaDoorImpl
import Derived.Deep.Cut
import Derived.Deep.RegionLaw
namespace Go.Proofs.YtmcemaphhlcjfaaDoor
open Go.RowKit

theorem rowc {W : World} {b : Nat} {cs : Array Value} {t : TypeId} {j : Nat} {v : Value} (h : W.heap[b]? = some (.cells cs t (0, 0))) (hj : cs[j]? = some v) : W.cell? ⟨b, j, none⟩ = some v ∧ W.frozen? ⟨b, j, none⟩ = false :=
  ⟨by rw [cell_of_row W b j cs t (0, 0) h]; exact hj, frozen_of_row W _ _ _ _ h⟩
def nilS : Value := .slice none 0 0
def bRow (T P O : Value) (d p t : Bool) (st : ByteArray) (sp so : Value) : Array Value :=
  #[T, P, O, .bool d, .bool p, .bool t, .string st, .slice none 0 0, .bool false, .string ⟨#[]⟩, .bool false, sp, so]
theorem StrSl.set73 {W : World} {base : Nat} {v : Value} {xs : List ByteArray} (h : StrSl W base v xs) {b : Nat} {cs : Array Value} (hb : W.heap[b]? = some (.cells cs 73 (0, 0))) (j : Nat) (u : Value) : StrSl (W.setCell ⟨b, j, none⟩ u) base v xs := h.other hb (by decide) j u
theorem StrSl.keep {W W' : World} {base bb : Nat} {v : Value} {xs : List ByteArray} {cs : Array Value} (h : StrSl W base v xs) (hb : W.heap[bb]? = some (.cells cs 73 (0, 0))) (hk : ∀ k, k < W.heap.size → k ≠ bb → W'.heap[k]? = W.heap[k]?) : StrSl W' base v xs := by
  obtain ⟨A, c, h1, h2, h3⟩ := h
  refine ⟨A, c, h1, h2, ?_⟩
  rcases h3 with h3 | ⟨g, off, cs', h4, h5, h6, h7⟩
  · exact .inl h3
  · refine .inr ⟨g, off, cs', h4, h5, (hk g (lt_of_block h6) ?_).trans h6, h7⟩
    rintro rfl; rw [hb] at h6; cases h6

set_option maxRecDepth 100000 in
set_option maxHeartbeats 4000000 in
theorem made_sep (l r : ByteArray) (d : Bool) (w : World) (hl : l.size ≤ 400000) (hr : r.size ≤ 400000) (hw : 1 < w.heap.size) (m : Int) (hm : w.cell? ⟨1, 0, none⟩ = some (.int .i64 m)) (hT : (namesB l).length = 0) :
    Calls Tryd.prog 42 #[.string l, .string r, .bool d] w fun e W' => e = .returned (.tuple #[.pointer none, errV l 50]) ∧ Below w.heap.size w W' := by
  have HN1 := Lib.hid fun w => Names_any l (by omega) w
  obtain ⟨i0, hi, hz0, hz1, hz2⟩ := info_parts Tryd.info9
  obtain ⟨ts, hts⟩ : ∃ ts, namesB l = ts := ⟨_, rfl⟩
  have hnz := names_sz l
  have hnl := names_len l
  rw [hts] at HN1 hnz hnl hT
  obtain ⟨N, hNN⟩ : ∃ N, ts.length = N := ⟨_, rfl⟩
  rw [hNN] at HN1 hnl
  have hN0 : (N : Int) = 0 := by omega
  clear hts
  go_enter Tryd.func42, Tryd.ntmps42
  go_wp2_with fail
  refine (HN1.out _).mono ?_
  rintro e w1 ⟨v1, rfl, ho1, hb1⟩
  obtain ⟨A1, c1, rfl, hc1, _⟩ := ho1.form
  have hs1 : w.heap.size + 1 ≤ w1.heap.size := by have := hb1.size; simpa using this
  have hr1 : w1.heap[w.heap.size]? = some (.cells #[.slice none 0 0, .slice none 0 0, .slice none 0 0, .bool false, .bool false, .bool false, .string ⟨#[]⟩, .slice none 0 0, .bool false, .string ⟨#[]⟩, .bool false, .slice none 0 0, .slice none 0 0] 73 (0, 0)) := (hb1.block _ (by simp)).trans (World.alloc_heap_new w _)
  have hB1 : Below w.heap.size w w1 := ((Below.refl _ w).alloc (Nat.le_refl _) _).trans (hb1.mono (by simp))
  have hS1 : StrSl w1 w.heap.size (.slice A1 N c1) ts := hNN ▸ (StrSl.of (hNN.symm ▸ ho1)).lower (by simp)
  obtain ⟨k0, f0⟩ := rowc hr1 (j := 0) rfl
  obtain ⟨k3, f3⟩ := rowc hr1 (j := 3) rfl
  clear hb1 ho1
  go_upto_region 4 with fail
  obtain ⟨w2, hw2⟩ : ∃ w2, (w1.setCell ⟨w.heap.size, 0, none⟩ (.slice A1 N c1)).setCell ⟨w.heap.size, 3, none⟩ (.bool d) = w2 := ⟨_, rfl⟩
  rw [hw2]
  have hra := heap_setCell_same w1 w.heap.size 0 _ 73 (.slice A1 N c1) hr1
  have hr2 : w2.heap[w.heap.size]? = some (.cells #[.slice A1 N c1, .slice none 0 0, .slice none 0 0, .bool d, .bool false, .bool false, .string ⟨#[]⟩, .slice none 0 0, .bool false, .string ⟨#[]⟩, .bool false, .slice none 0 0, .slice none 0 0] 73 (0, 0)) := by
    have := heap_setCell_same _ w.heap.size 3 _ 73 (.bool d) hra
    rw [hw2] at this; simpa using this
  have hB2 : Below w.heap.size w w2 := by rw [← hw2]; exact (hB1.setCell (p := ⟨w.heap.size, 0, none⟩) (Nat.le_refl _) _).setCell (p := ⟨w.heap.size, 3, none⟩) (Nat.le_refl _) _
  have hS2 : StrSl w2 w.heap.size (.slice A1 N c1) ts := by rw [← hw2]; exact (hS1.set73 hr1 0 _).set73 hra 3 _
  clear hw2 hra hr1 hB1 hS1 k0 f0 k3 f3
  obtain ⟨k0, f0⟩ := rowc hr2 (j := 0) rfl
  have HR2 := Lib.hid hr2
  have HB2 := Lib.hid hB2
  have HS2 := Lib.hid hS2
  have hsz2 : w.heap.size < w2.heap.size := lt_of_block hr2
  clear hr2 hB2 hS2
  go_wp2
  go_ret2
  exact ⟨rfl, HB2.out⟩

noncomputable def statS (pat : ByteArray) : ByteArray := if (namesB pat).length ≠ 1 ∨ popen (xAt (namesB pat) 0) = false then ⟨#[]⟩ else xAt (namesB pat) 0
theorem statC_row (pat : ByteArray) (T P O : Value) (d p t : Bool) (sp so : Value) : statC pat (bRow T P O d p t ⟨#[]⟩ sp so) = bRow T P O d p t (statS pat) sp so := by
  unfold statC statS; split <;> rfl
set_option maxRecDepth 100000 in
set_option maxHeartbeats 4000000 in
theorem made_impl (l r : ByteArray) (d : Bool) (w : World) (hl : l.size ≤ 400000) (hr : r.size ≤ 400000) (hw : 1 < w.heap.size) (m : Int) (hm : w.cell? ⟨1, 0, none⟩ = some (.int .i64 m)) (hT : (namesB l).length ≠ 0) (hc : colonB r < 0) :
    Calls Tryd.prog 42 #[.string l, .string r, .bool d] w fun e W' => ∃ vT vP vO, e = .returned (.tuple #[.pointer (some ⟨w.heap.size, 0, none⟩), (implR (namesB l)).2]) ∧ W'.heap[w.heap.size]? = some (.cells (bRow vT vP vO (if (implR (namesB l)).1 then false else d) (implR (namesB l)).1 (if (implR (namesB l)).1 then d else false) ⟨#[]⟩ vP vO) 73 (0, 0)) ∧ StrSl W' w.heap.size vT (namesB l) ∧ StrSl W' w.heap.size vP (halvesL (namesB r)).1 ∧ StrSl W' w.heap.size vO (halvesL (namesB r)).2 ∧ Below w.heap.size w W' := by
  have HN1 := Lib.hid fun w => Names_any l (by omega) w
  obtain ⟨i0, hi, hz0, hz1, hz2⟩ := info_parts Tryd.info9
  have HCo := Lib.hid fun (w1 : World) (h1 : 1 < w1.heap.size) (h2 : w1.cell? ⟨1, 0, none⟩ = some (.int .i64 m)) => Colon_any r (by omega) w1 h1 m h2
  have HN2 := Lib.hid fun w => Names_any r (by omega) w
  obtain ⟨us, hus⟩ : ∃ us, namesB r = us := ⟨_, rfl⟩
  rw [hus] at HN2 ⊢
  have hul := names_len r
  rw [hus] at hul
  obtain ⟨M, hM⟩ : ∃ M, us.length = M := ⟨_, rfl⟩
  rw [hM] at HN2 hul
  have HM := Lib.hid hM
  clear hus hM
  obtain ⟨C0, hC0⟩ : ∃ C0, colonB r = C0 := ⟨_, rfl⟩
  rw [hC0] at HCo hc
  clear hC0
  obtain ⟨ts, hts⟩ : ∃ ts, namesB l = ts := ⟨_, rfl⟩
  have hnz := names_sz l
  have hnl := names_len l
  rw [hts] at HN1 hnz hnl hT ⊢
  obtain ⟨N, hNN⟩ : ∃ N, ts.length = N := ⟨_, rfl⟩
  rw [hNN] at HN1 hnl
  have hN0 : ¬ N = 0 := by omega
  have hN0' : ((N : Int) == 0) = false := beq_eq_false_iff_ne.2 (by omega)
  obtain ⟨pb, pe, hpp⟩ : ∃ a b, implR ts = (a, b) := ⟨_, _, rfl⟩
  rw [hpp]
  have HPP := Lib.hid hpp
  clear hts hpp
  go_enter Tryd.func42, Tryd.ntmps42
  go_wp2_with fail
  refine (HN1.out _).mono ?_
  rintro e w1 ⟨v1, rfl, ho1, hb1⟩
  obtain ⟨A1, c1, rfl, hc1, _⟩ := ho1.form
  have hs1 : w.heap.size + 1 ≤ w1.heap.size := by have := hb1.size; simpa using this
  have hr1 : w1.heap[w.heap.size]? = some (.cells #[.slice none 0 0, .slice none 0 0, .slice none 0 0, .bool false, .bool false, .bool false, .string ⟨#[]⟩, .slice none 0 0, .bool false, .string ⟨#[]⟩, .bool false, .slice none 0 0, .slice none 0 0] 73 (0, 0)) := (hb1.block _ (by simp)).trans (World.alloc_heap_new w _)
  have hB1 : Below w.heap.size w w1 := ((Below.refl _ w).alloc (Nat.le_refl _) _).trans (hb1.mono (by simp))
  have hS1 : StrSl w1 w.heap.size (.slice A1 N c1) ts := hNN ▸ (StrSl.of (hNN.symm ▸ ho1)).lower (by simp)
  obtain ⟨k0, f0⟩ := rowc hr1 (j := 0) rfl
  obtain ⟨k3, f3⟩ := rowc hr1 (j := 3) rfl
  clear hb1 ho1
  go_upto_region 4 with fail
  obtain ⟨w2, hw2⟩ : ∃ w2, (w1.setCell ⟨w.heap.size, 0, none⟩ (.slice A1 N c1)).setCell ⟨w.heap.size, 3, none⟩ (.bool d) = w2 := ⟨_, rfl⟩
  rw [hw2]
  have hra := heap_setCell_same w1 w.heap.size 0 _ 73 (.slice A1 N c1) hr1
  have hr2 : w2.heap[w.heap.size]? = some (.cells #[.slice A1 N c1, .slice none 0 0, .slice none 0 0, .bool d, .bool false, .bool false, .string ⟨#[]⟩, .slice none 0 0, .bool false, .string ⟨#[]⟩, .bool false, .slice none 0 0, .slice none 0 0] 73 (0, 0)) := by
    have := heap_setCell_same _ w.heap.size 3 _ 73 (.bool d) hra
    rw [hw2] at this; simpa using this
  have hB2 : Below w.heap.size w w2 := by rw [← hw2]; exact (hB1.setCell (p := ⟨w.heap.size, 0, none⟩) (Nat.le_refl _) _).setCell (p := ⟨w.heap.size, 3, none⟩) (Nat.le_refl _) _
  have hS2 : StrSl w2 w.heap.size (.slice A1 N c1) ts := by rw [← hw2]; exact (hS1.set73 hr1 0 _).set73 hra 3 _
  clear hw2 hra hr1 hB1 hS1 k0 f0 k3 f3
  obtain ⟨k0, f0⟩ := rowc hr2 (j := 0) rfl
  have HR2 := Lib.hid hr2
  have HB2 := Lib.hid hB2
  have HS2 := Lib.hid hS2
  have hsz2 : w.heap.size < w2.heap.size := lt_of_block hr2
  clear hr2 hB2 hS2
  have hm2 : w2.cell? ⟨1, 0, none⟩ = some (.int .i64 m) := by rw [HB2.out.cell (p := ⟨1, 0, none⟩) hw]; exact hm
  have HC2 := Lib.hid (HCo.out w2 (by omega) hm2)
  go_wp2_with fail
  refine HC2.out.mono ?_
  rintro e w3 ⟨rfl, hb3⟩
  have hr3 := (hb3.block _ hsz2).trans HR2.out
  have hB3 := HB2.out.trans (hb3.mono (by omega))
  have hS3 := HS2.out.below hb3
  have hsz3 : w.heap.size < w3.heap.size := lt_of_block hr3
  clear hb3 HC2 HR2 HB2 HS2 hm2 k0 f0
  have HIM := Lib.hid (implicit_any w3 w.heap.size (.slice A1 N c1) ts hS3 (by omega))
  rw [HPP.out] at HIM
  obtain ⟨k0, f0⟩ := rowc hr3 (j := 0) rfl
  have HR3 := Lib.hid hr3
  have HB3 := Lib.hid hB3
  have HS3 := Lib.hid hS3
  clear hr3 hB3 hS3
  go_wp2_with fail
  refine HIM.out.mono ?_
  rintro e w4 ⟨rfl, hb4⟩
  have hr4 := (hb4.block _ hsz3).trans HR3.out
  have hB4 := HB3.out.trans (hb4.mono (by omega))
  have hS4 := HS3.out.below hb4
  obtain ⟨k4, f4⟩ := rowc hr4 (j := 4) rfl
  obtain ⟨k3, f3⟩ := rowc hr4 (j := 3) rfl
  obtain ⟨k5, f5⟩ := rowc hr4 (j := 5) rfl
  clear hb4 HIM HR3 HB3 HS3 k0 f0
  cases pb
  · go_upto_region 14 with fail
    obtain ⟨wS, hwS⟩ : ∃ wS, w4.setCell ⟨w.heap.size, 4, none⟩ (.bool false) = wS := ⟨_, rfl⟩
    rw [hwS]
    have hrS : wS.heap[w.heap.size]? = some (.cells #[.slice A1 N c1, .slice none 0 0, .slice none 0 0, .bool d, .bool false, .bool false, .string ⟨#[]⟩, .slice none 0 0, .bool false, .string ⟨#[]⟩, .bool false, .slice none 0 0, .slice none 0 0] 73 (0, 0)) := by
      have := heap_setCell_same w4 w.heap.size 4 _ 73 (.bool false) hr4
      rw [hwS] at this; simpa using this
    have hBS : Below w.heap.size w wS := by rw [← hwS]; exact hB4.setCell (p := ⟨w.heap.size, 4, none⟩) (Nat.le_refl _) _
    have hSS : StrSl wS w.heap.size (.slice A1 N c1) ts := by rw [← hwS]; exact hS4.set73 hr4 4 _
    have HRS := Lib.hid hrS
    have HBS := Lib.hid hBS
    have HSS := Lib.hid hSS
    have hszS : w.heap.size < wS.heap.size := lt_of_block hrS
    clear hwS hrS hBS hSS hr4 hB4 hS4 k3 f3 k4 f4 k5 f5
    go_wp2_with fail
    refine (HN2.out _).mono ?_
    rintro e w5 ⟨v5, rfl, ho5, hb5⟩
    obtain ⟨A5, c5, rfl, hc5, _⟩ := ho5.form
    have hs5 : StrSl w5 w.heap.size (.slice A5 M c5) us := HM.out ▸ (StrSl.of (HM.out.symm ▸ ho5)).lower (by omega)
    have hr5 := (hb5.block _ hszS).trans HRS.out
    have hB5 := HBS.out.trans (hb5.mono (by omega))
    have hT5 := HSS.out.below hb5
    have HSP := Lib.hid (split_any w5 w.heap.size (.slice A5 M c5) us hs5 (by have := HM.out; omega))
    have HR5 := Lib.hid hr5
    have HB5 := Lib.hid hB5
    have HT5 := Lib.hid hT5
    have hsz5 : w.heap.size < w5.heap.size := lt_of_block hr5
    clear ho5 hb5 hs5 hr5 hB5 hT5 HRS HBS HSS
    go_wp2_with fail
    refine HSP.out.mono ?_
    rintro e w6 ⟨vP, vO, rfl, hP6, hO6, hb6⟩
    obtain ⟨AP, cP, rfl, _, _⟩ := id hP6
    obtain ⟨AO, cO, rfl, _, _⟩ := id hO6
    obtain ⟨NP, hNP⟩ : ∃ NP, (halvesL us).1.length = NP := ⟨_, rfl⟩
    obtain ⟨NO, hNO⟩ : ∃ NO, (halvesL us).2.length = NO := ⟨_, rfl⟩
    rw [hNP] at hP6 ⊢
    rw [hNO] at hO6 ⊢
    clear hNP hNO
    have hr6 := (hb6.block _ hsz5).trans HR5.out
    have hB6 := HB5.out.trans (hb6.mono (by omega))
    have hT6 := HT5.out.below hb6
    obtain ⟨k11, f11⟩ := rowc hr6 (j := 11) rfl
    obtain ⟨k12, f12⟩ := rowc hr6 (j := 12) rfl
    have HR6 := Lib.hid hr6
    have HB6 := Lib.hid hB6
    have HT6 := Lib.hid hT6
    have HP6 := Lib.hid hP6
    have HO6 := Lib.hid hO6
    have hsz6 : w.heap.size < w6.heap.size := lt_of_block hr6
    clear hr6 hB6 hT6 hP6 hO6 hb6 HR5 HB5 HT5 HSP
    go_upto_region 15 with fail
    obtain ⟨w7, hw7⟩ : ∃ w7, (w6.setCell ⟨w.heap.size, 11, none⟩ (.slice AP NP cP)).setCell ⟨w.heap.size, 12, none⟩ (.slice AO NO cO) = w7 := ⟨_, rfl⟩
    rw [hw7]
    have hra := heap_setCell_same w6 w.heap.size 11 _ 73 (.slice AP NP cP) HR6.out
    have hr7 : w7.heap[w.heap.size]? = some (.cells #[.slice A1 N c1, .slice none 0 0, .slice none 0 0, .bool d, .bool false, .bool false, .string ⟨#[]⟩, .slice none 0 0, .bool false, .string ⟨#[]⟩, .bool false, (.slice AP NP cP), (.slice AO NO cO)] 73 (0, 0)) := by
      have := heap_setCell_same _ w.heap.size 12 _ 73 (.slice AO NO cO) hra
      rw [hw7] at this; simpa using this
    have hB7 : Below w.heap.size w w7 := by rw [← hw7]; exact (HB6.out.setCell (p := ⟨w.heap.size, 11, none⟩) (Nat.le_refl _) _).setCell (p := ⟨w.heap.size, 12, none⟩) (Nat.le_refl _) _
    have hT7 : StrSl w7 w.heap.size (.slice A1 N c1) ts := by rw [← hw7]; exact (HT6.out.set73 HR6.out 11 _).set73 hra 12 _
    have hP7 : StrSl w7 w.heap.size (.slice AP NP cP) (halvesL us).1 := by rw [← hw7]; exact (HP6.out.set73 HR6.out 11 _).set73 hra 12 _
    have hO7 : StrSl w7 w.heap.size (.slice AO NO cO) (halvesL us).2 := by rw [← hw7]; exact (HO6.out.set73 HR6.out 11 _).set73 hra 12 _
    clear hw7 hra k11 f11 k12 f12 HR6 HB6 HT6 HP6 HO6
    obtain ⟨k1, f1⟩ := rowc hr7 (j := 1) rfl
    obtain ⟨k2, f2⟩ := rowc hr7 (j := 2) rfl
    obtain ⟨k11, f11⟩ := rowc hr7 (j := 11) rfl
    obtain ⟨k12, f12⟩ := rowc hr7 (j := 12) rfl
    have HR7 := Lib.hid hr7
    have HFIN : Hid (∃ W8 : World, W8 = (w7.setCell ⟨w.heap.size, 1, none⟩ (.slice AP NP cP)).setCell ⟨w.heap.size, 2, none⟩ (.slice AO NO cO) ∧ W8.heap[w.heap.size]? = some (.cells (bRow (.slice A1 N c1) (.slice AP NP cP) (.slice AO NO cO) d false false ⟨#[]⟩ (.slice AP NP cP) (.slice AO NO cO)) 73 (0, 0)) ∧ StrSl W8 w.heap.size (.slice A1 N c1) ts ∧ StrSl W8 w.heap.size (.slice AP NP cP) (halvesL us).1 ∧ StrSl W8 w.heap.size (.slice AO NO cO) (halvesL us).2 ∧ Below w.heap.size w W8) := by
      have hra := heap_setCell_same w7 w.heap.size 1 _ 73 (.slice AP NP cP) hr7
      have hrb := heap_setCell_same _ w.heap.size 2 _ 73 (.slice AO NO cO) hra
      refine ⟨_, rfl, by simpa [bRow] using hrb, (hT7.set73 hr7 1 _).set73 hra 2 _, (hP7.set73 hr7 1 _).set73 hra 2 _, (hO7.set73 hr7 1 _).set73 hra 2 _, (hB7.setCell (p := ⟨w.heap.size, 1, none⟩) (Nat.le_refl _) _).setCell (p := ⟨w.heap.size, 2, none⟩) (Nat.le_refl _) _⟩
    clear hr7 hB7 hT7 hP7 hO7
    go_region
    all_goals go_wp2
    all_goals go_ret2
    obtain ⟨W8, hW8, g1, g2, g3, g4, g5⟩ := HFIN.out
    subst hW8
    first | exact ⟨rfl, (.slice A1 N c1), (.slice AP NP cP), (.slice AO NO cO), g1, g2, g3, g4, g5.drew⟩ | exact ⟨(.slice A1 N c1), (.slice AP NP cP), (.slice AO NO cO), rfl, g1, g2, g3, g4, g5.drew⟩
  · go_upto_region 14 with fail
    obtain ⟨wS, hwS⟩ : ∃ wS, ((w4.setCell ⟨w.heap.size, 4, none⟩ (.bool true)).setCell ⟨w.heap.size, 5, none⟩ (.bool d)).setCell ⟨w.heap.size, 3, none⟩ (.bool false) = wS := ⟨_, rfl⟩
    rw [hwS]
    have hra := heap_setCell_same w4 w.heap.size 4 _ 73 (.bool true) hr4
    have hrb := heap_setCell_same _ w.heap.size 5 _ 73 (.bool d) hra
    have hrS : wS.heap[w.heap.size]? = some (.cells #[.slice A1 N c1, .slice none 0 0, .slice none 0 0, .bool false, .bool true, .bool d, .string ⟨#[]⟩, .slice none 0 0, .bool false, .string ⟨#[]⟩, .bool false, .slice none 0 0, .slice none 0 0] 73 (0, 0)) := by
      have := heap_setCell_same _ w.heap.size 3 _ 73 (.bool false) hrb
      rw [hwS] at this; simpa using this
    have hBS : Below w.heap.size w wS := by rw [← hwS]; exact ((hB4.setCell (p := ⟨w.heap.size, 4, none⟩) (Nat.le_refl _) _).setCell (p := ⟨w.heap.size, 5, none⟩) (Nat.le_refl _) _).setCell (p := ⟨w.heap.size, 3, none⟩) (Nat.le_refl _) _
    have hSS : StrSl wS w.heap.size (.slice A1 N c1) ts := by rw [← hwS]; exact ((hS4.set73 hr4 4 _).set73 hra 5 _).set73 hrb 3 _
    have HRS := Lib.hid hrS
    have HBS := Lib.hid hBS
    have HSS := Lib.hid hSS
    have hszS : w.heap.size < wS.heap.size := lt_of_block hrS
    clear hwS hra hrb hrS hBS hSS hr4 hB4 hS4 k3 f3 k4 f4 k5 f5
    go_wp2_with fail
    refine (HN2.out _).mono ?_
    rintro e w5 ⟨v5, rfl, ho5, hb5⟩
    obtain ⟨A5, c5, rfl, hc5, _⟩ := ho5.form
    have hs5 : StrSl w5 w.heap.size (.slice A5 M c5) us := HM.out ▸ (StrSl.of (HM.out.symm ▸ ho5)).lower (by omega)
    have hr5 := (hb5.block _ hszS).trans HRS.out
    have hB5 := HBS.out.trans (hb5.mono (by omega))
    have hT5 := HSS.out.below hb5
    have HSP := Lib.hid (split_any w5 w.heap.size (.slice A5 M c5) us hs5 (by have := HM.out; omega))
    have HR5 := Lib.hid hr5
    have HB5 := Lib.hid hB5
    have HT5 := Lib.hid hT5
    have hsz5 : w.heap.size < w5.heap.size := lt_of_block hr5
    clear ho5 hb5 hs5 hr5 hB5 hT5 HRS HBS HSS
    go_wp2_with fail
    refine HSP.out.mono ?_
    rintro e w6 ⟨vP, vO, rfl, hP6, hO6, hb6⟩
    obtain ⟨AP, cP, rfl, _, _⟩ := id hP6
    obtain ⟨AO, cO, rfl, _, _⟩ := id hO6
    obtain ⟨NP, hNP⟩ : ∃ NP, (halvesL us).1.length = NP := ⟨_, rfl⟩
    obtain ⟨NO, hNO⟩ : ∃ NO, (halvesL us).2.length = NO := ⟨_, rfl⟩
    rw [hNP] at hP6 ⊢
    rw [hNO] at hO6 ⊢
    clear hNP hNO
    have hr6 := (hb6.block _ hsz5).trans HR5.out
    have hB6 := HB5.out.trans (hb6.mono (by omega))
    have hT6 := HT5.out.below hb6
    obtain ⟨k11, f11⟩ := rowc hr6 (j := 11) rfl
    obtain ⟨k12, f12⟩ := rowc hr6 (j := 12) rfl
    have HR6 := Lib.hid hr6
    have HB6 := Lib.hid hB6
    have HT6 := Lib.hid hT6
    have HP6 := Lib.hid hP6
    have HO6 := Lib.hid hO6
    have hsz6 : w.heap.size < w6.heap.size := lt_of_block hr6
    clear hr6 hB6 hT6 hP6 hO6 hb6 HR5 HB5 HT5 HSP
    go_upto_region 15 with fail
    obtain ⟨w7, hw7⟩ : ∃ w7, (w6.setCell ⟨w.heap.size, 11, none⟩ (.slice AP NP cP)).setCell ⟨w.heap.size, 12, none⟩ (.slice AO NO cO) = w7 := ⟨_, rfl⟩
    rw [hw7]
    have hra := heap_setCell_same w6 w.heap.size 11 _ 73 (.slice AP NP cP) HR6.out
    have hr7 : w7.heap[w.heap.size]? = some (.cells #[.slice A1 N c1, .slice none 0 0, .slice none 0 0, .bool false, .bool true, .bool d, .string ⟨#[]⟩, .slice none 0 0, .bool false, .string ⟨#[]⟩, .bool false, (.slice AP NP cP), (.slice AO NO cO)] 73 (0, 0)) := by
      have := heap_setCell_same _ w.heap.size 12 _ 73 (.slice AO NO cO) hra
      rw [hw7] at this; simpa using this
    have hB7 : Below w.heap.size w w7 := by rw [← hw7]; exact (HB6.out.setCell (p := ⟨w.heap.size, 11, none⟩) (Nat.le_refl _) _).setCell (p := ⟨w.heap.size, 12, none⟩) (Nat.le_refl _) _
    have hT7 : StrSl w7 w.heap.size (.slice A1 N c1) ts := by rw [← hw7]; exact (HT6.out.set73 HR6.out 11 _).set73 hra 12 _
    have hP7 : StrSl w7 w.heap.size (.slice AP NP cP) (halvesL us).1 := by rw [← hw7]; exact (HP6.out.set73 HR6.out 11 _).set73 hra 12 _
    have hO7 : StrSl w7 w.heap.size (.slice AO NO cO) (halvesL us).2 := by rw [← hw7]; exact (HO6.out.set73 HR6.out 11 _).set73 hra 12 _
    clear hw7 hra k11 f11 k12 f12 HR6 HB6 HT6 HP6 HO6
    obtain ⟨k1, f1⟩ := rowc hr7 (j := 1) rfl
    obtain ⟨k2, f2⟩ := rowc hr7 (j := 2) rfl
    obtain ⟨k11, f11⟩ := rowc hr7 (j := 11) rfl
    obtain ⟨k12, f12⟩ := rowc hr7 (j := 12) rfl
    have HR7 := Lib.hid hr7
    have HFIN : Hid (∃ W8 : World, W8 = (w7.setCell ⟨w.heap.size, 1, none⟩ (.slice AP NP cP)).setCell ⟨w.heap.size, 2, none⟩ (.slice AO NO cO) ∧ W8.heap[w.heap.size]? = some (.cells (bRow (.slice A1 N c1) (.slice AP NP cP) (.slice AO NO cO) false true d ⟨#[]⟩ (.slice AP NP cP) (.slice AO NO cO)) 73 (0, 0)) ∧ StrSl W8 w.heap.size (.slice A1 N c1) ts ∧ StrSl W8 w.heap.size (.slice AP NP cP) (halvesL us).1 ∧ StrSl W8 w.heap.size (.slice AO NO cO) (halvesL us).2 ∧ Below w.heap.size w W8) := by
      have hra := heap_setCell_same w7 w.heap.size 1 _ 73 (.slice AP NP cP) hr7
      have hrb := heap_setCell_same _ w.heap.size 2 _ 73 (.slice AO NO cO) hra
      refine ⟨_, rfl, by simpa [bRow] using hrb, (hT7.set73 hr7 1 _).set73 hra 2 _, (hP7.set73 hr7 1 _).set73 hra 2 _, (hO7.set73 hr7 1 _).set73 hra 2 _, (hB7.setCell (p := ⟨w.heap.size, 1, none⟩) (Nat.le_refl _) _).setCell (p := ⟨w.heap.size, 2, none⟩) (Nat.le_refl _) _⟩
    clear hr7 hB7 hT7 hP7 hO7
    go_region
    all_goals go_wp2
    all_goals go_ret2
    obtain ⟨W8, hW8, g1, g2, g3, g4, g5⟩ := HFIN.out
    subst hW8
    first | exact ⟨rfl, (.slice A1 N c1), (.slice AP NP cP), (.slice AO NO cO), g1, g2, g3, g4, g5.drew⟩ | exact ⟨(.slice A1 N c1), (.slice AP NP cP), (.slice AO NO cO), rfl, g1, g2, g3, g4, g5.drew⟩

set_option maxRecDepth 100000 in
set_option maxHeartbeats 4000000 in
theorem made_stat (l r : ByteArray) (d : Bool) (w : World) (hl : l.size ≤ 400000) (hr : r.size ≤ 400000) (hw : 1 < w.heap.size) (m : Int) (hm : w.cell? ⟨1, 0, none⟩ = some (.int .i64 m)) (hT : (namesB l).length ≠ 0) (i : Nat) (hc : colonB r = i) (hi2 : i < r.size) :
    Calls Tryd.prog 42 #[.string l, .string r, .bool d] w fun e W' => ∃ vT vP vO, e = .returned (.tuple #[.pointer (some ⟨w.heap.size, 0, none⟩), statE (r.extract 0 i) (namesB l)]) ∧ W'.heap[w.heap.size]? = some (.cells (bRow vT vP vO d false false (statS (r.extract 0 i)) vP vO) 73 (0, 0)) ∧ StrSl W' w.heap.size vT (namesB l) ∧ StrSl W' w.heap.size vP (halvesL (namesB (r.extract (i + 1) r.size))).1 ∧ StrSl W' w.heap.size vO (halvesL (namesB (r.extract (i + 1) r.size))).2 ∧ Below w.heap.size w W' := by
  have HN1 := Lib.hid fun w => Names_any l (by omega) w
  obtain ⟨i0, hi, hz0, hz1, hz2⟩ := info_parts Tryd.info9
  have HCo := Lib.hid fun (w1 : World) (h1 : 1 < w1.heap.size) (h2 : w1.cell? ⟨1, 0, none⟩ = some (.int .i64 m)) => Colon_any r (by omega) w1 h1 m h2
  have HN2 := Lib.hid fun w => Names_any (r.extract (i + 1) r.size) (by simp; omega) w
  obtain ⟨us, hus⟩ : ∃ us, namesB (r.extract (i + 1) r.size) = us := ⟨_, rfl⟩
  rw [hus] at HN2 ⊢
  have hul := names_len (r.extract (i + 1) r.size)
  rw [hus] at hul
  obtain ⟨M, hM⟩ : ∃ M, us.length = M := ⟨_, rfl⟩
  rw [hM] at HN2 hul
  have HM := Lib.hid hM
  clear hus hM
  rw [hc] at HCo
  have hul2 : M ≤ 400002 := by simp at hul; omega
  have HRX := Lib.hid (rfl : r.extract (i + 1) r.size = r.extract (i + 1) r.size)
  have v1 : IntKind.i64.wrap ((i : Int) + 1) = ((i + 1 : Nat) : Int) := by rw [IntWalk.i64_in _ (by omega)]; omega
  have v2 : i ≤ r.size := by omega
  have v2' : (i : Int) ≤ r.size := by omega
  have v3 : i + 1 ≤ r.size := by omega
  have hpz : (r.extract 0 i).size ≤ 1000000 := by simp; omega
  clear hul hc
  obtain ⟨ts, hts⟩ : ∃ ts, namesB l = ts := ⟨_, rfl⟩
  have hnz := names_sz l
  have hnl := names_len l
  rw [hts] at HN1 hnz hnl hT ⊢
  obtain ⟨N, hNN⟩ : ∃ N, ts.length = N := ⟨_, rfl⟩
  rw [hNN] at HN1 hnl
  have hN0 : ¬ N = 0 := by omega
  have hN0' : ((N : Int) == 0) = false := beq_eq_false_iff_ne.2 (by omega)
  obtain ⟨SE, hSE⟩ : ∃ SE, statE (r.extract 0 i) ts = SE := ⟨_, rfl⟩
  obtain ⟨SS, hSS0⟩ : ∃ SS, statS (r.extract 0 i) = SS := ⟨_, rfl⟩
  rw [hSE, hSS0]
  have HSE := Lib.hid hSE
  have HSS0 := Lib.hid hSS0
  clear hts hSE hSS0
  go_enter Tryd.func42, Tryd.ntmps42
  go_wp2_with fail
  refine (HN1.out _).mono ?_
  rintro e w1 ⟨v1, rfl, ho1, hb1⟩
  obtain ⟨A1, c1, rfl, hc1, _⟩ := ho1.form
  have hs1 : w.heap.size + 1 ≤ w1.heap.size := by have := hb1.size; simpa using this
  have hr1 : w1.heap[w.heap.size]? = some (.cells #[.slice none 0 0, .slice none 0 0, .slice none 0 0, .bool false, .bool false, .bool false, .string ⟨#[]⟩, .slice none 0 0, .bool false, .string ⟨#[]⟩, .bool false, .slice none 0 0, .slice none 0 0] 73 (0, 0)) := (hb1.block _ (by simp)).trans (World.alloc_heap_new w _)
  have hB1 : Below w.heap.size w w1 := ((Below.refl _ w).alloc (Nat.le_refl _) _).trans (hb1.mono (by simp))
  have hS1 : StrSl w1 w.heap.size (.slice A1 N c1) ts := hNN ▸ (StrSl.of (hNN.symm ▸ ho1)).lower (by simp)
  obtain ⟨k0, f0⟩ := rowc hr1 (j := 0) rfl
  obtain ⟨k3, f3⟩ := rowc hr1 (j := 3) rfl
  clear hb1 ho1
  go_upto_region 4 with fail
  obtain ⟨w2, hw2⟩ : ∃ w2, (w1.setCell ⟨w.heap.size, 0, none⟩ (.slice A1 N c1)).setCell ⟨w.heap.size, 3, none⟩ (.bool d) = w2 := ⟨_, rfl⟩
  rw [hw2]
  have hra := heap_setCell_same w1 w.heap.size 0 _ 73 (.slice A1 N c1) hr1
  have hr2 : w2.heap[w.heap.size]? = some (.cells #[.slice A1 N c1, .slice none 0 0, .slice none 0 0, .bool d, .bool false, .bool false, .string ⟨#[]⟩, .slice none 0 0, .bool false, .string ⟨#[]⟩, .bool false, .slice none 0 0, .slice none 0 0] 73 (0, 0)) := by
    have := heap_setCell_same _ w.heap.size 3 _ 73 (.bool d) hra
    rw [hw2] at this; simpa using this
  have hB2 : Below w.heap.size w w2 := by rw [← hw2]; exact (hB1.setCell (p := ⟨w.heap.size, 0, none⟩) (Nat.le_refl _) _).setCell (p := ⟨w.heap.size, 3, none⟩) (Nat.le_refl _) _
  have hS2 : StrSl w2 w.heap.size (.slice A1 N c1) ts := by rw [← hw2]; exact (hS1.set73 hr1 0 _).set73 hra 3 _
  clear hw2 hra hr1 hB1 hS1 k0 f0 k3 f3
  obtain ⟨k0, f0⟩ := rowc hr2 (j := 0) rfl
  have HR2 := Lib.hid hr2
  have HB2 := Lib.hid hB2
  have HS2 := Lib.hid hS2
  have hsz2 : w.heap.size < w2.heap.size := lt_of_block hr2
  clear hr2 hB2 hS2
  have hm2 : w2.cell? ⟨1, 0, none⟩ = some (.int .i64 m) := by rw [HB2.out.cell (p := ⟨1, 0, none⟩) hw]; exact hm
  have HC2 := Lib.hid (HCo.out w2 (by omega) hm2)
  go_wp2_with fail
  refine HC2.out.mono ?_
  rintro e w3 ⟨rfl, hb3⟩
  have hr3 := (hb3.block _ hsz2).trans HR2.out
  have hB3 := HB2.out.trans (hb3.mono (by omega))
  have hS3 := HS2.out.below hb3
  have hsz3 : w.heap.size < w3.heap.size := lt_of_block hr3
  clear hb3 HC2 HR2 HB2 HS2 hm2 k0 f0
  have HST := Lib.hid (static_any w3.drew w.heap.size _ (r.extract 0 i) w.heap.size (.slice A1 N c1) ts (show w3.drew.heap[w.heap.size]? = _ from hr3) rfl (show StrSl w3.drew _ _ _ from hS3) (by omega) (fun t ht => Nat.le_trans (hnz t ht) (by omega)) hpz)
  have hstC := statC_row (r.extract 0 i) (.slice A1 N c1) (.slice none 0 0) (.slice none 0 0) d false false (.slice none 0 0) (.slice none 0 0)
  unfold bRow at hstC
  have HSTC := Lib.hid hstC
  rw [HSE.out] at HST
  rw [HSS0.out] at HSTC
  obtain ⟨k0, f0⟩ := rowc hr3 (j := 0) rfl
  have HR3 := Lib.hid hr3
  have HB3 := Lib.hid hB3
  have HS3 := Lib.hid hS3
  clear hr3 hB3 hS3 hstC
  go_wp2
  first | (go_region_law (first
    | (go_simp; go_at_call 74; refine HST.out.mono ?_; rintro e w4 ⟨rfl, hb4, hk4, hr4⟩)
    | fail)) | fail
  all_goals
    rw [show statC (r.extract 0 i) _ = _ from HSTC.out] at hr4
    have hB4 : Below w.heap.size w w4 := HB3.out.drew.trans hb4
    have hS4 : StrSl w4 w.heap.size (.slice A1 N c1) ts := HS3.out.keep HR3.out hk4
    have HRS := Lib.hid hr4
    have HBS := Lib.hid hB4
    have HSS := Lib.hid hS4
    have hszS : w.heap.size < w4.heap.size := lt_of_block hr4
    clear hr4 hB4 hS4 hb4 hk4 HR3 HB3 HS3 HST k0 f0
    obtain ⟨rr, hrr⟩ : ∃ rr, r.extract (i + 1) r.size = rr := ⟨_, rfl⟩
    rw [hrr] at HN2
    go_wp2_with fail
    refine (HN2.out _).mono ?_
    rintro e w5 ⟨v5, rfl, ho5, hb5⟩
    obtain ⟨A5, c5, rfl, hc5, _⟩ := ho5.form
    have hs5 : StrSl w5 w.heap.size (.slice A5 M c5) us := HM.out ▸ (StrSl.of (HM.out.symm ▸ ho5)).lower (by omega)
    have hr5 := (hb5.block _ hszS).trans HRS.out
    have hB5 := HBS.out.trans (hb5.mono (by omega))
    have hT5 := HSS.out.below hb5
    have HSP := Lib.hid (split_any w5 w.heap.size (.slice A5 M c5) us hs5 (by have := HM.out; omega))
    have HR5 := Lib.hid hr5
    have HB5 := Lib.hid hB5
    have HT5 := Lib.hid hT5
    have hsz5 : w.heap.size < w5.heap.size := lt_of_block hr5
    clear ho5 hb5 hs5 hr5 hB5 hT5 HRS HBS HSS
    go_wp2_with fail
    refine HSP.out.mono ?_
    rintro e w6 ⟨vP, vO, rfl, hP6, hO6, hb6⟩
    obtain ⟨AP, cP, rfl, _, _⟩ := id hP6
    obtain ⟨AO, cO, rfl, _, _⟩ := id hO6
    obtain ⟨NP, hNP⟩ : ∃ NP, (halvesL us).1.length = NP := ⟨_, rfl⟩
    obtain ⟨NO, hNO⟩ : ∃ NO, (halvesL us).2.length = NO := ⟨_, rfl⟩
    rw [hNP] at hP6 ⊢
    rw [hNO] at hO6 ⊢
    clear hNP hNO
    have hr6 := (hb6.block _ hsz5).trans HR5.out
    have hB6 := HB5.out.trans (hb6.mono (by omega))
    have hT6 := HT5.out.below hb6
    obtain ⟨k11, f11⟩ := rowc hr6 (j := 11) rfl
    obtain ⟨k12, f12⟩ := rowc hr6 (j := 12) rfl
    have HR6 := Lib.hid hr6
    have HB6 := Lib.hid hB6
    have HT6 := Lib.hid hT6
    have HP6 := Lib.hid hP6
    have HO6 := Lib.hid hO6
    have hsz6 : w.heap.size < w6.heap.size := lt_of_block hr6
    clear hr6 hB6 hT6 hP6 hO6 hb6 HR5 HB5 HT5 HSP
    go_upto_region 15 with fail
    obtain ⟨w7, hw7⟩ : ∃ w7, (w6.setCell ⟨w.heap.size, 11, none⟩ (.slice AP NP cP)).setCell ⟨w.heap.size, 12, none⟩ (.slice AO NO cO) = w7 := ⟨_, rfl⟩
    rw [hw7]
    have hra := heap_setCell_same w6 w.heap.size 11 _ 73 (.slice AP NP cP) HR6.out
    have hr7 : w7.heap[w.heap.size]? = some (.cells #[.slice A1 N c1, .slice none 0 0, .slice none 0 0, .bool d, .bool false, .bool false, .string SS, .slice none 0 0, .bool false, .string ⟨#[]⟩, .bool false, (.slice AP NP cP), (.slice AO NO cO)] 73 (0, 0)) := by
      have := heap_setCell_same _ w.heap.size 12 _ 73 (.slice AO NO cO) hra
      rw [hw7] at this; simpa using this
    have hB7 : Below w.heap.size w w7 := by rw [← hw7]; exact (HB6.out.setCell (p := ⟨w.heap.size, 11, none⟩) (Nat.le_refl _) _).setCell (p := ⟨w.heap.size, 12, none⟩) (Nat.le_refl _) _
    have hT7 : StrSl w7 w.heap.size (.slice A1 N c1) ts := by rw [← hw7]; exact (HT6.out.set73 HR6.out 11 _).set73 hra 12 _
    have hP7 : StrSl w7 w.heap.size (.slice AP NP cP) (halvesL us).1 := by rw [← hw7]; exact (HP6.out.set73 HR6.out 11 _).set73 hra 12 _
    have hO7 : StrSl w7 w.heap.size (.slice AO NO cO) (halvesL us).2 := by rw [← hw7]; exact (HO6.out.set73 HR6.out 11 _).set73 hra 12 _
    clear hw7 hra k11 f11 k12 f12 HR6 HB6 HT6 HP6 HO6
    obtain ⟨k1, f1⟩ := rowc hr7 (j := 1) rfl
    obtain ⟨k2, f2⟩ := rowc hr7 (j := 2) rfl
    obtain ⟨k11, f11⟩ := rowc hr7 (j := 11) rfl
    obtain ⟨k12, f12⟩ := rowc hr7 (j := 12) rfl
    have HR7 := Lib.hid hr7
    have HFIN : Hid (∃ W8 : World, W8 = (w7.setCell ⟨w.heap.size, 1, none⟩ (.slice AP NP cP)).setCell ⟨w.heap.size, 2, none⟩ (.slice AO NO cO) ∧ W8.heap[w.heap.size]? = some (.cells (bRow (.slice A1 N c1) (.slice AP NP cP) (.slice AO NO cO) d false false SS (.slice AP NP cP) (.slice AO NO cO)) 73 (0, 0)) ∧ StrSl W8 w.heap.size (.slice A1 N c1) ts ∧ StrSl W8 w.heap.size (.slice AP NP cP) (halvesL us).1 ∧ StrSl W8 w.heap.size (.slice AO NO cO) (halvesL us).2 ∧ Below w.heap.size w W8) := by
      have hra := heap_setCell_same w7 w.heap.size 1 _ 73 (.slice AP NP cP) hr7
      have hrb := heap_setCell_same _ w.heap.size 2 _ 73 (.slice AO NO cO) hra
      refine ⟨_, rfl, by simpa [bRow] using hrb, (hT7.set73 hr7 1 _).set73 hra 2 _, (hP7.set73 hr7 1 _).set73 hra 2 _, (hO7.set73 hr7 1 _).set73 hra 2 _, (hB7.setCell (p := ⟨w.heap.size, 1, none⟩) (Nat.le_refl _) _).setCell (p := ⟨w.heap.size, 2, none⟩) (Nat.le_refl _) _⟩
    clear hr7 hB7 hT7 hP7 hO7
    go_region
    all_goals go_wp2
    all_goals go_ret2
    obtain ⟨W8, hW8, g1, g2, g3, g4, g5⟩ := HFIN.out
    subst hW8
    first | exact ⟨rfl, (.slice A1 N c1), (.slice AP NP cP), (.slice AO NO cO), g1, g2, g3, g4, g5.drew⟩ | exact ⟨(.slice A1 N c1), (.slice AP NP cP), (.slice AO NO cO), rfl, g1, g2, g3, g4, g5.drew⟩
end Go.Proofs.YtmcemaphhlcjfaaDoor
