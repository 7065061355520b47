/- RuleMakes answers true at every two sides; conditions: texts that lie in memory, the library's one number in its cell. -/
import Derived.Test.YtmcemaphhlcjfaaDoorRAlive
import Derived.Test.YtmcemaphhlcjfaaDoorMakeR
import Derived.Test.YtmcemaphhlcjfaaDoorSame49
namespace Go.Proofs.YtmcemaphhlcjfaaDoor
open Go.RowKit

theorem mk_open {w W' : World} {e : Ending} {T P O L : List ByteArray} {d p t : Bool} {st : ByteArray} {n : Int} (h : MkQ w ⟨T, P, O, L, d, p, t, st, n⟩ e W') :
    ∃ AT cT AP cP AO cO AL cL, e = .returned (.tuple #[.agg #[.slice AT T.length cT, .slice AP P.length cP, .slice AO O.length cO, .bool d, .bool p, .bool t, .string st, .slice none 0 0, .bool false, .string ⟨#[]⟩, .bool false], .slice AL L.length cL, .int .i64 n]) ∧
      StrSl W' w.heap.size (.slice AT T.length cT) T ∧ StrSl W' w.heap.size (.slice AP P.length cP) P ∧ StrSl W' w.heap.size (.slice AO O.length cO) O ∧ StrSl W' w.heap.size (.slice AL L.length cL) L ∧ Below w.heap.size w W' := by
  obtain ⟨vT, vP, vO, vL, he, hT, hP, hO, hL, hb⟩ := h
  obtain ⟨AT, cT, rfl, _, _⟩ := id hT
  obtain ⟨AP, cP, rfl, _, _⟩ := id hP
  obtain ⟨AO, cO, rfl, _, _⟩ := id hO
  obtain ⟨AL, cL, rfl, _, _⟩ := id hL
  exact ⟨AT, cT, AP, cP, AO, cO, AL, cL, he, hT, hP, hO, hL, hb⟩
theorem halvesL_len : ∀ xs : List ByteArray, (halvesL xs).1.length ≤ xs.length ∧ (halvesL xs).2.length ≤ xs.length
  | [] => ⟨Nat.le_refl _, Nat.le_refl _⟩
  | x :: l => by
    have := halvesL_len l
    rw [halvesL]; split <;> simp <;> omega
theorem makeP_len (l r : ByteArray) (d : Bool) (hl : l.size ≤ 400000) (hr : r.size ≤ 400000) :
    (makeP l r d).T.length ≤ 1000000 ∧ (makeP l r d).P.length ≤ 1000000 ∧ (makeP l r d).O.length ≤ 1000000 ∧ (makeP l r d).L.length ≤ 1000000 := by
  have h1 := names_len l
  have h2 := halvesL_len (namesB r)
  have h3 := names_len r
  have h4 := halvesL_len (namesB (r.extract ((colonB r).toNat + 1) r.size))
  have h5 := names_len (r.extract ((colonB r).toNat + 1) r.size)
  have h6 : (r.extract ((colonB r).toNat + 1) r.size).size ≤ r.size := by simp
  unfold makeP
  split
  · simp [errP]
  · split
    · split
      · simp [errP]
      · refine ⟨?_, ?_, ?_, ?_⟩ <;> simp only <;> omega
    · split
      · simp [errP]
      · refine ⟨?_, ?_, ?_, ?_⟩ <;> simp only <;> (try split) <;> (try simp only [List.length_nil]) <;> omega

set_option maxRecDepth 100000 in
set_option maxHeartbeats 8000000 in
theorem RuleMakes_law (l r : ByteArray) (d : Bool) (w : World) (hl : l.size ≤ 140737488351232) (hr : r.size ≤ 140737488351232) (hw : 1 < w.heap.size) (m : Int) (hm : w.cell? ⟨1, 0, none⟩ = some (.int .i64 m)) :
    Calls Tryd.prog 4 #[.string l, .string r, .bool d] w fun e w' => e = .returned (.bool true) ∧ Below w.heap.size w w' := by
  have HA := Lib.hid (ruleAlive w hw m hm)
  by_cases hz : 5000 < l.size
  · have q : (5000 : Int) < l.size := by omega
    go_enter Tryd.func4, Tryd.ntmps4
    go_wp2_with fail
    refine HA.out.mono ?_
    rintro e w1 ⟨rfl, hb1⟩
    go_wp2
    go_ret
    exact ⟨rfl, hb1⟩
  · have q : ¬ (5000 : Int) < l.size := by omega
    by_cases hz2 : 5000 < r.size
    · have q2 : (5000 : Int) < r.size := by omega
      go_enter Tryd.func4, Tryd.ntmps4
      go_wp2_with fail
      refine HA.out.mono ?_
      rintro e w1 ⟨rfl, hb1⟩
      go_wp2
      go_ret
      exact ⟨rfl, hb1⟩
    · have q2 : ¬ (5000 : Int) < r.size := by omega
      have HL1 := makeP_len l r d (by omega) (by omega)
      have HL2 := makeP_len r l d (by omega) (by omega)
      have HM1 := Lib.hid fun (w1 : World) (h1 : 1 < w1.heap.size) (h2 : w1.cell? ⟨1, 0, none⟩ = some (.int .i64 m)) => Make_any l r d w1 (by omega) (by omega) h1 m h2
      have HM2 := Lib.hid fun (w1 : World) (h1 : 1 < w1.heap.size) (h2 : w1.cell? ⟨1, 0, none⟩ = some (.int .i64 m)) => Make_any r l d w1 (by omega) (by omega) h1 m h2
      have HM3 := Lib.hid fun (w1 : World) => MakeR_any l r d w1 (by omega) (by omega)
      obtain ⟨X, hX⟩ : ∃ X, makeP l r d = X := ⟨_, rfl⟩
      obtain ⟨Y, hY⟩ : ∃ Y, makeP r l d = Y := ⟨_, rfl⟩
      rw [hX] at HM1 HM3 HL1
      rw [hY] at HM2 HL2
      clear hX hY hl hr hz hz2
      obtain ⟨T, P, O, L, d1, p1, t1, st1, n1⟩ := X
      obtain ⟨T2, P2, O2, L2, d2, p2, t2, st2, n2⟩ := Y
      obtain ⟨lT, lP, lO, lL⟩ := HL1
      obtain ⟨lT2, lP2, lO2, lL2⟩ := HL2
      simp only at lT lP lO lL lT2 lP2 lO2 lL2
      go_enter Tryd.func4, Tryd.ntmps4
      go_wp2_with fail
      refine HA.out.mono ?_
      rintro e w1 ⟨rfl, hb1⟩
      have hw1 : 1 < w1.heap.size := by have := hb1.size; omega
      have hm1 : w1.cell? ⟨1, 0, none⟩ = some (.int .i64 m) := by rw [hb1.cell (p := ⟨1, 0, none⟩) hw]; exact hm
      have HB1 := Lib.hid hb1
      have HMa := Lib.hid (HM1.out w1 hw1 hm1)
      clear hb1 hw1 hm1
      go_wp2_with fail
      refine HMa.out.mono ?_
      rintro e w2 hq
      obtain ⟨AT, cT, AP, cP, AO, cO, AL, cL, rfl, hT, hP, hO, hL, hb2⟩ := mk_open hq
      have hB2 : Below w.heap.size w w2 := HB1.out.trans (hb2.mono HB1.out.size)
      have hs12 : w1.heap.size ≤ w2.heap.size := hb2.size
      have HH := Lib.hid (show StrSl w2 w1.heap.size _ T ∧ StrSl w2 w1.heap.size _ P ∧ StrSl w2 w1.heap.size _ O ∧ StrSl w2 w1.heap.size _ L from ⟨hT, hP, hO, hL⟩)
      have HB2 := Lib.hid hB2
      have hwN := Lib.hid (show ∀ o : Obj, 1 < (w2.alloc o).heap.size ∧ (w2.alloc o).cell? ⟨1, 0, none⟩ = some (.int .i64 m) from fun o => by
        have hb := hB2.alloc hB2.size o
        exact ⟨by have := hb.size; omega, by rw [hb.cell (p := ⟨1, 0, none⟩) hw]; exact hm⟩)
      clear hT hP hO hL hb2 hB2 hq HMa HB1
      go_wp2_with fail
      obtain ⟨w3, hw3⟩ : ∃ w3, w2.alloc (.cells #[.slice AT T.length cT, .slice AP P.length cP, .slice AO O.length cO, .bool d1, .bool p1, .bool t1, .string st1, .slice none 0 0, .bool false, .string ⟨#[]⟩, .bool false] 29) = w3 := ⟨_, rfl⟩
      have hN := hwN.out (.cells #[.slice AT T.length cT, .slice AP P.length cP, .slice AO O.length cO, .bool d1, .bool p1, .bool t1, .string st1, .slice none 0 0, .bool false, .string ⟨#[]⟩, .bool false] 29)
      rw [hw3] at hN ⊢
      have hr3 : w3.heap[w2.heap.size]? = some (.cells #[.slice AT T.length cT, .slice AP P.length cP, .slice AO O.length cO, .bool d1, .bool p1, .bool t1, .string st1, .slice none 0 0, .bool false, .string ⟨#[]⟩, .bool false] 29 (0, 0)) := by rw [← hw3]; exact World.alloc_heap_new w2 _
      have hb3 : Below w2.heap.size w2 w3 := by rw [← hw3]; exact (Below.refl _ w2).alloc (Nat.le_refl _) _
      have hs23 : w2.heap.size < w3.heap.size := lt_of_block hr3
      have HR3 := Lib.hid hr3
      have HC3 := Lib.hid hb3
      have HMb := Lib.hid (HM2.out w3 hN.1 hN.2)
      clear hw3 hr3 hb3 hN hwN
      refine HMb.out.mono ?_
      rintro e w4 hq
      obtain ⟨BT, eT, BP, eP, BO, eO, BL, eL, rfl, gT, gP, gO, _, hb4⟩ := mk_open hq
      have HS := Lib.hid (show SlotSl w4 w3.heap.size _ ∧ SlotSl w4 w3.heap.size _ ∧ SlotSl w4 w3.heap.size _ from ⟨SlotSl.of gT (by omega), SlotSl.of gP (by omega), SlotSl.of gO (by omega)⟩)
      have HR4 := Lib.hid ((hb4.block _ hs23).trans HR3.out)
      have HC4 := Lib.hid (HC3.out.trans (hb4.mono (by omega)))
      have hs34 : w3.heap.size ≤ w4.heap.size := hb4.size
      clear gT gP gO hb4 hq HMb HR3 HC3
      generalize T2.length = NT2 at *
      generalize P2.length = NP2 at *
      generalize O2.length = NO2 at *
      go_upto_region 6 with fail
      obtain ⟨w5, hw5⟩ : ∃ w5, w4.alloc (.cells #[.slice BT NT2 eT, .slice BP NP2 eP, .slice BO NO2 eO, .bool d2, .bool p2, .bool t2, .string st2, .slice none 0 0, .bool false, .string ⟨#[]⟩, .bool false] 29) = w5 := ⟨_, rfl⟩
      rw [hw5]
      have hr5 : w5.heap[w4.heap.size]? = some (.cells #[.slice BT NT2 eT, .slice BP NP2 eP, .slice BO NO2 eO, .bool d2, .bool p2, .bool t2, .string st2, .slice none 0 0, .bool false, .string ⟨#[]⟩, .bool false] 29 (0, 0)) := by rw [← hw5]; exact World.alloc_heap_new w4 _
      have hb5 : Below w4.heap.size w4 w5 := by rw [← hw5]; exact (Below.refl _ w4).alloc (Nat.le_refl _) _
      have hk5 : Kin w4 w5 := ⟨fun g cs h => ⟨cs, (hb5.block g (lt_of_block h)).trans h, rfl⟩, fun g cs t _ h => (hb5.block g (lt_of_block h)).trans h⟩
      have HS5 := Lib.hid (show SlotSl w5 w3.heap.size _ ∧ SlotSl w5 w3.heap.size _ ∧ SlotSl w5 w3.heap.size _ from ⟨HS.out.1.kin hk5, HS.out.2.1.kin hk5, HS.out.2.2.kin hk5⟩)
      have HR5 := Lib.hid ((hb5.block _ (by omega)).trans HR4.out)
      have HC5 := Lib.hid (HC4.out.trans (hb5.mono (by omega)))
      have HD5 := Lib.hid hr5
      obtain ⟨a0, _⟩ := rowc hr5 (j := 0) rfl
      clear hw5 hr5 hb5 hk5 HS HR4 HC4
      go_wp2_with fail
      refine (Wipe_any w5 w3.heap.size _ HS5.out.1).mono ?_
      rintro e w6 ⟨rfl, hb6, hk6⟩
      have HR6 := Lib.hid ((hb6.block _ hs23).trans HR5.out)
      have HC6 := Lib.hid (HC5.out.trans (hb6.mono (by omega)))
      have HD6 := Lib.hid (hk6.2 _ _ _ (by decide) HD5.out)
      have HS6 := Lib.hid (show SlotSl w6 w3.heap.size _ ∧ SlotSl w6 w3.heap.size _ from ⟨HS5.out.2.1.kin hk6, HS5.out.2.2.kin hk6⟩)
      obtain ⟨a1, _⟩ := rowc HD6.out (j := 1) rfl
      clear hb6 hk6 a0 HR5 HC5 HD5 HS5
      go_wp2_with fail
      refine (Wipe_any w6 w3.heap.size _ HS6.out.1).mono ?_
      rintro e w7 ⟨rfl, hb7, hk7⟩
      have HR7 := Lib.hid ((hb7.block _ hs23).trans HR6.out)
      have HC7 := Lib.hid (HC6.out.trans (hb7.mono (by omega)))
      have HD7 := Lib.hid (hk7.2 _ _ _ (by decide) HD6.out)
      have HS7 := Lib.hid (HS6.out.2.kin hk7)
      obtain ⟨a2, _⟩ := rowc HD7.out (j := 2) rfl
      clear hb7 hk7 a1 HR6 HC6 HD6 HS6
      go_wp2_with fail
      refine (Wipe_any w7 w3.heap.size _ HS7.out).mono ?_
      rintro e w8 ⟨rfl, hb8, _⟩
      have HR8 := Lib.hid ((hb8.block _ hs23).trans HR7.out)
      have HC8 := Lib.hid (HC7.out.trans (hb8.mono (by omega)))
      have hs8 : w2.heap.size < w8.heap.size := lt_of_block HR8.out
      clear hb8 a2 HR7 HC7 HD7 HS7
      go_wp2_with fail
      refine (HM3.out w8).mono ?_
      rintro e w9 hq
      obtain ⟨CT, fT, CP, fP, CO, fO, CL, fL, rfl, kT, kP, kO, kL, hb9⟩ := mk_open hq
      have HR9 := Lib.hid ((hb9.block _ hs8).trans HR8.out)
      have hc9 := HC8.out.trans (hb9.mono (by omega))
      have HC9 := Lib.hid hc9
      have HJ := Lib.hid (show (StrSl w9 w1.heap.size _ T ∧ StrSl w9 w1.heap.size _ P ∧ StrSl w9 w1.heap.size _ O ∧ StrSl w9 w1.heap.size _ L) ∧ (StrSl w9 w8.heap.size _ T ∧ StrSl w9 w8.heap.size _ P ∧ StrSl w9 w8.heap.size _ O ∧ StrSl w9 w8.heap.size _ L) from
        ⟨⟨HH.out.1.below hc9, HH.out.2.1.below hc9, HH.out.2.2.1.below hc9, HH.out.2.2.2.below hc9⟩, kT, kP, kO, kL⟩)
      have hs9 : w2.heap.size < w9.heap.size := lt_of_block HR9.out
      clear kT kP kO kL hb9 hc9 hq HC8 HR8 HH
      have HSame := Lib.hid fun (W : World) A B ca cb (h1 : StrsAt W A L) (h2 : StrsAt W B L) => Same_any W A B ca cb L L h1 h2 (by omega)
      rw [sameL_self] at HSame
      generalize T.length = NT at *
      generalize P.length = NP at *
      generalize O.length = NO at *
      generalize L.length = NL at *
      go_wp2_with fail
      refine (numRule_any n1 _).mono ?_
      rintro e w10 ⟨rfl, hw10⟩
      have hr10 : w10.heap[w9.heap.size]? = some (.cells #[.slice CT NT fT, .slice CP NP fP, .slice CO NO fO, .bool d1, .bool p1, .bool t1, .string st1, .slice none 0 0, .bool false, .string ⟨#[]⟩, .bool false] 29 (0, 0)) := by rw [hw10]; exact World.alloc_heap_new w9 _
      have hb10 : Below w9.heap.size w9 w10 := by rw [hw10]; exact (Below.refl _ w9).alloc (Nat.le_refl _) _
      have hr1 := (hb10.block _ hs9).trans HR9.out
      have HC10 := Lib.hid (HC9.out.trans (hb10.mono (by omega)))
      have HJ10 := Lib.hid (show (StrSl w10 w1.heap.size _ T ∧ StrSl w10 w1.heap.size _ P ∧ StrSl w10 w1.heap.size _ O ∧ StrSl w10 w1.heap.size _ L) ∧ (StrSl w10 w8.heap.size _ T ∧ StrSl w10 w8.heap.size _ P ∧ StrSl w10 w8.heap.size _ O ∧ StrSl w10 w8.heap.size _ L) from
        ⟨⟨HJ.out.1.1.below hb10, HJ.out.1.2.1.below hb10, HJ.out.1.2.2.1.below hb10, HJ.out.1.2.2.2.below hb10⟩, HJ.out.2.1.below hb10, HJ.out.2.2.1.below hb10, HJ.out.2.2.2.1.below hb10, HJ.out.2.2.2.2.below hb10⟩)
      obtain ⟨a0, _⟩ := rowc hr1 (j := 0) rfl
      obtain ⟨b0, _⟩ := rowc hr10 (j := 0) rfl
      obtain ⟨a1, _⟩ := rowc hr1 (j := 1) rfl
      obtain ⟨b1, _⟩ := rowc hr10 (j := 1) rfl
      obtain ⟨a2, _⟩ := rowc hr1 (j := 2) rfl
      obtain ⟨b2, _⟩ := rowc hr10 (j := 2) rfl
      obtain ⟨a3, _⟩ := rowc hr1 (j := 3) rfl
      obtain ⟨b3, _⟩ := rowc hr10 (j := 3) rfl
      obtain ⟨a4, _⟩ := rowc hr1 (j := 4) rfl
      obtain ⟨b4, _⟩ := rowc hr10 (j := 4) rfl
      obtain ⟨a5, _⟩ := rowc hr1 (j := 5) rfl
      obtain ⟨b5, _⟩ := rowc hr10 (j := 5) rfl
      obtain ⟨a6, _⟩ := rowc hr1 (j := 6) rfl
      obtain ⟨b6, _⟩ := rowc hr10 (j := 6) rfl
      obtain ⟨a7, _⟩ := rowc hr1 (j := 7) rfl
      obtain ⟨b7, _⟩ := rowc hr10 (j := 7) rfl
      obtain ⟨a8, _⟩ := rowc hr1 (j := 8) rfl
      obtain ⟨b8, _⟩ := rowc hr10 (j := 8) rfl
      obtain ⟨a9, _⟩ := rowc hr1 (j := 9) rfl
      obtain ⟨b9, _⟩ := rowc hr10 (j := 9) rfl
      obtain ⟨a10, _⟩ := rowc hr1 (j := 10) rfl
      obtain ⟨b10, _⟩ := rowc hr10 (j := 10) rfl
      clear hw10 hr10 hb10 hr1 HJ HC9 HR9
      go_wp2_with fail
      refine (SameRule_any w10 w1.heap.size w8.heap.size AT AP AO CT CP CO cT cP cO fT fP fO NT NP NO T P O d1 p1 t1 st1 HJ10.out.1.1 HJ10.out.1.2.1 HJ10.out.1.2.2.1 HJ10.out.2.1 HJ10.out.2.2.1 HJ10.out.2.2.2.1 (by omega) (by omega) (by omega)).mono ?_
      rintro e w11 ⟨rfl, hb11⟩
      have hL1 := HJ10.out.1.2.2.2.below hb11
      have hL2 := HJ10.out.2.2.2.2.below hb11
      have HC11 := Lib.hid (HC10.out.trans (hb11.mono HC10.out.size))
      clear hb11
      go_wp2_with fail
      refine (HSame.out _ _ _ _ _ hL1.at_.2.2 hL2.at_.2.2).mono ?_
      rintro e w12 ⟨rfl, hb12⟩
      have hB := HB2.out.trans ((HC11.out.trans (hb12.mono HC11.out.size)).mono HB2.out.size)
      go_wp2
      go_ret
      exact ⟨rfl, hB⟩
end Go.Proofs.YtmcemaphhlcjfaaDoor
