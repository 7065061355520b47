/- The rule that two sides make, in the reference; conditions: texts of at most 400,000 bytes. -/
import Derived.Test.YtmcemaphhlcjfaaDoorMakeA
namespace Go.Proofs.YtmcemaphhlcjfaaDoor
open Go.RowKit
set_option maxRecDepth 100000 in
set_option maxHeartbeats 4000000 in
theorem makeR_sep (l r : ByteArray) (d : Bool) (w : World) (hl : l.size ≤ 400000) (_ : r.size ≤ 400000) (hT : (namesB l).length = 0) :
    Calls Tryd.prog 15 #[.string l, .string r, .bool d] w fun e W' => MkQ w (makeP l r d) e W' := by
  have HN1 := Lib.hid fun w => NamesR_any l (by omega) w
  have hX : makeP l r d = errP 50 := by unfold makeP; rw [if_pos hT]
  generalize makeP l r d = X at *
  have HX := Lib.hid hX
  obtain ⟨ts, hts⟩ : ∃ ts, namesB l = ts := ⟨_, rfl⟩
  rw [hts] at HN1 hT
  rw [hT] at HN1
  clear hts hX
  go_enter Tryd.func15, Tryd.ntmps15
  go_wp2_with fail
  refine (HN1.out _).mono ?_
  rintro e w1 ⟨v1, rfl, ho1, hb1⟩
  obtain ⟨A1, c1, rfl, hc1, _⟩ := ho1.form
  have hr1 : w1.heap[w.heap.size]? = some (.cells #[.slice none 0 0, .slice none 0 0, .slice none 0 0, .bool false, .bool false, .bool false, .string ⟨#[]⟩, .slice none 0 0, .bool false, .string ⟨#[]⟩, .bool false] 29 (0, 0)) := (hb1.block _ (by simp)).trans (World.alloc_heap_new w _)
  have HB1 : Hid (Below w.heap.size w w1) := ((Below.refl _ w).alloc (Nat.le_refl _) _).trans (hb1.mono (by simp))
  have HR1 := Lib.hid hr1
  obtain ⟨a0, af0⟩ := rowc hr1 (j := 0) rfl
  obtain ⟨a1, af1⟩ := rowc hr1 (j := 1) rfl
  obtain ⟨a2, af2⟩ := rowc hr1 (j := 2) rfl
  obtain ⟨a3, af3⟩ := rowc hr1 (j := 3) rfl
  obtain ⟨a4, af4⟩ := rowc hr1 (j := 4) rfl
  obtain ⟨a5, af5⟩ := rowc hr1 (j := 5) rfl
  obtain ⟨a6, af6⟩ := rowc hr1 (j := 6) rfl
  obtain ⟨a7, af7⟩ := rowc hr1 (j := 7) rfl
  obtain ⟨a8, af8⟩ := rowc hr1 (j := 8) rfl
  obtain ⟨a9, af9⟩ := rowc hr1 (j := 9) rfl
  obtain ⟨a10, af10⟩ := rowc hr1 (j := 10) rfl
  clear ho1 hb1 hr1
  go_wp2
  refine bodyPost_ret (results_c3 (t := 6) (i := 7) (j := 8) (by kernel_rfl) rfl (load11 (set11 HR1.out (.slice none 0 0) (.slice none 0 0) (.slice none 0 0) (.bool false) (.bool false) (.bool false) (.string ⟨#[]⟩) (.slice none 0 0) (.bool false) (.string ⟨#[]⟩) (.bool false))) rfl rfl) rfl ?_
  rw [HX.out]; exact ⟨_, _, _, _, rfl, StrSl.nil _ _, StrSl.nil _ _, StrSl.nil _ _, StrSl.nil _ _, put11_below HB1.out (Nat.le_refl _) _ _ _ _ _ _ _ _ _ _ _⟩
set_option maxRecDepth 100000 in
set_option maxHeartbeats 4000000 in
theorem makeR_impl (l r : ByteArray) (d : Bool) (w : World) (hl : l.size ≤ 400000) (hr : r.size ≤ 400000) (hT : (namesB l).length ≠ 0) (hc : colonB r < 0) :
    Calls Tryd.prog 15 #[.string l, .string r, .bool d] w fun e W' => MkQ w (makeP l r d) e W' := by
  have HN1 := Lib.hid fun w => NamesR_any l (by omega) w
  have HN2 := Lib.hid fun w => NamesR_any r (by omega) w
  have HX : Hid ((0 < cntP (namesB l) → cntP (namesB l) ≠ (namesB l).length → makeP l r d = errP 55) ∧ (¬ 0 < cntP (namesB l) → makeP l r d = ⟨namesB l, (halvesL (namesB r)).1, (halvesL (namesB r)).2, namesB l, d, false, false, ⟨#[]⟩, 0⟩) ∧ (0 < cntP (namesB l) → cntP (namesB l) = (namesB l).length → makeP l r d = ⟨namesB l, (halvesL (namesB r)).1, (halvesL (namesB r)).2, [], false, true, d, ⟨#[]⟩, 0⟩)) := by
    refine ⟨fun h1 h2 => ?_, fun h1 => ?_, fun h1 h2 => ?_⟩
    · have e : implN (namesB l) = 55 := by unfold implN; rw [if_pos ⟨h1, by have := cnt_le (namesB l); omega⟩]
      unfold makeP; rw [if_neg hT, if_neg (by omega), if_pos (by rw [e]; decide), e]
    · have e : implN (namesB l) = 0 := by unfold implN; rw [if_neg (fun h => h1 h.1)]
      unfold makeP; rw [if_neg hT, if_neg (by omega), if_neg (by rw [e]; simp), decide_eq_false h1]; simp
    · have e : implN (namesB l) = 0 := by unfold implN; rw [if_neg (fun h => by omega)]
      unfold makeP; rw [if_neg hT, if_neg (by omega), if_neg (by rw [e]; simp), decide_eq_true h1]; simp
  generalize makeP l r d = X at *
  obtain ⟨us, hus⟩ : ∃ us, namesB r = us := ⟨_, rfl⟩
  have hul := names_len r
  rw [hus] at HN2 hul
  simp only [hus] at HX
  obtain ⟨M, hM⟩ : ∃ M, us.length = M := ⟨_, rfl⟩
  rw [hM] at HN2 hul
  have HM := Lib.hid hM
  clear hus hM
  have HCo := Lib.hid fun w => colonR_any r (by omega) w
  obtain ⟨C0, hC0⟩ : ∃ C0, colonB r = C0 := ⟨_, rfl⟩
  rw [hC0] at HCo hc
  clear hC0
  obtain ⟨ts, hts⟩ : ∃ ts, namesB l = ts := ⟨_, rfl⟩
  have hnz := names_sz l
  have hnl := names_len l
  rw [hts] at HN1 hnz hnl hT
  simp only [hts] at HX
  obtain ⟨N, hNN⟩ : ∃ N, ts.length = N := ⟨_, rfl⟩
  rw [hNN] at HN1 hnl
  have hN0 : ¬ N = 0 := by omega
  have hN0' : ((N : Int) == 0) = false := beq_eq_false_iff_ne.2 (by omega)
  have HZ : Hid (∀ x ∈ ts, x.size ≤ 140737488351232) := fun x hx => by have := hnz x hx; omega
  have HNN := Lib.hid hNN
  clear hts hnz hNN hT
  go_enter Tryd.func15, Tryd.ntmps15
  go_wp2_with fail
  refine (HN1.out _).mono ?_
  rintro e w1 ⟨v1, rfl, ho1, hb1⟩
  obtain ⟨A1, c1, rfl, hc1, _⟩ := ho1.form
  have hr1 : w1.heap[w.heap.size]? = some (.cells #[.slice none 0 0, .slice none 0 0, .slice none 0 0, .bool false, .bool false, .bool false, .string ⟨#[]⟩, .slice none 0 0, .bool false, .string ⟨#[]⟩, .bool false] 29 (0, 0)) := (hb1.block _ (by simp)).trans (World.alloc_heap_new w _)
  have HB1 : Hid (Below w.heap.size w w1) := ((Below.refl _ w).alloc (Nat.le_refl _) _).trans (hb1.mono (by simp))
  have HT1 : Hid (StrSl w1 w.heap.size (.slice A1 N c1) ts) := HNN.out ▸ (StrSl.of (HNN.out.symm ▸ ho1)).lower (by simp)
  have HAT := Lib.hid HT1.out.at_.2.2
  have HR1 := Lib.hid hr1
  have hsz1 : w.heap.size < w1.heap.size := lt_of_block hr1
  clear ho1 hb1 hr1
  go_wp2
  go_loopw [10, 11, 12, 13] (fun sv av iv _ wi => ∃ (k : Nat) (sb ab : Bool), sv = .bool sb ∧ av = .bool ab ∧ iv = .int .i64 k ∧ k ≤ N ∧ Hid (sb = decide (0 < cntP (ts.take k)) ∧ ab = decide (cntP (ts.take k) = k)) ∧ wi = w1) (fun _ _ iv _ _ => N - (intOf iv).toNat)
  case atStart => exact ⟨0, _, _, rfl, rfl, rfl, Nat.zero_le _, ⟨by simp [cntP], by simp [cntP]⟩, rfl⟩
  case round =>
    obtain ⟨k, sb, ab, rfl, rfl, rfl, hk, hcn, hwr⟩ := hrel
    obtain rfl : w1 = wr := hwr.symm
    by_cases hlt : k < N
    · obtain ⟨x, hx1⟩ : ∃ x, ts[k]? = some x := ⟨_, List.getElem?_eq_getElem (by have := HNN.out; omega)⟩
      obtain ⟨g, off, rfl, kx⟩ := HAT.out k x hx1
      have hct := cnt_take ts k x hx1
      have hcl : cntP (ts.take k) ≤ k := Nat.le_trans (cnt_le _) (by simp; omega)
      have HI := Lib.hid fun w => refIndex_any x 37 37 rfl w (HZ.out x (List.mem_of_getElem? hx1))
      have q1 : (k : Int) < N := by omega
      cases hpo : popen x
      · have hp : Lib.indexByte x.data.toList 37 < 0 := Decidable.byContradiction fun hn => by have h : popen x = true := (show (!decide (Lib.indexByte x.data.toList 37 < 0)) = true by rw [decide_eq_false hn]; rfl); rw [h] at hpo; cases hpo
        generalize Lib.indexByte x.data.toList 37 = pi at HI hp
        have q2 : decide ((0 : Int) ≤ pi) = false := decide_eq_false (by omega)
        have HC2 : Hid (sb = decide (0 < cntP (ts.take (k + 1))) ∧ false = decide (cntP (ts.take (k + 1)) = k + 1)) := ⟨by rw [hct, hpo]; simp [hcn.out.1], by rw [hct, hpo]; symm; simp; omega⟩
        clear hct hcl hcn hx1 hpo hp
        cases sb <;> cases ab
        all_goals
          go_wp2_with fail
          refine (HI.out _).mono ?_
          rintro e w' ⟨rfl, hw'⟩
          obtain rfl : w1 = w' := hw'.symm
          go_wp2
          exact ⟨⟨k + 1, _, _, rfl, rfl, by go_num, by omega, by first | exact HC2 | (rw [q2]; exact HC2), by trivial⟩, by simp [intOf]; omega⟩
      · have hp : ¬ Lib.indexByte x.data.toList 37 < 0 := fun hn => by have h : popen x = false := (show (!decide (Lib.indexByte x.data.toList 37 < 0)) = false by rw [decide_eq_true hn]; rfl); rw [h] at hpo; cases hpo
        generalize Lib.indexByte x.data.toList 37 = pi at HI hp
        have q2 : decide ((0 : Int) ≤ pi) = true := decide_eq_true (by omega)
        have HC2 : Hid (true = decide (0 < cntP (ts.take (k + 1))) ∧ ab = decide (cntP (ts.take (k + 1)) = k + 1)) := ⟨by rw [hct, hpo]; simp, by rw [hct, hpo]; simp [hcn.out.2]⟩
        clear hct hcl hcn hx1 hpo hp
        cases sb <;> cases ab
        all_goals
          go_wp2_with fail
          refine (HI.out _).mono ?_
          rintro e w' ⟨rfl, hw'⟩
          obtain rfl : w1 = w' := hw'.symm
          go_wp2
          exact ⟨⟨k + 1, _, _, rfl, rfl, by go_num, by omega, by first | exact HC2 | (rw [q2]; exact HC2), by trivial⟩, by simp [intOf]; omega⟩
    · obtain rfl : k = N := by omega
      have HSB : Hid (sb = decide (0 < cntP ts) ∧ ab = decide (cntP ts = ts.length)) := by
        have := hcn.out
        rw [List.take_of_length_le (by have := HNN.out; omega)] at this
        rw [HNN.out]; exact this
      clear hcn hlt
      go_wp2_with fail
      refine (HCo.out _).mono ?_
      rintro e w2 ⟨rfl, hw2⟩
      have hrB2 : w2.heap[w1.heap.size]? = some (.cells #[(.slice A1 k c1), (.slice none 0 0), (.slice none 0 0), (.bool d), (.bool false), (.bool false), (.string ⟨#[]⟩), (.slice none 0 0), (.bool false), (.string ⟨#[]⟩), (.bool false)] 29 (0, 0)) := by rw [hw2]; exact World.alloc_heap_new w1 _
      have hb2 : Below w1.heap.size w1 w2 := by rw [hw2]; exact (Below.refl _ w1).alloc (Nat.le_refl _) _
      have HRB2 := Lib.hid hrB2
      have HRA2 := Lib.hid ((hb2.block _ hsz1).trans HR1.out)
      have HB2 := Lib.hid (HB1.out.trans (hb2.mono (by omega)))
      have HT2 := Lib.hid (HT1.out.below hb2)
      have hsz2 : w1.heap.size < w2.heap.size := lt_of_block hrB2
      clear hw2 hrB2 hb2 HB1 HT1 HR1 HAT
      have q5 : ¬ (0 : Int) ≤ C0 := by omega
      go_wp2_with fail
      refine (HN2.out _).mono ?_
      rintro e w3 ⟨v3, rfl, ho3, hb3⟩
      have hsz3 : w1.heap.size < w3.heap.size := Nat.lt_of_lt_of_le hsz2 hb3.size
      have HRA3 := Lib.hid ((hb3.block _ (by omega)).trans HRA2.out)
      have HRB3 := Lib.hid ((hb3.block _ (by omega)).trans HRB2.out)
      have HB3 := Lib.hid (HB2.out.trans (hb3.mono (by omega)))
      have HT3 := Lib.hid (HT2.out.below hb3)
      clear HRA2 HRB2 HB2 HT2
      have HH := Lib.hid (halves_any w3 w2.heap.size v3 us (StrSl.of (HM.out.symm ▸ ho3)) (by have := HM.out; omega))
      obtain ⟨A3, c3, rfl, _, _⟩ := ho3.form
      clear ho3 hb3
      go_wp2_with fail
      refine HH.out.mono ?_
      rintro e w4 ⟨vP, vO, rfl, hP, hO, hb4⟩
      have hsz4 : w1.heap.size < w4.heap.size := Nat.lt_of_lt_of_le hsz3 hb4.size
      have HRA4 := Lib.hid ((hb4.block _ (by omega)).trans HRA3.out)
      have HRB4 := Lib.hid ((hb4.block _ (by omega)).trans HRB3.out)
      have HB4 := Lib.hid (HB3.out.trans (hb4.mono (by omega)))
      have HT4 := Lib.hid (HT3.out.below hb4)
      clear HRA3 HRB3 HB3 HT3
      obtain ⟨AP, cP, rfl, _, _⟩ := id hP
      obtain ⟨AO, cO, rfl, _, _⟩ := id hO
      obtain ⟨NP, hNP⟩ : ∃ NP, (halvesL us).1.length = NP := ⟨_, rfl⟩
      obtain ⟨NO, hNO⟩ : ∃ NO, (halvesL us).2.length = NO := ⟨_, rfl⟩
      rw [hNP] at hP ⊢
      rw [hNO] at hO ⊢
      have HP := Lib.hid (hP.lower (base' := w.heap.size) (by omega))
      have HO := Lib.hid (hO.lower (base' := w.heap.size) (by omega))
      clear hNP hNO hP hO hb4 HH
      obtain ⟨b1, bf1⟩ := rowc HRB4.out (j := 1) rfl
      obtain ⟨b2, bf2⟩ := rowc HRB4.out (j := 2) rfl
      go_upto_region 28 with fail
      obtain ⟨w5, hw5⟩ : ∃ w5, ((w4).setCell ⟨w1.heap.size, 1, none⟩ (.slice AP NP cP)).setCell ⟨w1.heap.size, 2, none⟩ (.slice AO NO cO) = w5 := ⟨_, rfl⟩
      rw [hw5]
      have hs5_0 := heap_setCell_same _ w1.heap.size 1 _ 29 (.slice AP NP cP) HRB4.out
      have ht5_0 := (HT4.out).set29 HRB4.out 1 (.slice AP NP cP)
      have hb5_0 := (HB4.out).setCell (p := ⟨w1.heap.size, 1, none⟩) (by simp; omega) (.slice AP NP cP)
      have ha5_0 := (Below.heap_setCell _ ⟨w1.heap.size, 1, none⟩ (.slice AP NP cP) w.heap.size (by simp; omega)).trans (HRA4.out)
      have hxHP5_0 := (HP.out).set29 HRB4.out 1 (.slice AP NP cP)
      have hxHO5_0 := (HO.out).set29 HRB4.out 1 (.slice AP NP cP)
      have hs5_1 := heap_setCell_same _ w1.heap.size 2 _ 29 (.slice AO NO cO) hs5_0
      have ht5_1 := (ht5_0).set29 hs5_0 2 (.slice AO NO cO)
      have hb5_1 := (hb5_0).setCell (p := ⟨w1.heap.size, 2, none⟩) (by simp; omega) (.slice AO NO cO)
      have ha5_1 := (Below.heap_setCell _ ⟨w1.heap.size, 2, none⟩ (.slice AO NO cO) w.heap.size (by simp; omega)).trans (ha5_0)
      have hxHP5_1 := (hxHP5_0).set29 hs5_0 2 (.slice AO NO cO)
      have hxHO5_1 := (hxHO5_0).set29 hs5_0 2 (.slice AO NO cO)
      rw [hw5] at hs5_1 ht5_1 hb5_1 ha5_1 hxHP5_1 hxHO5_1
      have HRB5 : Hid (w5.heap[w1.heap.size]? = some (.cells #[(.slice A1 k c1), (.slice AP NP cP), (.slice AO NO cO), (.bool d), (.bool false), (.bool false), (.string ⟨#[]⟩), (.slice none 0 0), (.bool false), (.string ⟨#[]⟩), (.bool false)] 29 (0, 0))) := by simpa [Hid] using hs5_1
      have HRA5 := Lib.hid ha5_1
      have HB5 := Lib.hid hb5_1
      have HT5 := Lib.hid ht5_1
      have HPn := Lib.hid hxHP5_1
      have HOn := Lib.hid hxHO5_1
      have hsz5 : w1.heap.size < w5.heap.size := lt_of_block HRB5.out
      clear hs5_0 ht5_0 hb5_0 ha5_0 hs5_1 ht5_1 hb5_1 ha5_1 hxHP5_0 hxHP5_1 hxHO5_0 hxHO5_1 hw5 HRA4 HRB4 HB4 HT4 HP HO
      have HP := HPn
      clear HPn
      have HO := HOn
      clear HOn
      clear b1 bf1 b2 bf2
      cases sb
      · have hx := HX.out.2.1 (by have := HSB.out.1; simpa using this.symm)
        have HX2 := Lib.hid hx; clear hx
        obtain ⟨b0, bf0⟩ := rowc HRB5.out (j := 0) rfl
        obtain ⟨b1, bf1⟩ := rowc HRB5.out (j := 1) rfl
        obtain ⟨b2, bf2⟩ := rowc HRB5.out (j := 2) rfl
        obtain ⟨b3, bf3⟩ := rowc HRB5.out (j := 3) rfl
        obtain ⟨b4, bf4⟩ := rowc HRB5.out (j := 4) rfl
        obtain ⟨b5, bf5⟩ := rowc HRB5.out (j := 5) rfl
        obtain ⟨b6, bf6⟩ := rowc HRB5.out (j := 6) rfl
        obtain ⟨b7, bf7⟩ := rowc HRB5.out (j := 7) rfl
        obtain ⟨b8, bf8⟩ := rowc HRB5.out (j := 8) rfl
        obtain ⟨b9, bf9⟩ := rowc HRB5.out (j := 9) rfl
        obtain ⟨b10, bf10⟩ := rowc HRB5.out (j := 10) rfl
        obtain ⟨a0, af0⟩ := rowc HRA5.out (j := 0) rfl
        obtain ⟨a1, af1⟩ := rowc HRA5.out (j := 1) rfl
        obtain ⟨a2, af2⟩ := rowc HRA5.out (j := 2) rfl
        obtain ⟨a3, af3⟩ := rowc HRA5.out (j := 3) rfl
        obtain ⟨a4, af4⟩ := rowc HRA5.out (j := 4) rfl
        obtain ⟨a5, af5⟩ := rowc HRA5.out (j := 5) rfl
        obtain ⟨a6, af6⟩ := rowc HRA5.out (j := 6) rfl
        obtain ⟨a7, af7⟩ := rowc HRA5.out (j := 7) rfl
        obtain ⟨a8, af8⟩ := rowc HRA5.out (j := 8) rfl
        obtain ⟨a9, af9⟩ := rowc HRA5.out (j := 9) rfl
        obtain ⟨a10, af10⟩ := rowc HRA5.out (j := 10) rfl
        go_wp2
        refine bodyPost_ret (results_c3 (t := 6) (i := 7) (j := 8) (by kernel_rfl) rfl (load11 (set11 HRA5.out (.slice A1 k c1) (.slice AP NP cP) (.slice AO NO cO) (.bool d) (.bool false) (.bool false) (.string ⟨#[]⟩) (.slice none 0 0) (.bool false) (.string ⟨#[]⟩) (.bool false))) rfl rfl) rfl ?_
        rw [HX2.out]; exact ⟨_, _, _, _, rfl, HT5.out.put11 HRA5.out _ _ _ _ _ _ _ _ _ _ _, HP.out.put11 HRA5.out _ _ _ _ _ _ _ _ _ _ _, HO.out.put11 HRA5.out _ _ _ _ _ _ _ _ _ _ _, HT5.out.put11 HRA5.out _ _ _ _ _ _ _ _ _ _ _, put11_below HB5.out (Nat.le_refl _) _ _ _ _ _ _ _ _ _ _ _⟩
      · have hp0 : 0 < cntP ts := by simpa using HSB.out.1
        cases ab
        · have hx := HX.out.1 hp0 (by have := HSB.out.2; simpa using this.symm)
          have HX2 := Lib.hid hx; clear hx hp0
          obtain ⟨a0, af0⟩ := rowc HRA5.out (j := 0) rfl
          obtain ⟨a1, af1⟩ := rowc HRA5.out (j := 1) rfl
          obtain ⟨a2, af2⟩ := rowc HRA5.out (j := 2) rfl
          obtain ⟨a3, af3⟩ := rowc HRA5.out (j := 3) rfl
          obtain ⟨a4, af4⟩ := rowc HRA5.out (j := 4) rfl
          obtain ⟨a5, af5⟩ := rowc HRA5.out (j := 5) rfl
          obtain ⟨a6, af6⟩ := rowc HRA5.out (j := 6) rfl
          obtain ⟨a7, af7⟩ := rowc HRA5.out (j := 7) rfl
          obtain ⟨a8, af8⟩ := rowc HRA5.out (j := 8) rfl
          obtain ⟨a9, af9⟩ := rowc HRA5.out (j := 9) rfl
          obtain ⟨a10, af10⟩ := rowc HRA5.out (j := 10) rfl
          go_wp2
          refine bodyPost_ret (results_c3 (t := 6) (i := 7) (j := 8) (by kernel_rfl) rfl (load11 (set11 HRA5.out (.slice none 0 0) (.slice none 0 0) (.slice none 0 0) (.bool false) (.bool false) (.bool false) (.string ⟨#[]⟩) (.slice none 0 0) (.bool false) (.string ⟨#[]⟩) (.bool false))) rfl rfl) rfl ?_
          rw [HX2.out]; exact ⟨_, _, _, _, rfl, StrSl.nil _ _, StrSl.nil _ _, StrSl.nil _ _, StrSl.nil _ _, put11_below HB5.out (Nat.le_refl _) _ _ _ _ _ _ _ _ _ _ _⟩
        · have hx := HX.out.2.2 hp0 (by have := HSB.out.2; simpa using this)
          have HX2 := Lib.hid hx; clear hx hp0
          obtain ⟨b3, bf3⟩ := rowc HRB5.out (j := 3) rfl
          obtain ⟨b4, bf4⟩ := rowc HRB5.out (j := 4) rfl
          obtain ⟨b5, bf5⟩ := rowc HRB5.out (j := 5) rfl
          go_upto_region 35 with fail
          obtain ⟨w6, hw6⟩ : ∃ w6, (((w5).setCell ⟨w1.heap.size, 4, none⟩ (.bool true)).setCell ⟨w1.heap.size, 5, none⟩ (.bool d)).setCell ⟨w1.heap.size, 3, none⟩ (.bool false) = w6 := ⟨_, rfl⟩
          rw [hw6]
          have hs6_0 := heap_setCell_same _ w1.heap.size 4 _ 29 (.bool true) HRB5.out
          have ht6_0 := (HT5.out).set29 HRB5.out 4 (.bool true)
          have hb6_0 := (HB5.out).setCell (p := ⟨w1.heap.size, 4, none⟩) (by simp; omega) (.bool true)
          have ha6_0 := (Below.heap_setCell _ ⟨w1.heap.size, 4, none⟩ (.bool true) w.heap.size (by simp; omega)).trans (HRA5.out)
          have hxHP6_0 := (HP.out).set29 HRB5.out 4 (.bool true)
          have hxHO6_0 := (HO.out).set29 HRB5.out 4 (.bool true)
          have hs6_1 := heap_setCell_same _ w1.heap.size 5 _ 29 (.bool d) hs6_0
          have ht6_1 := (ht6_0).set29 hs6_0 5 (.bool d)
          have hb6_1 := (hb6_0).setCell (p := ⟨w1.heap.size, 5, none⟩) (by simp; omega) (.bool d)
          have ha6_1 := (Below.heap_setCell _ ⟨w1.heap.size, 5, none⟩ (.bool d) w.heap.size (by simp; omega)).trans (ha6_0)
          have hxHP6_1 := (hxHP6_0).set29 hs6_0 5 (.bool d)
          have hxHO6_1 := (hxHO6_0).set29 hs6_0 5 (.bool d)
          have hs6_2 := heap_setCell_same _ w1.heap.size 3 _ 29 (.bool false) hs6_1
          have ht6_2 := (ht6_1).set29 hs6_1 3 (.bool false)
          have hb6_2 := (hb6_1).setCell (p := ⟨w1.heap.size, 3, none⟩) (by simp; omega) (.bool false)
          have ha6_2 := (Below.heap_setCell _ ⟨w1.heap.size, 3, none⟩ (.bool false) w.heap.size (by simp; omega)).trans (ha6_1)
          have hxHP6_2 := (hxHP6_1).set29 hs6_1 3 (.bool false)
          have hxHO6_2 := (hxHO6_1).set29 hs6_1 3 (.bool false)
          rw [hw6] at hs6_2 ht6_2 hb6_2 ha6_2 hxHP6_2 hxHO6_2
          have HRB6 : Hid (w6.heap[w1.heap.size]? = some (.cells #[(.slice A1 k c1), (.slice AP NP cP), (.slice AO NO cO), (.bool false), (.bool true), (.bool d), (.string ⟨#[]⟩), (.slice none 0 0), (.bool false), (.string ⟨#[]⟩), (.bool false)] 29 (0, 0))) := by simpa [Hid] using hs6_2
          have HRA6 := Lib.hid ha6_2
          have HB6 := Lib.hid hb6_2
          have HT6 := Lib.hid ht6_2
          have HPn := Lib.hid hxHP6_2
          have HOn := Lib.hid hxHO6_2
          have hsz6 : w1.heap.size < w6.heap.size := lt_of_block HRB6.out
          clear hs6_0 ht6_0 hb6_0 ha6_0 hs6_1 ht6_1 hb6_1 ha6_1 hs6_2 ht6_2 hb6_2 ha6_2 hxHP6_0 hxHP6_1 hxHP6_2 hxHO6_0 hxHO6_1 hxHO6_2 hw6 HRA5 HRB5 HB5 HT5 HP HO
          have HP := HPn
          clear HPn
          have HO := HOn
          clear HOn
          clear b3 bf3 b4 bf4 b5 bf5
          obtain ⟨b0, bf0⟩ := rowc HRB6.out (j := 0) rfl
          obtain ⟨b1, bf1⟩ := rowc HRB6.out (j := 1) rfl
          obtain ⟨b2, bf2⟩ := rowc HRB6.out (j := 2) rfl
          obtain ⟨b3, bf3⟩ := rowc HRB6.out (j := 3) rfl
          obtain ⟨b4, bf4⟩ := rowc HRB6.out (j := 4) rfl
          obtain ⟨b5, bf5⟩ := rowc HRB6.out (j := 5) rfl
          obtain ⟨b6, bf6⟩ := rowc HRB6.out (j := 6) rfl
          obtain ⟨b7, bf7⟩ := rowc HRB6.out (j := 7) rfl
          obtain ⟨b8, bf8⟩ := rowc HRB6.out (j := 8) rfl
          obtain ⟨b9, bf9⟩ := rowc HRB6.out (j := 9) rfl
          obtain ⟨b10, bf10⟩ := rowc HRB6.out (j := 10) rfl
          obtain ⟨a0, af0⟩ := rowc HRA6.out (j := 0) rfl
          obtain ⟨a1, af1⟩ := rowc HRA6.out (j := 1) rfl
          obtain ⟨a2, af2⟩ := rowc HRA6.out (j := 2) rfl
          obtain ⟨a3, af3⟩ := rowc HRA6.out (j := 3) rfl
          obtain ⟨a4, af4⟩ := rowc HRA6.out (j := 4) rfl
          obtain ⟨a5, af5⟩ := rowc HRA6.out (j := 5) rfl
          obtain ⟨a6, af6⟩ := rowc HRA6.out (j := 6) rfl
          obtain ⟨a7, af7⟩ := rowc HRA6.out (j := 7) rfl
          obtain ⟨a8, af8⟩ := rowc HRA6.out (j := 8) rfl
          obtain ⟨a9, af9⟩ := rowc HRA6.out (j := 9) rfl
          obtain ⟨a10, af10⟩ := rowc HRA6.out (j := 10) rfl
          go_wp2
          refine bodyPost_ret (results_c3 (t := 6) (i := 7) (j := 8) (by kernel_rfl) rfl (load11 (set11 HRA6.out (.slice A1 k c1) (.slice AP NP cP) (.slice AO NO cO) (.bool false) (.bool true) (.bool d) (.string ⟨#[]⟩) (.slice none 0 0) (.bool false) (.string ⟨#[]⟩) (.bool false))) rfl rfl) rfl ?_
          rw [HX2.out]; exact ⟨_, _, _, _, rfl, HT6.out.put11 HRA6.out _ _ _ _ _ _ _ _ _ _ _, HP.out.put11 HRA6.out _ _ _ _ _ _ _ _ _ _ _, HO.out.put11 HRA6.out _ _ _ _ _ _ _ _ _ _ _, StrSl.nil _ _, put11_below HB6.out (Nat.le_refl _) _ _ _ _ _ _ _ _ _ _ _⟩
set_option maxRecDepth 100000 in
set_option maxHeartbeats 4000000 in
theorem makeR_stat (l r : ByteArray) (d : Bool) (w : World) (hl : l.size ≤ 400000) (hr : r.size ≤ 400000) (hT : (namesB l).length ≠ 0) (i : Nat) (hc : colonB r = i) (hi2 : i < r.size) :
    Calls Tryd.prog 15 #[.string l, .string r, .bool d] w fun e W' => MkQ w (makeP l r d) e W' := by
  have HN1 := Lib.hid fun w => NamesR_any l (by omega) w
  have HN2 := Lib.hid fun w => NamesR_any (r.extract (i + 1) r.size) (by simp; omega) w
  have HN3 := Lib.hid fun w => NamesR_any (r.extract 0 i) (by simp; omega) w
  have HX : Hid (((namesB (r.extract 0 i)).length ≠ 1 → makeP l r d = errP 56) ∧ (∀ p0, namesB (r.extract 0 i) = [p0] → (popen p0 = false → makeP l r d = errP 56) ∧ (popen p0 = true → ∀ t, badT p0 (namesB l) = some t → makeP l r d = errP 55) ∧
      (popen p0 = true → badT p0 (namesB l) = none → makeP l r d = ⟨namesB l, (halvesL (namesB (r.extract (i + 1) r.size))).1, (halvesL (namesB (r.extract (i + 1) r.size))).2, namesB l, d, false, false, p0, 0⟩))) := by
    have hm : ∀ n, statN (r.extract 0 i) (namesB l) = n → n ≠ 0 → makeP l r d = errP n := fun n h1 h2 => by
      unfold makeP; rw [if_neg hT, if_pos (by omega), hc, Int.toNat_natCast, h1, if_pos h2]
    refine ⟨fun h1 => hm 56 ?_ (by decide), fun p0 h0 => ⟨fun h1 => hm 56 ?_ (by decide), fun h1 t h2 => hm 55 ?_ (by decide), fun h1 h2 => ?_⟩⟩
    · unfold statN; rw [if_pos (.inl h1)]
    · unfold statN; rw [if_pos (.inr (by rw [h0]; exact h1))]
    · unfold statN; rw [if_neg (by rw [h0]; simpa [xAt] using h1), h0, show xAt [p0] 0 = p0 from rfl, h2]
    · have e : statN (r.extract 0 i) (namesB l) = 0 := by unfold statN; rw [if_neg (by rw [h0]; simpa [xAt] using h1), h0, show xAt [p0] 0 = p0 from rfl, h2]
      have e2 : statS (r.extract 0 i) = p0 := by unfold statS; rw [if_neg (by rw [h0]; simpa [xAt] using h1), h0]; rfl
      unfold makeP; rw [if_neg hT, if_pos (by omega), hc, Int.toNat_natCast, e, if_neg (by simp), e2]
  generalize makeP l r d = X at *
  obtain ⟨us, hus⟩ : ∃ us, namesB (r.extract (i + 1) r.size) = us := ⟨_, rfl⟩
  have hul := names_len (r.extract (i + 1) r.size)
  rw [hus] at HN2 hul
  simp only [hus] at HX
  obtain ⟨M, hM⟩ : ∃ M, us.length = M := ⟨_, rfl⟩
  rw [hM] at HN2 hul
  have hM9 : M ≤ 400002 := by simp at hul; omega
  have HM := Lib.hid hM
  clear hus hM hul
  obtain ⟨ps, hps⟩ : ∃ ps, namesB (r.extract 0 i) = ps := ⟨_, rfl⟩
  have hpl := names_len (r.extract 0 i)
  have hpz := names_sz (r.extract 0 i)
  rw [hps] at HN3 hpl hpz
  simp only [hps] at HX
  obtain ⟨K, hK⟩ : ∃ K, ps.length = K := ⟨_, rfl⟩
  rw [hK] at HN3 hpl
  have hK9 : K ≤ 400002 := by simp at hpl; omega
  have HPZ : Hid (∀ y ∈ ps, y.size ≤ 140737488351232) := fun y hy => by have := hpz y hy; simp at this; omega
  have HK := Lib.hid hK
  clear hps hK hpl hpz
  have HCo := Lib.hid fun w => colonR_any r (by omega) w
  obtain ⟨C0, hC0⟩ : ∃ C0, colonB r = C0 := ⟨_, rfl⟩
  rw [hC0] at HCo hc
  clear hC0
  obtain ⟨ts, hts⟩ : ∃ ts, namesB l = ts := ⟨_, rfl⟩
  have hnz := names_sz l
  have hnl := names_len l
  rw [hts] at HN1 hnz hnl hT
  simp only [hts] at HX
  obtain ⟨N, hNN⟩ : ∃ N, ts.length = N := ⟨_, rfl⟩
  rw [hNN] at HN1 hnl
  have hN0 : ¬ N = 0 := by omega
  have hN0' : ((N : Int) == 0) = false := beq_eq_false_iff_ne.2 (by omega)
  have HZ : Hid (∀ x ∈ ts, x.size ≤ 140737488351232) := fun x hx => by have := hnz x hx; omega
  have HNN := Lib.hid hNN
  clear hts hnz hNN hT
  go_enter Tryd.func15, Tryd.ntmps15
  go_wp2_with fail
  refine (HN1.out _).mono ?_
  rintro e w1 ⟨v1, rfl, ho1, hb1⟩
  obtain ⟨A1, c1, rfl, hc1, _⟩ := ho1.form
  have hr1 : w1.heap[w.heap.size]? = some (.cells #[.slice none 0 0, .slice none 0 0, .slice none 0 0, .bool false, .bool false, .bool false, .string ⟨#[]⟩, .slice none 0 0, .bool false, .string ⟨#[]⟩, .bool false] 29 (0, 0)) := (hb1.block _ (by simp)).trans (World.alloc_heap_new w _)
  have HB1 : Hid (Below w.heap.size w w1) := ((Below.refl _ w).alloc (Nat.le_refl _) _).trans (hb1.mono (by simp))
  have HT1 : Hid (StrSl w1 w.heap.size (.slice A1 N c1) ts) := HNN.out ▸ (StrSl.of (HNN.out.symm ▸ ho1)).lower (by simp)
  have HAT := Lib.hid HT1.out.at_.2.2
  have HR1 := Lib.hid hr1
  have hsz1 : w.heap.size < w1.heap.size := lt_of_block hr1
  clear ho1 hb1 hr1
  go_wp2
  go_loopw [10, 11, 12, 13] (fun sv av iv _ wi => ∃ (k : Nat) (sb ab : Bool), sv = .bool sb ∧ av = .bool ab ∧ iv = .int .i64 k ∧ k ≤ N ∧ Hid (sb = decide (0 < cntP (ts.take k)) ∧ ab = decide (cntP (ts.take k) = k)) ∧ wi = w1) (fun _ _ iv _ _ => N - (intOf iv).toNat)
  case atStart => exact ⟨0, _, _, rfl, rfl, rfl, Nat.zero_le _, ⟨by simp [cntP], by simp [cntP]⟩, rfl⟩
  case round =>
    obtain ⟨k, sb, ab, rfl, rfl, rfl, hk, hcn, hwr⟩ := hrel
    obtain rfl : w1 = wr := hwr.symm
    by_cases hlt : k < N
    · obtain ⟨x, hx1⟩ : ∃ x, ts[k]? = some x := ⟨_, List.getElem?_eq_getElem (by have := HNN.out; omega)⟩
      obtain ⟨g, off, rfl, kx⟩ := HAT.out k x hx1
      have hct := cnt_take ts k x hx1
      have hcl : cntP (ts.take k) ≤ k := Nat.le_trans (cnt_le _) (by simp; omega)
      have HI := Lib.hid fun w => refIndex_any x 37 37 rfl w (HZ.out x (List.mem_of_getElem? hx1))
      have q1 : (k : Int) < N := by omega
      cases hpo : popen x
      · have hp : Lib.indexByte x.data.toList 37 < 0 := Decidable.byContradiction fun hn => by have h : popen x = true := (show (!decide (Lib.indexByte x.data.toList 37 < 0)) = true by rw [decide_eq_false hn]; rfl); rw [h] at hpo; cases hpo
        generalize Lib.indexByte x.data.toList 37 = pi at HI hp
        have q2 : decide ((0 : Int) ≤ pi) = false := decide_eq_false (by omega)
        have HC2 : Hid (sb = decide (0 < cntP (ts.take (k + 1))) ∧ false = decide (cntP (ts.take (k + 1)) = k + 1)) := ⟨by rw [hct, hpo]; simp [hcn.out.1], by rw [hct, hpo]; symm; simp; omega⟩
        clear hct hcl hcn hx1 hpo hp
        cases sb <;> cases ab
        all_goals
          go_wp2_with fail
          refine (HI.out _).mono ?_
          rintro e w' ⟨rfl, hw'⟩
          obtain rfl : w1 = w' := hw'.symm
          go_wp2
          exact ⟨⟨k + 1, _, _, rfl, rfl, by go_num, by omega, by first | exact HC2 | (rw [q2]; exact HC2), by trivial⟩, by simp [intOf]; omega⟩
      · have hp : ¬ Lib.indexByte x.data.toList 37 < 0 := fun hn => by have h : popen x = false := (show (!decide (Lib.indexByte x.data.toList 37 < 0)) = false by rw [decide_eq_true hn]; rfl); rw [h] at hpo; cases hpo
        generalize Lib.indexByte x.data.toList 37 = pi at HI hp
        have q2 : decide ((0 : Int) ≤ pi) = true := decide_eq_true (by omega)
        have HC2 : Hid (true = decide (0 < cntP (ts.take (k + 1))) ∧ ab = decide (cntP (ts.take (k + 1)) = k + 1)) := ⟨by rw [hct, hpo]; simp, by rw [hct, hpo]; simp [hcn.out.2]⟩
        clear hct hcl hcn hx1 hpo hp
        cases sb <;> cases ab
        all_goals
          go_wp2_with fail
          refine (HI.out _).mono ?_
          rintro e w' ⟨rfl, hw'⟩
          obtain rfl : w1 = w' := hw'.symm
          go_wp2
          exact ⟨⟨k + 1, _, _, rfl, rfl, by go_num, by omega, by first | exact HC2 | (rw [q2]; exact HC2), by trivial⟩, by simp [intOf]; omega⟩
    · obtain rfl : k = N := by omega
      have HSB : Hid (sb = decide (0 < cntP ts) ∧ ab = decide (cntP ts = ts.length)) := by
        have := hcn.out
        rw [List.take_of_length_le (by have := HNN.out; omega)] at this
        rw [HNN.out]; exact this
      clear hcn hlt
      go_wp2_with fail
      refine (HCo.out _).mono ?_
      rintro e w2 ⟨rfl, hw2⟩
      have hrB2 : w2.heap[w1.heap.size]? = some (.cells #[(.slice A1 k c1), (.slice none 0 0), (.slice none 0 0), (.bool d), (.bool false), (.bool false), (.string ⟨#[]⟩), (.slice none 0 0), (.bool false), (.string ⟨#[]⟩), (.bool false)] 29 (0, 0)) := by rw [hw2]; exact World.alloc_heap_new w1 _
      have hb2 : Below w1.heap.size w1 w2 := by rw [hw2]; exact (Below.refl _ w1).alloc (Nat.le_refl _) _
      have HRB2 := Lib.hid hrB2
      have HRA2 := Lib.hid ((hb2.block _ hsz1).trans HR1.out)
      have HB2 := Lib.hid (HB1.out.trans (hb2.mono (by omega)))
      have HT2 := Lib.hid (HT1.out.below hb2)
      have hsz2 : w1.heap.size < w2.heap.size := lt_of_block hrB2
      clear hw2 hrB2 hb2 HB1 HT1 HR1 HAT
      obtain rfl : C0 = (i : Int) := hc
      have q5 : (0 : Int) ≤ i := by omega
      have q6 : (i : Int) ≤ r.size := by omega
      have q7 : IntKind.i64.wrap ((i : Int) + 1) = ((i + 1 : Nat) : Int) := by rw [IntWalk.i64_in _ (by omega)]; omega
      have q8 : ((i + 1 : Nat) : Int) ≤ r.size := by omega
      have q9 : (i : Int) + 1 ≤ r.size := by omega

      go_wp2_with fail
      refine (HN3.out _).mono ?_
      rintro e w3 ⟨v3, rfl, ho3, hb3⟩
      obtain ⟨A3, c3, rfl, hc3, _⟩ := ho3.form
      have HPS := Lib.hid ho3.strsAt
      have hsz3 : w1.heap.size < w3.heap.size := Nat.lt_of_lt_of_le hsz2 hb3.size
      have HRA3 := Lib.hid ((hb3.block _ (by omega)).trans HRA2.out)
      have HRB3 := Lib.hid ((hb3.block _ (by omega)).trans HRB2.out)
      have HB3 := Lib.hid (HB2.out.trans (hb3.mono (by omega)))
      have HT3 := Lib.hid (HT2.out.below hb3)
      clear HRA2 HRB2 HB2 HT2
      clear ho3 hb3
      by_cases hK1 : K = 1
      · subst hK1
        obtain ⟨p0, rfl⟩ : ∃ p0, ps = [p0] := List.length_eq_one_iff.1 HK.out
        obtain ⟨g3, o3, rfl, kp⟩ := HPS.out 0 p0 rfl
        rw [Nat.add_zero] at kp
        have hp0z : p0.size ≤ 140737488351232 := HPZ.out p0 (by simp)
        have HI := Lib.hid fun w => refIndex_any p0 37 37 rfl w hp0z
        cases hpo : popen p0
        · have hp : Lib.indexByte p0.data.toList 37 < 0 := Decidable.byContradiction fun hn => by have h : popen p0 = true := (show (!decide (Lib.indexByte p0.data.toList 37 < 0)) = true by rw [decide_eq_false hn]; rfl); rw [h] at hpo; cases hpo
          generalize Lib.indexByte p0.data.toList 37 = pi at HI hp
          have HX2 := Lib.hid ((HX.out.2 p0 rfl).1 hpo)
          clear hpo
          go_wp2_with fail
          refine (HI.out _).mono ?_
          rintro e w' ⟨rfl, hw'⟩
          obtain rfl : w3 = w' := hw'.symm
          obtain ⟨a0, af0⟩ := rowc HRA3.out (j := 0) rfl
          obtain ⟨a1, af1⟩ := rowc HRA3.out (j := 1) rfl
          obtain ⟨a2, af2⟩ := rowc HRA3.out (j := 2) rfl
          obtain ⟨a3, af3⟩ := rowc HRA3.out (j := 3) rfl
          obtain ⟨a4, af4⟩ := rowc HRA3.out (j := 4) rfl
          obtain ⟨a5, af5⟩ := rowc HRA3.out (j := 5) rfl
          obtain ⟨a6, af6⟩ := rowc HRA3.out (j := 6) rfl
          obtain ⟨a7, af7⟩ := rowc HRA3.out (j := 7) rfl
          obtain ⟨a8, af8⟩ := rowc HRA3.out (j := 8) rfl
          obtain ⟨a9, af9⟩ := rowc HRA3.out (j := 9) rfl
          obtain ⟨a10, af10⟩ := rowc HRA3.out (j := 10) rfl
          go_wp2
          refine bodyPost_ret (results_c3 (t := 6) (i := 7) (j := 8) (by kernel_rfl) rfl (load11 (set11 HRA3.out (.slice none 0 0) (.slice none 0 0) (.slice none 0 0) (.bool false) (.bool false) (.bool false) (.string ⟨#[]⟩) (.slice none 0 0) (.bool false) (.string ⟨#[]⟩) (.bool false))) rfl rfl) rfl ?_
          rw [HX2.out]; exact ⟨_, _, _, _, rfl, StrSl.nil _ _, StrSl.nil _ _, StrSl.nil _ _, StrSl.nil _ _, put11_below HB3.out (Nat.le_refl _) _ _ _ _ _ _ _ _ _ _ _⟩
        · have hp : ¬ Lib.indexByte p0.data.toList 37 < 0 := fun hn => by have h : popen p0 = false := (show (!decide (Lib.indexByte p0.data.toList 37 < 0)) = false by rw [decide_eq_true hn]; rfl); rw [h] at hpo; cases hpo
          have q2 : (0 : Int) ≤ Lib.indexByte p0.data.toList 37 := by omega
          generalize Lib.indexByte p0.data.toList 37 = pi at HI hp q2
          have HX2 := Lib.hid ((HX.out.2 p0 rfl).2.1 hpo)
          have HX3 := Lib.hid ((HX.out.2 p0 rfl).2.2 hpo)
          clear hpo
          go_wp2_with fail
          refine (HI.out _).mono ?_
          rintro e w' ⟨rfl, hw'⟩
          obtain rfl : w3 = w' := hw'.symm
          obtain ⟨b6, bf6⟩ := rowc HRB3.out (j := 6) rfl
          go_upto_region 19 with fail
          obtain ⟨w4, hw4⟩ : ∃ w4, (w3).setCell ⟨w1.heap.size, 6, none⟩ (.string p0) = w4 := ⟨_, rfl⟩
          rw [hw4]
          have hs4_0 := heap_setCell_same _ w1.heap.size 6 _ 29 (.string p0) HRB3.out
          have ht4_0 := (HT3.out).set29 HRB3.out 6 (.string p0)
          have hb4_0 := (HB3.out).setCell (p := ⟨w1.heap.size, 6, none⟩) (by simp; omega) (.string p0)
          have ha4_0 := (Below.heap_setCell _ ⟨w1.heap.size, 6, none⟩ (.string p0) w.heap.size (by simp; omega)).trans (HRA3.out)
          rw [hw4] at hs4_0 ht4_0 hb4_0 ha4_0
          have HRB4 : Hid (w4.heap[w1.heap.size]? = some (.cells #[(.slice A1 k c1), (.slice none 0 0), (.slice none 0 0), (.bool d), (.bool false), (.bool false), (.string p0), (.slice none 0 0), (.bool false), (.string ⟨#[]⟩), (.bool false)] 29 (0, 0))) := by simpa [Hid] using hs4_0
          have HRA4 := Lib.hid ha4_0
          have HB4 := Lib.hid hb4_0
          have HT4 := Lib.hid ht4_0
          have hsz4 : w1.heap.size < w4.heap.size := lt_of_block HRB4.out
          clear hs4_0 ht4_0 hb4_0 ha4_0 hw4 HRA3 HRB3 HB3 HT3
          clear b6 bf6 kp
          have HAT4 := Lib.hid HT4.out.at_.2.2
          have HC6 := Lib.hid (rowc HRB4.out (j := 6) rfl).1
          go_wp2
          go_loopw [17, 18, 19] (fun iv _ _ wi => ∃ j : Nat, iv = .int .i64 j ∧ j ≤ k ∧ Hid (badT p0 ts = badT p0 (ts.drop j)) ∧ Below w4.heap.size w4 wi) (fun iv _ _ _ => k - (intOf iv).toNat)
          case atStart => exact ⟨0, rfl, Nat.zero_le _, rfl, Below.refl _ _⟩
          case round =>
            obtain ⟨j, rfl, hj, hbad, hbw⟩ := hrel
            by_cases hjk : j < k
            · obtain ⟨x, hx1⟩ : ∃ x, ts[j]? = some x := ⟨_, List.getElem?_eq_getElem (by have := HNN.out; omega)⟩
              have hxz : x.size ≤ 140737488351232 := HZ.out x (List.mem_of_getElem? hx1)
              obtain ⟨g, off, rfl, kx0⟩ := HAT4.out j x hx1
              have kx : wr.cell? ⟨g, off + j, none⟩ = some (.string x) := by rw [hbw.cell (p := ⟨g, off + j, none⟩) (World.block_lt_of_cell? _ _ kx0)]; exact kx0
              have k6 : wr.cell? ⟨w1.heap.size, 6, none⟩ = some (.string p0) := by rw [hbw.cell (p := ⟨w1.heap.size, 6, none⟩) hsz4]; exact HC6.out
              have q1 : (j : Int) < k := by omega
              have HMt := Lib.hid fun w => refMatch_any p0 x w hp0z hxz
              have HIx := Lib.hid fun w => refIndex_any x 37 37 rfl w hxz
              have hbd := hbad.out
              have hdr : ts.drop j = x :: ts.drop (j + 1) := by
                obtain ⟨h1, h2⟩ := List.getElem?_eq_some_iff.1 hx1
                rw [List.drop_eq_getElem_cons h1, h2]
              rw [hdr, badT] at hbd
              have hpx0 : popen x = !decide (Lib.indexByte x.data.toList 37 < 0) := rfl
              generalize Lib.indexByte x.data.toList 37 = pi at HIx hpx0
              clear hdr hx1 kx0 hbad
              generalize Mstem p0 x = ms at *
              cases hm : Mok p0 x
              · rw [hm] at HMt hbd
                have HX4 := Lib.hid (HX2.out x (by rw [hbd]; rfl))
                clear hbd hm hpx0
                go_wp2
                go_quiet (first | (go_at_call 47; exact Calls.quiet_of_same (HMt.out _)))
                have hbd := below_drewN hbw nq
                have hrE := (hbd.block w.heap.size (by omega)).trans HRA4.out
                have HRE := Lib.hid hrE
                have HBE := Lib.hid (HB4.out.trans (hbd.mono (by omega)))
                obtain ⟨a0, af0⟩ := rowc hrE (j := 0) rfl
                obtain ⟨a1, af1⟩ := rowc hrE (j := 1) rfl
                obtain ⟨a2, af2⟩ := rowc hrE (j := 2) rfl
                obtain ⟨a3, af3⟩ := rowc hrE (j := 3) rfl
                obtain ⟨a4, af4⟩ := rowc hrE (j := 4) rfl
                obtain ⟨a5, af5⟩ := rowc hrE (j := 5) rfl
                obtain ⟨a6, af6⟩ := rowc hrE (j := 6) rfl
                obtain ⟨a7, af7⟩ := rowc hrE (j := 7) rfl
                obtain ⟨a8, af8⟩ := rowc hrE (j := 8) rfl
                obtain ⟨a9, af9⟩ := rowc hrE (j := 9) rfl
                obtain ⟨a10, af10⟩ := rowc hrE (j := 10) rfl
                clear hrE
                go_wp2
                refine bodyPost_ret (results_c3 (t := 6) (i := 7) (j := 8) (by kernel_rfl) rfl (load11 (set11 HRE.out (.slice none 0 0) (.slice none 0 0) (.slice none 0 0) (.bool false) (.bool false) (.bool false) (.string ⟨#[]⟩) (.slice none 0 0) (.bool false) (.string ⟨#[]⟩) (.bool false))) rfl rfl) rfl ?_
                rw [HX4.out]; exact ⟨_, _, _, _, rfl, StrSl.nil _ _, StrSl.nil _ _, StrSl.nil _ _, StrSl.nil _ _, put11_below HBE.out (Nat.le_refl _) _ _ _ _ _ _ _ _ _ _ _⟩
              · rw [hm] at HMt hbd
                by_cases hpi : pi < 0
                · have hpx : popen x = false := by rw [hpx0, decide_eq_true hpi]; rfl
                  have HBD : Hid (badT p0 ts = badT p0 (ts.drop (j + 1))) := by unfold Hid; rw [hbd, hpx]; rfl
                  have q3 : ¬ (0 : Int) ≤ pi := by omega
                  clear hbd hm hpx0 hpx
                  go_wp2
                  go_quiet (first | (go_at_call 47; exact Calls.quiet_of_same (HMt.out _)))
                  have hbd := below_drewN hbw nq
                  go_wp2_with fail
                  refine (HIx.out _).mono ?_
                  rintro e w' ⟨rfl, hw'⟩
                  obtain rfl := hw'
                  go_wp2
                  exact ⟨⟨j + 1, by go_num, by omega, HBD, hbd⟩, by simp [intOf]; omega⟩
                · have hpx : popen x = true := by rw [hpx0, decide_eq_false hpi]; rfl
                  have HX4 := Lib.hid (HX2.out x (by rw [hbd, hpx]; rfl))
                  have q3 : (0 : Int) ≤ pi := by omega
                  clear hbd hm hpx0 hpx
                  go_wp2
                  go_quiet (first | (go_at_call 47; exact Calls.quiet_of_same (HMt.out _)))
                  have hbd := below_drewN hbw nq
                  go_wp2_with fail
                  refine (HIx.out _).mono ?_
                  rintro e w' ⟨rfl, hw'⟩
                  obtain rfl := hw'
                  have hrE := (hbd.block w.heap.size (by omega)).trans HRA4.out
                  have HRE := Lib.hid hrE
                  have HBE := Lib.hid (HB4.out.trans (hbd.mono (by omega)))
                  obtain ⟨a0, af0⟩ := rowc hrE (j := 0) rfl
                  obtain ⟨a1, af1⟩ := rowc hrE (j := 1) rfl
                  obtain ⟨a2, af2⟩ := rowc hrE (j := 2) rfl
                  obtain ⟨a3, af3⟩ := rowc hrE (j := 3) rfl
                  obtain ⟨a4, af4⟩ := rowc hrE (j := 4) rfl
                  obtain ⟨a5, af5⟩ := rowc hrE (j := 5) rfl
                  obtain ⟨a6, af6⟩ := rowc hrE (j := 6) rfl
                  obtain ⟨a7, af7⟩ := rowc hrE (j := 7) rfl
                  obtain ⟨a8, af8⟩ := rowc hrE (j := 8) rfl
                  obtain ⟨a9, af9⟩ := rowc hrE (j := 9) rfl
                  obtain ⟨a10, af10⟩ := rowc hrE (j := 10) rfl
                  clear hrE
                  go_wp2
                  refine bodyPost_ret (results_c3 (t := 6) (i := 7) (j := 8) (by kernel_rfl) rfl (load11 (set11 HRE.out (.slice none 0 0) (.slice none 0 0) (.slice none 0 0) (.bool false) (.bool false) (.bool false) (.string ⟨#[]⟩) (.slice none 0 0) (.bool false) (.string ⟨#[]⟩) (.bool false))) rfl rfl) rfl ?_
                  rw [HX4.out]; exact ⟨_, _, _, _, rfl, StrSl.nil _ _, StrSl.nil _ _, StrSl.nil _ _, StrSl.nil _ _, put11_below HBE.out (Nat.le_refl _) _ _ _ _ _ _ _ _ _ _ _⟩
            · obtain rfl : j = k := by omega
              have HX4 := Lib.hid (HX3.out (by rw [hbad.out, List.drop_eq_nil_of_le (by have := HNN.out; omega)]; rfl))
              clear hbad hjk HX HX2 HX3
              obtain ⟨w5, hw5⟩ : ∃ w5, wr = w5 := ⟨_, rfl⟩
              rw [hw5] at hbw ⊢
              clear hw5
              have hsz5 : w1.heap.size < w5.heap.size := Nat.lt_of_lt_of_le hsz4 hbw.size
              have HRA5 := Lib.hid ((hbw.block _ (by omega)).trans HRA4.out)
              have HRB5 := Lib.hid ((hbw.block _ (by omega)).trans HRB4.out)
              have HB5 := Lib.hid (HB4.out.trans (hbw.mono (by omega)))
              have HT5 := Lib.hid (HT4.out.below hbw)
              clear HRA4 HRB4 HB4 HT4
              go_wp2_with fail
              refine (HN2.out _).mono ?_
              rintro e w6 ⟨v6, rfl, ho6, hb6⟩
              have hsz6 : w1.heap.size < w6.heap.size := Nat.lt_of_lt_of_le hsz5 hb6.size
              have HRA6 := Lib.hid ((hb6.block _ (by omega)).trans HRA5.out)
              have HRB6 := Lib.hid ((hb6.block _ (by omega)).trans HRB5.out)
              have HB6 := Lib.hid (HB5.out.trans (hb6.mono (by omega)))
              have HT6 := Lib.hid (HT5.out.below hb6)
              clear HRA5 HRB5 HB5 HT5
              have HH := Lib.hid (halves_any w6 w5.heap.size v6 us (StrSl.of (HM.out.symm ▸ ho6)) (by have := HM.out; omega))
              obtain ⟨A6, c6, rfl, _, _⟩ := ho6.form
              clear ho6 hb6
              go_wp2_with fail
              refine HH.out.mono ?_
              rintro e w7 ⟨vP, vO, rfl, hP, hO, hb7⟩
              have hsz7 : w1.heap.size < w7.heap.size := Nat.lt_of_lt_of_le hsz6 hb7.size
              have HRA7 := Lib.hid ((hb7.block _ (by omega)).trans HRA6.out)
              have HRB7 := Lib.hid ((hb7.block _ (by omega)).trans HRB6.out)
              have HB7 := Lib.hid (HB6.out.trans (hb7.mono (by omega)))
              have HT7 := Lib.hid (HT6.out.below hb7)
              clear HRA6 HRB6 HB6 HT6
              obtain ⟨AP, cP, rfl, _, _⟩ := id hP
              obtain ⟨AO, cO, rfl, _, _⟩ := id hO
              obtain ⟨NP, hNP⟩ : ∃ NP, (halvesL us).1.length = NP := ⟨_, rfl⟩
              obtain ⟨NO, hNO⟩ : ∃ NO, (halvesL us).2.length = NO := ⟨_, rfl⟩
              rw [hNP] at hP ⊢
              rw [hNO] at hO ⊢
              have HP := Lib.hid (hP.lower (base' := w.heap.size) (by omega))
              have HO := Lib.hid (hO.lower (base' := w.heap.size) (by omega))
              clear hNP hNO hP hO hb7 HH
              obtain ⟨b1, bf1⟩ := rowc HRB7.out (j := 1) rfl
              obtain ⟨b2, bf2⟩ := rowc HRB7.out (j := 2) rfl
              go_upto_region 26 with fail
              obtain ⟨w8, hw8⟩ : ∃ w8, ((w7).setCell ⟨w1.heap.size, 1, none⟩ (.slice AP NP cP)).setCell ⟨w1.heap.size, 2, none⟩ (.slice AO NO cO) = w8 := ⟨_, rfl⟩
              rw [hw8]
              have hs8_0 := heap_setCell_same _ w1.heap.size 1 _ 29 (.slice AP NP cP) HRB7.out
              have ht8_0 := (HT7.out).set29 HRB7.out 1 (.slice AP NP cP)
              have hb8_0 := (HB7.out).setCell (p := ⟨w1.heap.size, 1, none⟩) (by simp; omega) (.slice AP NP cP)
              have ha8_0 := (Below.heap_setCell _ ⟨w1.heap.size, 1, none⟩ (.slice AP NP cP) w.heap.size (by simp; omega)).trans (HRA7.out)
              have hxHP8_0 := (HP.out).set29 HRB7.out 1 (.slice AP NP cP)
              have hxHO8_0 := (HO.out).set29 HRB7.out 1 (.slice AP NP cP)
              have hs8_1 := heap_setCell_same _ w1.heap.size 2 _ 29 (.slice AO NO cO) hs8_0
              have ht8_1 := (ht8_0).set29 hs8_0 2 (.slice AO NO cO)
              have hb8_1 := (hb8_0).setCell (p := ⟨w1.heap.size, 2, none⟩) (by simp; omega) (.slice AO NO cO)
              have ha8_1 := (Below.heap_setCell _ ⟨w1.heap.size, 2, none⟩ (.slice AO NO cO) w.heap.size (by simp; omega)).trans (ha8_0)
              have hxHP8_1 := (hxHP8_0).set29 hs8_0 2 (.slice AO NO cO)
              have hxHO8_1 := (hxHO8_0).set29 hs8_0 2 (.slice AO NO cO)
              rw [hw8] at hs8_1 ht8_1 hb8_1 ha8_1 hxHP8_1 hxHO8_1
              have HRB8 : Hid (w8.heap[w1.heap.size]? = some (.cells #[(.slice A1 j c1), (.slice AP NP cP), (.slice AO NO cO), (.bool d), (.bool false), (.bool false), (.string p0), (.slice none 0 0), (.bool false), (.string ⟨#[]⟩), (.bool false)] 29 (0, 0))) := by simpa [Hid] using hs8_1
              have HRA8 := Lib.hid ha8_1
              have HB8 := Lib.hid hb8_1
              have HT8 := Lib.hid ht8_1
              have HPn := Lib.hid hxHP8_1
              have HOn := Lib.hid hxHO8_1
              have hsz8 : w1.heap.size < w8.heap.size := lt_of_block HRB8.out
              clear hs8_0 ht8_0 hb8_0 ha8_0 hs8_1 ht8_1 hb8_1 ha8_1 hxHP8_0 hxHP8_1 hxHO8_0 hxHO8_1 hw8 HRA7 HRB7 HB7 HT7 HP HO
              have HP := HPn
              clear HPn
              have HO := HOn
              clear HOn
              clear b1 bf1 b2 bf2
              obtain ⟨b0, bf0⟩ := rowc HRB8.out (j := 0) rfl
              obtain ⟨b1, bf1⟩ := rowc HRB8.out (j := 1) rfl
              obtain ⟨b2, bf2⟩ := rowc HRB8.out (j := 2) rfl
              obtain ⟨b3, bf3⟩ := rowc HRB8.out (j := 3) rfl
              obtain ⟨b4, bf4⟩ := rowc HRB8.out (j := 4) rfl
              obtain ⟨b5, bf5⟩ := rowc HRB8.out (j := 5) rfl
              obtain ⟨b6, bf6⟩ := rowc HRB8.out (j := 6) rfl
              obtain ⟨b7, bf7⟩ := rowc HRB8.out (j := 7) rfl
              obtain ⟨b8, bf8⟩ := rowc HRB8.out (j := 8) rfl
              obtain ⟨b9, bf9⟩ := rowc HRB8.out (j := 9) rfl
              obtain ⟨b10, bf10⟩ := rowc HRB8.out (j := 10) rfl
              obtain ⟨a0, af0⟩ := rowc HRA8.out (j := 0) rfl
              obtain ⟨a1, af1⟩ := rowc HRA8.out (j := 1) rfl
              obtain ⟨a2, af2⟩ := rowc HRA8.out (j := 2) rfl
              obtain ⟨a3, af3⟩ := rowc HRA8.out (j := 3) rfl
              obtain ⟨a4, af4⟩ := rowc HRA8.out (j := 4) rfl
              obtain ⟨a5, af5⟩ := rowc HRA8.out (j := 5) rfl
              obtain ⟨a6, af6⟩ := rowc HRA8.out (j := 6) rfl
              obtain ⟨a7, af7⟩ := rowc HRA8.out (j := 7) rfl
              obtain ⟨a8, af8⟩ := rowc HRA8.out (j := 8) rfl
              obtain ⟨a9, af9⟩ := rowc HRA8.out (j := 9) rfl
              obtain ⟨a10, af10⟩ := rowc HRA8.out (j := 10) rfl
              go_wp2
              refine bodyPost_ret (results_c3 (t := 6) (i := 7) (j := 8) (by kernel_rfl) rfl (load11 (set11 HRA8.out (.slice A1 j c1) (.slice AP NP cP) (.slice AO NO cO) (.bool d) (.bool false) (.bool false) (.string p0) (.slice none 0 0) (.bool false) (.string ⟨#[]⟩) (.bool false))) rfl rfl) rfl ?_
              rw [HX4.out]; exact ⟨_, _, _, _, rfl, HT8.out.put11 HRA8.out _ _ _ _ _ _ _ _ _ _ _, HP.out.put11 HRA8.out _ _ _ _ _ _ _ _ _ _ _, HO.out.put11 HRA8.out _ _ _ _ _ _ _ _ _ _ _, HT8.out.put11 HRA8.out _ _ _ _ _ _ _ _ _ _ _, put11_below HB8.out (Nat.le_refl _) _ _ _ _ _ _ _ _ _ _ _⟩
      · have HX2 := Lib.hid (HX.out.1 (by rw [HK.out]; exact hK1))
        have hK1' : ((K : Int) == 1) = false := beq_eq_false_iff_ne.2 (by omega)
        obtain ⟨a0, af0⟩ := rowc HRA3.out (j := 0) rfl
        obtain ⟨a1, af1⟩ := rowc HRA3.out (j := 1) rfl
        obtain ⟨a2, af2⟩ := rowc HRA3.out (j := 2) rfl
        obtain ⟨a3, af3⟩ := rowc HRA3.out (j := 3) rfl
        obtain ⟨a4, af4⟩ := rowc HRA3.out (j := 4) rfl
        obtain ⟨a5, af5⟩ := rowc HRA3.out (j := 5) rfl
        obtain ⟨a6, af6⟩ := rowc HRA3.out (j := 6) rfl
        obtain ⟨a7, af7⟩ := rowc HRA3.out (j := 7) rfl
        obtain ⟨a8, af8⟩ := rowc HRA3.out (j := 8) rfl
        obtain ⟨a9, af9⟩ := rowc HRA3.out (j := 9) rfl
        obtain ⟨a10, af10⟩ := rowc HRA3.out (j := 10) rfl
        go_wp2
        refine bodyPost_ret (results_c3 (t := 6) (i := 7) (j := 8) (by kernel_rfl) rfl (load11 (set11 HRA3.out (.slice none 0 0) (.slice none 0 0) (.slice none 0 0) (.bool false) (.bool false) (.bool false) (.string ⟨#[]⟩) (.slice none 0 0) (.bool false) (.string ⟨#[]⟩) (.bool false))) rfl rfl) rfl ?_
        rw [HX2.out]; exact ⟨_, _, _, _, rfl, StrSl.nil _ _, StrSl.nil _ _, StrSl.nil _ _, StrSl.nil _ _, put11_below HB3.out (Nat.le_refl _) _ _ _ _ _ _ _ _ _ _ _⟩
theorem MakeR_any (l r : ByteArray) (d : Bool) (w : World) (hl : l.size ≤ 400000) (hr : r.size ≤ 400000) :
    Calls Tryd.prog 15 #[.string l, .string r, .bool d] w fun e W' => MkQ w (makeP l r d) e W' := by
  by_cases hT : (namesB l).length = 0
  · exact makeR_sep l r d w hl hr hT
  · rcases colon_in r with hc | ⟨hc, hc2⟩
    · exact makeR_impl l r d w hl hr hT hc
    · exact makeR_stat l r d w hl hr hT (colonB r).toNat (by omega) (by omega)
end Go.Proofs.YtmcemaphhlcjfaaDoor
