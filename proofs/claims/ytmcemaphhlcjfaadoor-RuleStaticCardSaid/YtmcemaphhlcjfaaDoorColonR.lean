/- The first colon in a word that has no bracket, in the reference; condition: a text of at most a million bytes. -/
import Derived.Test.YtmcemaphhlcjfaaDoorColon
namespace Go.Proofs.YtmcemaphhlcjfaaDoor
open Go.RowKit

theorem word_at (s : ByteArray) (i e : Nat) (hie : i < e) (he : e ≤ s.size) (hm : ∀ m, i ≤ m → m < e → isB (s.get! m) = false) (hend : e < s.size → isB (s.get! e) = true) :
    s.data.toList.drop i = (s.extract i e).data.toList ++ s.data.toList.drop e ∧ (s.extract i e).data.toList ≠ [] ∧ (∀ c ∈ (s.extract i e).data.toList, isB c = false) ∧
    (s.data.toList.drop e = [] ∨ ∃ c r', s.data.toList.drop e = c :: r' ∧ isB c = true) ∧ (s.extract i e).data.toList.length = e - i := by
  have hl : (s.extract i e).data.toList.length = e - i := by rw [extract_list]; simp; omega
  refine ⟨?_, ?_, ?_, ?_, hl⟩
  · rw [extract_list]
    conv => lhs; rw [← List.take_append_drop e s.data.toList]
    rw [List.drop_append_of_le_length (by simp; omega)]
  · intro h; rw [h] at hl; simp at hl; omega
  · intro c hc
    rw [extract_list] at hc
    obtain ⟨j, hj, rfl⟩ := List.mem_iff_getElem.1 hc
    have hj2 : j < e - i := by simp at hj; omega
    rw [List.getElem_drop, List.getElem_take, get_list s (i + j) (by omega)]
    exact hm (i + j) (by omega) (by omega)
  · rcases Nat.lt_or_ge e s.size with h | h
    · right
      refine ⟨s[e], s.data.toList.drop (e + 1), drop_get s e h, ?_⟩
      rw [bget s e h]; exact hend h
    · left; exact List.drop_eq_nil_of_le (by rw [toList_len]; exact h)

set_option maxRecDepth 100000 in
set_option maxHeartbeats 4000000 in
theorem colonR_any (s : ByteArray) (hs : s.size ≤ 1000000) (w : World) :
    Calls Tryd.prog 46 #[.string s] w fun e W' => e = .returned (.int .i64 (colonB s)) ∧ W' = w := by
  obtain ⟨R, hR⟩ : ∃ R, colonB s = R := ⟨_, rfl⟩
  rw [hR]
  have HR : Hid (colF s.size (s.data.toList.drop 0) 0 = R) := hR
  clear hR
  go_enter Tryd.func46, Tryd.ntmps46
  go_wp2
  go_loopw [3, 4, 5, 6] (fun iv _ _ _ wi => ∃ (i f : Nat), iv = .int .i64 i ∧ i ≤ s.size ∧ s.size ≤ f + i ∧ wi = w ∧ Hid (colF f (s.data.toList.drop i) i = R)) (fun iv _ _ _ _ => s.size - (intOf iv).toNat)
  case atStart => exact ⟨0, s.size, rfl, Nat.zero_le _, by omega, rfl, HR⟩
  case round =>
    obtain ⟨i, f, rfl, hi, hf, hwr, hcol⟩ := hrel
    obtain rfl : w = wr := hwr.symm
    by_cases hlt : i < s.size
    · have q1 : (i : Int) < s.size := by omega
      obtain ⟨f, rfl⟩ : ∃ g, f = g + 1 := ⟨f - 1, by omega⟩
      have hB := Lib.hid (blankR_any (s[i]))
      cases hq : isB s[i]
      · rw [hq] at hB
        have HQ : Hid (isB (s.get! i) = false) := by unfold Hid; rw [← bget s i hlt]; exact hq
        clear hq
        go_wp2_with fail
        refine (hB.out _).mono ?_
        rintro e w' ⟨rfl, hw'⟩
        obtain rfl : w = w' := hw'.symm
        go_wp2
        go_loopw [4] (fun ev wi => ∃ e : Nat, ev = .int .i64 e ∧ i ≤ e ∧ e ≤ s.size ∧ wi = w ∧ Hid (∀ m, i ≤ m → m < e → isB (s.get! m) = false)) (fun ev _ => s.size - (intOf ev).toNat)
        case atStart => exact ⟨i, rfl, Nat.le_refl _, hi, rfl, fun m h1 h2 => by omega⟩
        case round =>
          obtain ⟨e, rfl, hie, hes, hwr, hnb⟩ := hrel
          obtain rfl : w = wr := hwr.symm
          by_cases hgo : ∃ h : e < s.size, isB s[e] = false
          · obtain ⟨h, hb⟩ := hgo
            have hB2 := Lib.hid (blankR_any (s[e]))
            rw [hb] at hB2
            have HN2 : Hid (∀ m, i ≤ m → m < e + 1 → isB (s.get! m) = false) := fun m h1 h2 => by
              by_cases c : m = e
              · rw [c, ← bget s e h]; exact hb
              · exact hnb.out m h1 (by omega)
            have q2 : (e : Int) < s.size := by omega
            clear hb
            go_wp2_with fail
            refine (hB2.out _).mono ?_
            rintro e w' ⟨rfl, hw'⟩
            obtain rfl : w = w' := hw'.symm
            go_wp2
            exact ⟨⟨e + 1, by go_num, by omega, by omega, by trivial, HN2⟩, by simp [intOf]; omega⟩
          · have hend : e < s.size → isB (s.get! e) = true := fun h => by
              rw [← bget s e h]
              cases hb : isB s[e]
              · exact absurd ⟨h, hb⟩ hgo
              · rfl
            have hie2 : i < e := by
              rcases Nat.lt_or_eq_of_le hie with h | h
              · exact h
              · subst h; have := hend hlt; rw [HQ.out] at this; cases this
            obtain ⟨h1, h2, h3, h4, h5⟩ := word_at s i e hie2 hes hnb.out hend
            have hc1 := hcol.out
            rw [h1, colF_word _ _ f i h2 h3 h4, h5, show i + (e - i) = e by omega] at hc1
            obtain ⟨y, hy⟩ : ∃ y, s.extract i e = y := ⟨_, rfl⟩
            rw [hy] at hc1
            have hysz : y.size ≤ 1000000 := by rw [← hy]; simp; omega
            have H58 := Lib.hid fun w => refIndex_any y 58 58 rfl w (by omega)
            have H40 := Lib.hid fun w => refIndex_any y 40 40 rfl w (by omega)
            have HEND : Hid ((e : Int) < s.size → ∃ h : e < s.size, isB s[e] = true) := fun h => ⟨by omega, by rw [bget s e (by omega)]; exact hend (by omega)⟩
            have hcase : (¬ (e : Int) < s.size) ∨ ∃ h : e < s.size, isB s[e] = true := by
              by_cases h : e < s.size
              · exact .inr ⟨h, by rw [bget s e h]; exact hend h⟩
              · exact .inl (by omega)
            cases hcw : colW y.data.toList with
            | some q =>
              obtain ⟨i1, i2, i3⟩ := colW_some hcw
              rw [hcw] at hc1
              obtain ⟨z, hz⟩ : ∃ z, Lib.indexByte y.data.toList 40 = z := ⟨_, rfl⟩
              rw [i1] at H58
              rw [hz] at H40 i2
              have HRR : Hid ((i : Int) + q = R) := hc1
              have hq3 : q ≤ 1000000 := by rw [toList_len] at i3; omega
              have v1 : IntKind.i64.wrap ((i : Int) + (q : Int)) = (i : Int) + q := IntWalk.i64_in _ (by omega)
              clear hgo hend hcw hc1 h1 h2 h3 h4 h5 i1 i3 hz hnb hcol HEND
              rcases hcase with hx | ⟨hx, hb⟩
              · go_wp2_with fail
                refine (H58.out _).mono ?_
                rintro e w' ⟨rfl, hw'⟩
                obtain rfl : w = w' := hw'.symm
                go_wp2_with fail
                refine (H40.out _).mono ?_
                rintro e w' ⟨rfl, hw'⟩
                obtain rfl : w = w' := hw'.symm
                go_wp2
                go_ret
                exact ⟨ret_int HRR.out, rfl⟩
              · have q5 : (e : Int) < s.size := by omega
                have hB2 := Lib.hid (blankR_any (s[e]))
                rw [hb] at hB2
                clear hb
                go_wp2_with fail
                refine (hB2.out _).mono ?_
                rintro e w' ⟨rfl, hw'⟩
                obtain rfl : w = w' := hw'.symm
                go_wp2_with fail
                refine (H58.out _).mono ?_
                rintro e w' ⟨rfl, hw'⟩
                obtain rfl : w = w' := hw'.symm
                go_wp2_with fail
                refine (H40.out _).mono ?_
                rintro e w' ⟨rfl, hw'⟩
                obtain rfl : w = w' := hw'.symm
                go_wp2
                go_ret
                exact ⟨ret_int HRR.out, rfl⟩
            | none =>
              rw [hcw] at hc1
              have HC3 : Hid (colF f (s.data.toList.drop e) e = R) := hc1
              have hco := colW_none hcw
              obtain ⟨z5, hz5⟩ : ∃ z, Lib.indexByte y.data.toList 58 = z := ⟨_, rfl⟩
              obtain ⟨z4, hz4⟩ : ∃ z, Lib.indexByte y.data.toList 40 = z := ⟨_, rfl⟩
              rw [hz5] at H58 hco
              rw [hz4] at H40 hco
              clear hgo hend hcw hc1 h1 h2 h3 h4 h5 hz5 hz4 hnb hcol HEND
              rcases hcase with hx | ⟨hx, hb⟩
              · by_cases hz50 : 0 ≤ z5
                · have hz40 : ¬ z4 < 0 := by omega
                  go_wp2_with fail
                  refine (H58.out _).mono ?_
                  rintro e w' ⟨rfl, hw'⟩
                  obtain rfl : w = w' := hw'.symm
                  go_wp2_with fail
                  refine (H40.out _).mono ?_
                  rintro e w' ⟨rfl, hw'⟩
                  obtain rfl : w = w' := hw'.symm
                  go_wp2
                  exact ⟨⟨e, f, rfl, hes, by omega, by trivial, HC3⟩, by simp [intOf]; omega⟩
                · go_wp2_with fail
                  refine (H58.out _).mono ?_
                  rintro e w' ⟨rfl, hw'⟩
                  obtain rfl : w = w' := hw'.symm
                  go_wp2
                  exact ⟨⟨e, f, rfl, hes, by omega, by trivial, HC3⟩, by simp [intOf]; omega⟩
              · have q5 : (e : Int) < s.size := by omega
                have hB2 := Lib.hid (blankR_any (s[e]))
                rw [hb] at hB2
                clear hb
                by_cases hz50 : 0 ≤ z5
                · have hz40 : ¬ z4 < 0 := by omega
                  go_wp2_with fail
                  refine (hB2.out _).mono ?_
                  rintro e w' ⟨rfl, hw'⟩
                  obtain rfl : w = w' := hw'.symm
                  go_wp2_with fail
                  refine (H58.out _).mono ?_
                  rintro e w' ⟨rfl, hw'⟩
                  obtain rfl : w = w' := hw'.symm
                  go_wp2_with fail
                  refine (H40.out _).mono ?_
                  rintro e w' ⟨rfl, hw'⟩
                  obtain rfl : w = w' := hw'.symm
                  go_wp2
                  exact ⟨⟨e, f, rfl, hes, by omega, by trivial, HC3⟩, by simp [intOf]; omega⟩
                · go_wp2_with fail
                  refine (hB2.out _).mono ?_
                  rintro e w' ⟨rfl, hw'⟩
                  obtain rfl : w = w' := hw'.symm
                  go_wp2_with fail
                  refine (H58.out _).mono ?_
                  rintro e w' ⟨rfl, hw'⟩
                  obtain rfl : w = w' := hw'.symm
                  go_wp2
                  exact ⟨⟨e, f, rfl, hes, by omega, by trivial, HC3⟩, by simp [intOf]; omega⟩
      · rw [hq] at hB
        have hc1 := hcol.out
        rw [drop_get s i hlt, colF, if_pos hq] at hc1
        have HC := Lib.hid hc1
        clear hq hc1 hcol
        go_wp2_with fail
        refine (hB.out _).mono ?_
        rintro e w' ⟨rfl, hw'⟩
        obtain rfl : w = w' := hw'.symm
        go_wp2
        exact ⟨⟨i + 1, f, by go_num, by omega, by omega, by trivial, HC⟩, by simp [intOf]; omega⟩
    · obtain rfl : i = s.size := by omega
      have HRR : Hid (R = -1) := by
        unfold Hid; rw [← hcol.out, List.drop_eq_nil_of_le (by rw [toList_len]; exact Nat.le_refl _)]
        cases f <;> rfl
      clear hcol
      go_wp2
      go_ret
      exact ⟨ret_int HRR.out.symm, rfl⟩
end Go.Proofs.YtmcemaphhlcjfaaDoor
