/- The first colon in a word that has no bracket, in the program and in the reference; conditions: a text of at most a million bytes, the library's one number in its cell. -/
import Derived.Test.YtmcemaphhlcjfaaDoorColonP
namespace Go.Proofs.YtmcemaphhlcjfaaDoor
open Go.RowKit

theorem drop_get (s : ByteArray) (i : Nat) (h : i < s.size) : s.data.toList.drop i = s[i] :: s.data.toList.drop (i + 1) := by
  rw [List.drop_eq_getElem_cons (by simpa using h), get_list' s i h]
theorem toList_len (s : ByteArray) : s.data.toList.length = s.size := by rw [Array.length_toList]; rfl
theorem blank_ne (c : UInt8) (h : isB c = true) : c ≠ 58 := by rintro rfl; cases h

set_option maxRecDepth 100000 in
set_option maxHeartbeats 4000000 in
theorem Colon_any (s : ByteArray) (hs : s.size ≤ 1000000) (w : World) (hw : 1 < w.heap.size) (m : Int) (hm : w.cell? ⟨1, 0, none⟩ = some (.int .i64 m)) :
    Calls Tryd.prog 73 #[.string s] w fun e W' => e = .returned (.int .i64 (colonB s)) ∧ Below w.heap.size w W' := by
  have HS := Lib.hid fun w => Split_any s (by omega) w
  obtain ⟨R, hR⟩ : ∃ R, colonB s = R := ⟨_, rfl⟩
  rw [hR]
  have HR : Hid (colF s.size (s.data.toList.drop 0) 0 = R) := hR
  have HF : Hid (wordsB s = (fieldsL (s.data.toList.drop 0)).map mk) := rfl
  have hwl := wordsB_len s
  clear hR
  generalize wordsB s = xs at *
  obtain ⟨N, hN⟩ : ∃ N, xs.length = N := ⟨_, rfl⟩
  rw [hN] at HS hwl
  have HN := Lib.hid hN
  clear hN
  go_enter Tryd.func73, Tryd.ntmps73
  go_wp2
  refine wp_scope_straight ?_
  go_wp2
  refine wp_label ?_
  rename_i K hK
  refine hK _ _ ?_
  go_wp2_with fail
  refine (HS.out _).mono ?_
  rintro e w1 ⟨v1, rfl, ho1, hb1⟩
  obtain ⟨A1, c1, rfl, hc1, _⟩ := ho1.form
  have hm1 : w1.cell? ⟨1, 0, none⟩ = some (.int .i64 m) := by rw [hb1.cell (p := ⟨1, 0, none⟩) hw]; exact hm
  have HIX := Lib.hid fun (t y : ByteArray) (h : t.size < 4294967281) => Tryd.strings_Index t y m w1 h hm1
  have HSA := Lib.hid ho1.strsAt
  have HB1 := Lib.hid hb1
  clear ho1 hb1 hm1 hm HS
  go_wp2
  go_loopw [3, 5, 6, 10] (fun av _ _ iv wi => ∃ (k at_ f : Nat), iv = .int .i64 k ∧ av = .int .i64 at_ ∧ k ≤ N ∧ at_ ≤ s.size ∧ s.size ≤ f + at_ ∧ wi = w1 ∧ Hid (xs.drop k = (fieldsL (s.data.toList.drop at_)).map mk) ∧ Hid (colF f (s.data.toList.drop at_) at_ = R)) (fun _ _ _ iv _ => N - (intOf iv).toNat)
  case atStart => exact ⟨0, 0, s.size, rfl, rfl, Nat.zero_le _, Nat.zero_le _, by omega, rfl, HF, HR⟩
  case round =>
    obtain ⟨k, p, f, rfl, rfl, hk, hp, hf, hwr, hxs, hcol⟩ := hrel
    obtain rfl : w1 = wr := hwr.symm
    have hdl : (s.data.toList.drop p).length = s.size - p := by rw [List.length_drop, toList_len]
    by_cases hlt : k < N
    · obtain ⟨x, hx1⟩ : ∃ x, xs[k]? = some x := ⟨_, List.getElem?_eq_getElem (by have := HN.out; omega)⟩
      obtain ⟨bb, oo, rfl, kx⟩ := HSA.out k x hx1
      have hxd : xs.drop k = x :: xs.drop (k + 1) := by
        obtain ⟨h1, h2⟩ := List.getElem?_eq_some_iff.1 hx1
        rw [List.drop_eq_getElem_cons h1, h2]
      rcases fields_split (s.data.toList.drop p) with ⟨h1, _⟩ | ⟨b, y, r, h1, h2, h3, h4, h5, h6⟩
      · have := hxs.out; rw [h1, hxd] at this; cases this
      · have hxe := hxs.out
        rw [h6, hxd, List.map_cons] at hxe
        obtain ⟨hxy, hxr⟩ := List.cons.inj hxe
        have hlen : b.length + y.length + r.length = s.size - p := by
          rw [← hdl, h1]; simp; omega
        have hyp : 0 < y.length := by cases y with | nil => exact absurd rfl h3 | cons _ _ => simp
        have hext : (s.extract p s.size).data.toList = s.data.toList.drop p := by rw [extract_list, List.take_of_length_le (by rw [toList_len]; exact Nat.le_refl _)]
        have hidx : Lib.index (s.extract p s.size).data.toList x.data.toList = b.length := by
          rw [hext, h1, hxy]; exact index_word y r h3 h4 b h2
        have HIX1 := Lib.hid (HIX.out (s.extract p s.size) x (by simp; omega))
        rw [hidx] at HIX1
        have hd2 : s.data.toList.drop (p + b.length + y.length) = r := by
          rw [← List.drop_drop, ← List.drop_drop, h1, List.drop_left, List.drop_left]
        have hc1' := hcol.out
        rw [h1, colF_blank b (y ++ r) f p h2 (by omega)] at hc1'
        obtain ⟨f1, hf1⟩ : ∃ f1, f - b.length = f1 + 1 := ⟨f - b.length - 1, by omega⟩
        rw [hf1, colF_word y r f1 (p + b.length) h3 h4 h5] at hc1'
        have H58 : Hid (∀ w, Calls Tryd.prog 50 #[.string x, .int .u8 58] w fun e w' => e = .returned (.int .i64 (Lib.indexByte y 58)) ∧ w' = w) := fun w => by
          have h := Tryd.strings_IndexByte x 58 w; rw [hxy] at h ⊢; exact h
        have H40 : Hid (∀ w, Calls Tryd.prog 50 #[.string x, .int .u8 40] w fun e w' => e = .returned (.int .i64 (Lib.indexByte y 40)) ∧ w' = w) := fun w => by
          have h := Tryd.strings_IndexByte x 40 w; rw [hxy] at h ⊢; exact h
        have hxsz : x.size = y.length := by rw [hxy]; rfl
        have q1 : (k : Int) < N := by omega
        have hp2 : p + b.length + y.length ≤ s.size := by omega
        have v1 : IntKind.i64.wrap ((p : Int) + (b.length : Int)) = ((p + b.length : Nat) : Int) := by rw [IntWalk.i64_in _ (by omega)]; omega
        have v2 : IntKind.i64.wrap ((((p + b.length : Nat) : Int)) + (x.size : Int)) = ((p + b.length + y.length : Nat) : Int) := by rw [IntWalk.i64_in _ (by omega)]; omega
        have v2' : IntKind.i64.wrap ((p : Int) + (b.length : Int) + (x.size : Int)) = ((p + b.length + y.length : Nat) : Int) := by rw [IntWalk.i64_in _ (by omega)]; omega
        cases hcw : colW y with
        | some q =>
          obtain ⟨i1, i2, i3⟩ := colW_some hcw
          rw [hcw] at hc1'
          have hR : R = ((p + b.length + q : Nat) : Int) := by rw [← hc1']; simp
          obtain ⟨z, hz⟩ : ∃ z, Lib.indexByte y 40 = z := ⟨_, rfl⟩
          rw [i1] at H58
          rw [hz] at H40 i2
          have hq1 : p + b.length + q < s.size := by omega
          have hch : s[p + b.length + q] = 58 := by
            obtain ⟨g1, g2⟩ := idx_get y 58 q i1
            have e1 := drop_get s (p + b.length + q) hq1
            have e2 : s.data.toList.drop (p + b.length + q) = (y ++ r).drop q := by rw [← List.drop_drop, ← List.drop_drop, h1, List.drop_left]
            rw [e2, List.drop_append_of_le_length (by omega), List.drop_eq_getElem_cons g1, g2] at e1
            exact (List.cons.inj e1).1.symm
          have HXA : ∀ pt, pt = p + b.length + q → ∃ h : pt < s.size, (s[pt].toNat : Int) = 58 := fun pt e => by subst e; exact ⟨hq1, by rw [hch]; rfl⟩
          have HRR := Lib.hid hR
          clear v2 v2' hxs hcol hcw hc1' hxe hxy hxr h1 h2 h3 h4 h5 h6 hd2 hidx hext hxd hx1 hch hR i1 hz hlen hf1 hq1
          generalize b.length = bl at *
          obtain ⟨pb, hpb⟩ : ∃ pb, p + bl = pb := ⟨_, rfl⟩
          rw [hpb] at v1
          simp only [hpb] at HXA HRR hp2
          have v3 : IntKind.i64.wrap ((pb : Int) + (q : Int)) = ((pb + q : Nat) : Int) := by rw [IntWalk.i64_in _ (by omega)]; omega
          obtain ⟨pt, hpt⟩ : ∃ pt, pb + q = pt := ⟨_, rfl⟩
          rw [hpt] at v3
          simp only [hpt] at HRR
          obtain ⟨hq1, hx3⟩ := HXA pt hpt.symm
          have hq1' := hq1
          clear HXA
          have q8 : (pt : Int) < s.size := by omega
          clear hpt hp2
          clear hpb
          go_wp2_with fail
          refine HIX1.out.mono ?_
          rintro e w' ⟨rfl, hw'⟩
          obtain rfl : w1 = w' := hw'.symm
          go_wp2_with fail
          refine (H58.out _).mono ?_
          rintro e w' ⟨rfl, hw'⟩
          obtain rfl : w1 = w' := hw'.symm
          go_wp2_with fail
          refine (H40.out _).mono ?_
          rintro e w' ⟨rfl, hw'⟩
          obtain rfl : w1 = w' := hw'.symm
          go_wp2
          change bodyPost Tryd.prog Tryd.f73 (fun e W' => e = .returned (.int .i64 R) ∧ Below w.heap.size w W') Exit.ret _ _
          go_ret
          exact ⟨ret_int HRR.out.symm, HB1.out⟩
        | none =>
          rw [hcw] at hc1'
          have HC3 : Hid (colF f1 (s.data.toList.drop (p + b.length + y.length)) (p + b.length + y.length) = R) := by unfold Hid; rw [hd2]; exact hc1'
          have HX3 : Hid (xs.drop (k + 1) = (fieldsL (s.data.toList.drop (p + b.length + y.length))).map mk) := by unfold Hid; rw [hd2]; exact hxr
          have hf2 : s.size ≤ f1 + (p + b.length + y.length) := by omega
          have hco := colW_none hcw
          obtain ⟨z5, hz5⟩ : ∃ z, Lib.indexByte y 58 = z := ⟨_, rfl⟩
          obtain ⟨z4, hz4⟩ : ∃ z, Lib.indexByte y 40 = z := ⟨_, rfl⟩
          rw [hz5] at H58 hco
          rw [hz4] at H40 hco
          clear v2 v2' hxs hcol hcw hc1' hxe hxy hxr h1 h2 h3 h4 h5 h6 hd2 hidx hext hxd hx1 hz5 hz4 hlen hf1
          generalize b.length = bl at *
          generalize y.length = yl at *
          obtain ⟨pb, hpb⟩ : ∃ pb, p + bl = pb := ⟨_, rfl⟩
          rw [hpb] at v1
          simp only [hpb] at HC3 HX3 hf2 hp2
          have v3 : IntKind.i64.wrap ((pb : Int) + (x.size : Int)) = ((pb + yl : Nat) : Int) := by rw [IntWalk.i64_in _ (by omega)]; omega
          obtain ⟨pt, hpt⟩ : ∃ pt, pb + yl = pt := ⟨_, rfl⟩
          rw [hpt] at v3
          simp only [hpt] at HC3 HX3 hf2 hp2
          clear hpt hpb hxsz
          by_cases hz50 : 0 ≤ z5
          · have hz40 : ¬ z4 < 0 := by omega
            go_wp2_with fail
            refine HIX1.out.mono ?_
            rintro e w' ⟨rfl, hw'⟩
            obtain rfl : w1 = w' := hw'.symm
            go_wp2_with fail
            refine (H58.out _).mono ?_
            rintro e w' ⟨rfl, hw'⟩
            obtain rfl : w1 = w' := hw'.symm
            go_wp2_with fail
            refine (H40.out _).mono ?_
            rintro e w' ⟨rfl, hw'⟩
            obtain rfl : w1 = w' := hw'.symm
            go_wp2
            exact ⟨⟨k + 1, pt, f1, by go_num, rfl, by omega, by omega, hf2, by trivial, HX3, HC3⟩, by simp [intOf]; omega⟩
          · go_wp2_with fail
            refine HIX1.out.mono ?_
            rintro e w' ⟨rfl, hw'⟩
            obtain rfl : w1 = w' := hw'.symm
            go_wp2_with fail
            refine (H58.out _).mono ?_
            rintro e w' ⟨rfl, hw'⟩
            obtain rfl : w1 = w' := hw'.symm
            go_wp2
            exact ⟨⟨k + 1, pt, f1, by go_num, rfl, by omega, by omega, hf2, by trivial, HX3, HC3⟩, by simp [intOf]; omega⟩
    · obtain rfl : k = N := by omega
      have hnil := hxs.out
      rw [List.drop_eq_nil_of_le (by have := HN.out; omega)] at hnil
      have hbl : ∀ c ∈ s.data.toList.drop p, isB c = true := by
        rcases fields_split (s.data.toList.drop p) with ⟨_, h2⟩ | ⟨b, y, r, h1, h2, h3, h4, h5, h6⟩
        · exact h2
        · rw [h6] at hnil; cases hnil
      have hR1 : R = -1 := by rw [← hcol.out]; exact colF_end f _ p hbl (by omega)
      have HRR := Lib.hid hR1
      have hcase : (s.size ≤ p) ∨ ∃ h : p < s.size, ((s[p].toNat : Int) != 58) = true := by
        rcases Nat.lt_or_ge p s.size with h | h
        · right
          refine ⟨h, ?_⟩
          rw [drop_get s p h] at hbl
          have hb := hbl s[p] (by simp)
          generalize s[p] = c at hb ⊢
          have e : ((c.toNat : Int) == 58) = (c == 58) := u8_eq c 58
          rw [bne, e, beq_eq_false_iff_ne.2 (blank_ne c hb)]; rfl
        · exact .inl h
      clear hnil hbl hR1 hxs hcol
      rcases hcase with h | ⟨h, hx3⟩
      · have q8 : ¬ (p : Int) < s.size := by omega
        go_wp2
        change bodyPost Tryd.prog Tryd.f73 (fun e W' => e = .returned (.int .i64 R) ∧ Below w.heap.size w W') Exit.ret _ _
        go_ret
        exact ⟨ret_int HRR.out.symm, HB1.out⟩
      · have q8 : (p : Int) < s.size := by omega
        go_wp2
        change bodyPost Tryd.prog Tryd.f73 (fun e W' => e = .returned (.int .i64 R) ∧ Below w.heap.size w W') Exit.ret _ _
        go_ret
        exact ⟨ret_int HRR.out.symm, HB1.out⟩
end Go.Proofs.YtmcemaphhlcjfaaDoor
