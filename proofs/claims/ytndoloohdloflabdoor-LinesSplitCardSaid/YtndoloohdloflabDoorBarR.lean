/- The reference's bare line, and its count of backslashes ahead of a place; condition: texts that lie in memory. -/
import Derived.Test.YtndoloohdloflabDoorBar2
import Derived.Test.YtndoloohdloflabDoorOwn
namespace Go.Proofs.YtndoloohdloflabDoor
open Go.RowKit

theorem Tryd.info5 : (Tryd.prog.info? 5).map (fun i => (i.zero, i.size, i.bytes)) = some (some (.int .u8 0), 1, 1) := by kernel_rfl
theorem Tryd.info9 : (Tryd.prog.info? 9).map (fun i => (i.zero, i.size, i.bytes)) = some (some (.string ⟨#[]⟩), 1, 16) := by kernel_rfl
theorem bcells_app (l : List UInt8) (x : UInt8) : Lib.byteCells (l ++ [x]) = Lib.byteCells l ++ [.int .u8 x.toNat] := by simp [Lib.byteCells]
theorem bcells_len (l : List UInt8) : (Lib.byteCells l).length = l.length := by simp [Lib.byteCells]
theorem conv43 {W : World} {base : Nat} {v : Value} {bs : List UInt8} (hg : OwnG W base 5 1 v bs.length (Lib.byteCells bs)) : (convert 43 9 v).run Tryd.prog W = .ok (.string (mk bs)) W := by
  rcases hg.2 with ⟨rfl, h0⟩ | ⟨g, cap, cur, rfl, hb, _⟩
  · have e : bs = [] := List.eq_nil_of_length_eq_zero h0
    subst e
    exact run_convert_bytes_nil W 43 5 Tryd.underlying43 Tryd.underlying5 0 0 9 Tryd.underlying9
  · refine run_convert_bytes_back W 43 9 5 ⟨g, 0, none⟩ cap bs Tryd.underlying43 Tryd.underlying5 Tryd.underlying9 fun j hj => ?_
    have e2 : Addr.add ⟨g, 0, none⟩ j = ⟨g, j, none⟩ := by
      simp only [Addr.add]
      split
      · subst_vars; rfl
      · simp
    rw [e2]
    exact hg.cells j _ (by simp [Lib.byteCells, hj])

set_option maxRecDepth 100000 in
theorem slashesR_any (s : ByteArray) (p : Nat) (w : World) (hs : s.size ≤ 140737488351232) (hp : p ≤ s.size) :
    Calls Tryd.prog 25 #[.string s, .int .i64 p] w fun e w' => e = .returned (.int .i64 (sl (s.data.toList.take p))) ∧ w' = w := by
  obtain ⟨R, hR⟩ : ∃ R, sl (s.data.toList.take p) = R := ⟨_, rfl⟩
  rw [hR]
  have HR := Lib.hid hR
  have hRb : R ≤ p := by rw [← hR]; have := sl_le (s.data.toList.take p); simp at this; omega
  clear hR
  go_enter Tryd.func25, Tryd.ntmps25
  go_wp2
  go_loopw [5] (fun n wi => ∃ k : Nat, n = .int .i64 (k : Int) ∧ k ≤ p ∧ Hid (k + sl (s.data.toList.take (p - k)) = R) ∧ wi = w) (fun n _ => (p - (intOf n).toNat))
  case atStart => exact ⟨0, rfl, Nat.zero_le _, by unfold Hid; rw [Nat.sub_zero, Nat.zero_add]; exact HR.out, rfl⟩
  case round =>
    obtain ⟨k, rfl, hk, hr, rfl⟩ := hrel
    by_cases hz : k = p
    · subst hz
      have hR2 : k = R := by
        have := hr.out
        rw [Nat.sub_self, List.take_zero] at this
        simpa [sl] using this
      clear hr
      subst hR2
      have q1 : ¬ ((0 : Int) ≤ (k : Int) - 1 - k) := by omega
      go_wp2
      go_ret
      exact ⟨rfl, rfl⟩
    · obtain ⟨j, hj⟩ : ∃ j, p - k = j + 1 := ⟨p - k - 1, by omega⟩
      obtain ⟨x, hx⟩ : ∃ x, s[j]'(by omega) = x := ⟨_, rfl⟩
      have hsn : sl (s.data.toList.take (p - k)) = if x == 92 then sl (s.data.toList.take j) + 1 else 0 := by
        rw [hj, take_snoc s j (by omega), hx, sl_snoc]
      have q0 : IntKind.i64.wrap ((p : Int) - 1) = p - 1 := IntWalk.i64_in _ (by omega)
      have q1 : IntKind.i64.wrap ((p : Int) - 1 - k) = j := by rw [IntWalk.i64_in _ (by omega)]; omega
      have q2 : (0 : Int) ≤ j := by omega
      have q3 : (j : Int) < s.size := by omega
      have q4 : j < s.size := by omega
      by_cases h92 : x = 92
      · have hb : ((x.toNat : Int) == 92) = true := by rw [h92]; rfl
        rw [if_pos (by rw [h92]; rfl)] at hsn
        have hr2 : Hid (k + 1 + sl (s.data.toList.take (p - (k + 1))) = R) := by unfold Hid; have := hr.out; rw [show p - (k + 1) = j by omega]; omega
        clear hsn hr
        go_wp2
        exact ⟨⟨k + 1, by go_num, by omega, hr2, trivial⟩, by simp [intOf]; omega⟩
      · have hb : ((x.toNat : Int) == 92) = false := by rw [beq_eq_false_iff_ne]; intro h; exact h92 (UInt8.toNat_inj.1 (by show x.toNat = 92; omega))
        rw [if_neg (by simpa using h92)] at hsn
        have hR2 : k = R := by have := hr.out; omega
        clear hsn hr
        subst hR2
        go_wp2
        go_ret
        exact ⟨rfl, rfl⟩

set_option maxRecDepth 100000 in
set_option maxHeartbeats 2000000 in
theorem BareR_any (s : ByteArray) (w : World) (hs : s.size ≤ 140737488300000) :
    Calls Tryd.prog 13 #[.string s] w fun e w' => e = .returned (.string (bare s)) ∧ Below w.heap.size w w' := by
  obtain ⟨i5, hi5, hz50, hz51, hz52⟩ := info_parts Tryd.info5
  obtain ⟨R, hR⟩ : ∃ R, bareL [] [] s.data.toList = R := ⟨_, rfl⟩
  have e1 : bare s = mk R := by unfold bare; rw [hR]
  rw [e1]
  have HR := Lib.hid hR
  clear hR e1
  go_enter Tryd.func13, Tryd.ntmps13
  go_wp2
  go_loopw [3, 4] (fun v iv wi => ∃ (k : Nat) (bs : List UInt8), iv = .int .i64 k ∧ k ≤ s.size ∧ bs.length ≤ k ∧ (0 < k → 0 < bs.length) ∧ OwnG wi w.heap.size 5 1 v bs.length (Lib.byteCells bs) ∧ Below w.heap.size w wi ∧ Hid (bareL (s.data.toList.take k) bs (s.data.toList.drop k) = R)) (fun _ iv _ => s.size - (intOf iv).toNat)
  case atStart => exact ⟨0, [], rfl, Nat.zero_le _, Nat.le_refl _, fun h => absurd h (Nat.lt_irrefl 0), OwnG.nil _ _ _ _, Below.refl _ w, HR.out⟩
  case round =>
    obtain ⟨k, bs, rfl, hk, hbl, hpos, hown, hbel, hrel⟩ := hrel
    have hsz := hbel.size
    obtain ⟨A, c, rfl, hc1, hc2⟩ := hown.form
    by_cases hlt : k < s.size
    · have q1 : (k : Int) < s.size := by omega
      obtain ⟨x, hx⟩ : ∃ x, s[k] = x := ⟨_, rfl⟩
      have hdr : s.data.toList.drop k = x :: s.data.toList.drop (k + 1) := by rw [← hx, List.drop_eq_getElem_cons (by simpa using hlt)]; rfl
      have htk := take_snoc s k hlt
      rw [hx] at htk
      have hst := hrel.out
      rw [hdr, bareL, ← htk] at hst
      clear hdr htk hrel
      by_cases h35 : x = 35
      · subst h35
        have hxn : (UInt8.toNat 35 : Int) = 35 := rfl
        simp only [beq_self_eq_true, if_true] at hst
        have HS := Lib.hid (slashesR_any s k wr (by omega) hk)
        obtain ⟨n, hn⟩ : ∃ n, sl (s.data.toList.take k) = n := ⟨_, rfl⟩
        have hnk : n ≤ k := by rw [← hn]; have := sl_le (s.data.toList.take k); simp at this; omega
        rw [hn] at hst HS
        by_cases hev : n % 2 = 0
        · rw [if_pos hev] at hst
          have qa : (n : Int).tmod 2 = 0 := by rw [Int.tmod_eq_emod_of_nonneg (by omega)]; omega
          have hcv := conv43 hown
          clear hown hn
          replace hst := Lib.hid hst
          go_wp2_with fail
          refine HS.out.mono ?_
          rintro e w1 ⟨rfl, rfl⟩
          go_wp2
          go_ret
          exact ⟨by rw [hst.out]; rfl, hbel⟩
        · rw [if_neg hev] at hst
          have hk0 : 0 < k := by
            rcases Nat.eq_zero_or_pos k with h | h
            · omega
            · exact h
          have qa : (n : Int).tmod 2 = 1 := by rw [Int.tmod_eq_emod_of_nonneg (by omega)]; omega
          replace hst := Lib.hid hst
          obtain ⟨l, t, rfl⟩ : ∃ l t, bs = l ++ [t] := by
            rcases List.eq_nil_or_concat bs with rfl | ⟨l, t, rfl⟩
            · have := hpos hk0; simp at this
            · exact ⟨l, t, by simp⟩
          have e1 : (l ++ [t]).length = l.length + 1 := by simp
          have hT := hown.take l.length c (by rw [e1]; omega) (by rw [e1] at hc1; omega) (Nat.le_refl _)
          rw [Nat.mul_one, bcells_app, List.take_append_of_le_length (by rw [bcells_len]; exact Nat.le_refl _), List.take_of_length_le (by rw [bcells_len]; exact Nat.le_refl _)] at hT
          rw [e1] at hbl hc1
          have HO := Lib.hid (hT.below ((Below.refl _ wr).alloc (Nat.le_refl _) (.cells #[.int .u8 35] 5)))
          have hst2 : Hid (bareL (s.data.toList.take (k + 1)) (l ++ [35]) (s.data.toList.drop (k + 1)) = R) := by
            unfold Hid
            have := hst.out
            simpa using this
          have ebc := Lib.hid (bcells_app l 35)
          have p4 : IntKind.i64.wrap ((l.length : Int) + 1 - 1) = (l.length : Int) := by rw [IntWalk.i64_in _ (by omega)]; omega
          have p3 : (l.length : Int) ≤ c := by omega
          clear hown hn hT hst
          go_wp2_with fail
          refine HS.out.mono ?_
          rintro e w1 ⟨rfl, rfl⟩
          go_wp2_with (at_builtin; refine wpList_append_G _ rfl _ _ 43 rfl w.heap.size 5 i5 (.int .u8 0) 1 1 Tryd.underlying43 hi5 hz50 hz51 hz52 rfl (.slice A l.length c) l.length (Lib.byteCells l) rfl HO.out ⟨_, 0, none⟩ 1 1 [.int .u8 35] rfl rfl (cell_one_new _ _ _) (by simp [Value.oneCell']) (by omega) (by unfold maxLen; omega) (by omega) (by simp; omega) ?_; intro g cap w2 hown1 hgrow1 _ _)
          have hb1 : Below w.heap.size w w2 := (hbel.alloc hbel.size _).grown hgrow1 (by simp; omega) (fun j hj => (HO.out.block_lt j hj).1)
          exact ⟨⟨k + 1, l ++ [35], by go_num, by omega, by simp; omega, fun _ => by simp, by rw [ebc.out, List.length_append]; exact hown1, hb1, hst2⟩, by simp [intOf]; omega⟩
      · have hxn : ((x.toNat : Int) == 35) = false := by rw [beq_eq_false_iff_ne]; intro h; exact h35 (UInt8.toNat_inj.1 (by show x.toNat = 35; omega))
        rw [if_neg (by simpa using h35)] at hst
        replace hst := Lib.hid hst
        have HO := Lib.hid (hown.below ((Below.refl _ wr).alloc (Nat.le_refl _) (.cells #[.int .u8 x.toNat] 5)))
        have ebc := Lib.hid (bcells_app bs x)
        clear hown
        go_wp2_with (at_builtin; refine wpList_append_G _ rfl _ _ 43 rfl w.heap.size 5 i5 (.int .u8 0) 1 1 Tryd.underlying43 hi5 hz50 hz51 hz52 rfl (.slice A bs.length c) bs.length (Lib.byteCells bs) rfl HO.out ⟨_, 0, none⟩ 1 1 [.int .u8 x.toNat] rfl rfl (cell_one_new _ _ _) (by simp [Value.oneCell']) (by omega) (by unfold maxLen; omega) (by omega) (by simp; omega) ?_; intro g cap w2 hown1 hgrow1 _ _)
        have hb1 : Below w.heap.size w w2 := (hbel.alloc hbel.size _).grown hgrow1 (by simp; omega) (fun j hj => (HO.out.block_lt j hj).1)
        exact ⟨⟨k + 1, bs ++ [x], by go_num, by omega, by simp; omega, fun _ => by simp, by rw [ebc.out, List.length_append]; exact hown1, hb1, hst⟩, by simp [intOf]; omega⟩
    · obtain rfl : k = s.size := by omega
      have hst := hrel.out
      rw [List.drop_of_length_le (by simp), bareL] at hst
      replace hst := Lib.hid hst
      have hcv := conv43 hown
      clear hown hrel
      go_wp2
      go_ret
      exact ⟨by rw [hst.out]; rfl, hbel⟩
end Go.Proofs.YtndoloohdloflabDoor
