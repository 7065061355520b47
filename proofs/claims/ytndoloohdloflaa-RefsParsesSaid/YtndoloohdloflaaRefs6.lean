/- The arguments of a function, cut at commas, in the reference; condition: texts of at most a million bytes. -/
import Derived.Test.YtndoloohdloflaaRefs5
namespace Go.Proofs.Ytndoloohdloflaa
open Go.RowKit

set_option maxRecDepth 100000 in
set_option maxHeartbeats 2000000 in
theorem arguments_any (s : ByteArray) (most : Int) (w : World) (hs : s.size ≤ 1000000) :
    Calls Try.prog 105 #[.string s, .int .i64 most] w fun e W' => ∃ v, e = .returned v ∧ OwnG W' w.heap.size 9 1 v (cutI most s).length ((cutI most s).map Value.string) ∧ Below w.heap.size w W' := by
  obtain ⟨i0, hi, hz0, hz1, hz2⟩ := info_parts Try.info9
  obtain ⟨i5, hi5, hz50, hz51, hz52⟩ := info_parts Try.info5
  obtain ⟨R, hR⟩ : ∃ R, cutL most s.data.toList [] [] [] = R := ⟨_, rfl⟩
  have e1 : cutI most s = R.map mk := by rw [cutI, hR]
  rw [e1, List.length_map]
  have HR := Lib.hid hR
  clear hR e1
  go_enter Try.func105, Try.ntmps105
  go_wp2
  go_loopw [5, 6, 7, 8, 9] (fun v fv u iv _ wi => ∃ (k fr : Nat) (st : List UInt8) (out : List (List UInt8)), iv = .int .i64 k ∧ fv = .int .i64 fr ∧ fr ≤ k ∧ k ≤ s.size ∧ st.length ≤ k ∧ out.length ≤ k ∧ OwnG wi w.heap.size 5 1 u st.length (Lib.byteCells st) ∧ OwnG wi w.heap.size 9 1 v out.length (mkS out) ∧ Below w.heap.size w wi ∧ Hid (cutL most (s.data.toList.drop k) (s.extract fr k).data.toList st out = R)) (fun _ _ _ iv _ _ => s.size - (intOf iv).toNat)
  case atStart =>
    refine ⟨0, 0, [], [], rfl, rfl, Nat.le_refl _, Nat.zero_le _, Nat.le_refl _, Nat.le_refl _, OwnG.nil _ _ _ _, OwnG.nil _ _ _ _, Below.refl _ w, ?_⟩
    unfold Hid
    have e0 : (s.extract 0 0).data.toList = [] := by rw [extract_list]; simp
    rw [e0]; exact HR.out
  case round =>
    obtain ⟨k, fr, st, out, rfl, rfl, hfk, hk, hsl, hol, hstk, hown, hbel, hrel⟩ := hrel
    have hsz := hbel.size
    obtain ⟨A1, c1, rfl, hc1, _⟩ := hown.form
    obtain ⟨A2, c2, rfl, hc2, _⟩ := hstk.form
    obtain ⟨L, hL⟩ : ∃ L, out.length = L := ⟨_, rfl⟩
    by_cases hlt : k < s.size
    · have q1 : (k : Int) < s.size := by omega
      have hst := cut_step most s fr k st out hfk hlt
      rw [hrel.out] at hst
      by_cases h1 : s[k] = 40 ∨ s[k] = 123
      · rw [if_pos h1] at hst
        have HS := Lib.hid hst.symm
        have h4 : (s[k].toNat : Int) = 40 ∨ (s[k].toNat : Int) = 123 := by
          rcases h1 with h | h
          · left; rw [h]; rfl
          · right; rw [h]; rfl
        have HO := Lib.hid (hstk.below ((Below.refl _ wr).alloc (Nat.le_refl _) (.cells #[.int .u8 s[k].toNat] 5)))
        have HOW := Lib.hid (fun w' (hg : World.grownBy (wr.alloc (.cells #[.int .u8 s[k].toNat] 5)) w' (Value.slice A2 st.length c2).ownBlock) => (hown.below ((Below.refl _ wr).alloc (Nat.le_refl _) _)).aside hg (fun k e => HO.out.typed k e) (by decide))
        rw [hL] at HOW
        clear h1 hst hrel hown hstk
        obtain ⟨z, hz⟩ : ∃ z, (s[k].toNat : Int) = z := ⟨_, rfl⟩
        have ebc := Lib.hid (bcells_app st (s[k]))
        rw [hz] at h4 HO HOW ebc
        rcases h4 with rfl | rfl
        all_goals
          go_wp2_with (at_builtin; refine wpList_append_G _ rfl _ _ 76 rfl w.heap.size 5 i5 (.int .u8 0) 1 1 Try.underlying76 hi5 hz50 hz51 hz52 rfl (.slice A2 st.length c2) st.length (Lib.byteCells st) rfl HO.out ⟨_, 0, none⟩ 1 1 [.int .u8 _] rfl rfl (cell_one_new _ _ _) (by simp [Value.oneCell']) (by omega) (by unfold maxLen; omega) (by omega) (by simp; omega) ?_; intro g cap w1 hown1 hgrow1 _ _)
          have hb1 : Below w.heap.size w w1 := (hbel.alloc hbel.size _).grown hgrow1 (by simp; omega) (fun j hj => (HO.out.block_lt j hj).1)
          exact ⟨⟨k + 1, fr, st ++ [s[k]], out, by go_num, rfl, by omega, by omega, by simp; omega, by omega, by rw [ebc.out, List.length_append]; exact hown1, by rw [hL]; exact HOW.out w1 hgrow1, hb1, HS⟩, by simp [intOf]; omega⟩
      · rw [if_neg h1] at hst
        have n1 : ((s[k].toNat : Int) == 40) = false := by rw [beq_eq_false_iff_ne]; intro h; exact h1 (.inl (UInt8.toNat_inj.1 (by show s[k].toNat = 40; omega)))
        have n2 : ((s[k].toNat : Int) == 123) = false := by rw [beq_eq_false_iff_ne]; intro h; exact h1 (.inr (UInt8.toNat_inj.1 (by show s[k].toNat = 123; omega)))
        clear h1
        by_cases h2 : s[k] = 41
        · rw [if_pos h2] at hst
          have hx : (s[k].toNat : Int) = 41 := by rw [h2]; rfl
          have HS := Lib.hid hst.symm
          have hpl := popIf_len 40 st
          clear h2 hst hrel
          rcases List.eq_nil_or_concat st with rfl | ⟨l, t, rfl⟩
          · rw [hL] at hown hc1
            go_wp2
            exact ⟨⟨k + 1, fr, [], out, by go_num, rfl, by omega, by omega, by simp, by omega, hstk, by rw [hL]; exact hown, hbel, HS⟩, by simp [intOf]; omega⟩
          · rw [List.concat_eq_append] at hstk HS hsl hpl
            have e1 : (l ++ [t]).length = l.length + 1 := by simp
            obtain ⟨g2, hA2⟩ : ∃ g2, A2 = some ⟨g2, 0, none⟩ := by
              rcases hstk.2 with ⟨_, h0⟩ | ⟨g2, cap, cur, h, _⟩
              · simp at h0
              · cases h; exact ⟨g2, rfl⟩
            subst hA2
            have hcl : wr.cell? ⟨g2, l.length, none⟩ = some (.int .u8 t.toNat) := hstk.cells l.length _ (by rw [bcells_app, List.getElem?_append_right (by rw [bcells_len]; exact Nat.le_refl _), bcells_len]; simp)
            have hT := Lib.hid (hstk.take l.length c2 (by rw [e1]; omega) (by have := hc2; simp at this; omega) (Nat.le_refl _))
            rw [Nat.mul_one, bcells_app, List.take_append_of_le_length (by rw [bcells_len]; exact Nat.le_refl _), List.take_of_length_le (by rw [bcells_len]; exact Nat.le_refl _)] at hT
            rw [e1] at hsl
            have hstk' := Lib.hid hstk
            clear hstk
            have hc2' : l.length + 1 ≤ c2 := by simpa using hc2
            have p1 : (0 : Int) ≤ (l.length : Int) := by omega
            have p3 : (l.length : Int) ≤ c2 := by omega
            have p4 : IntKind.i64.wrap ((l.length : Int) + 1 - 1) = (l.length : Int) := by rw [IntWalk.i64_in _ (by omega)]; omega
            have p5 : (0 : Int) < (l.length : Int) + 1 := by omega
            by_cases htc : t = 40
            · subst htc
              have HP : popIf 40 (l ++ [40]) = l := by simp [popIf]
              rw [HP] at HS
              have ht2 : (UInt8.toNat 40 : Int) = 40 := rfl
              rw [hL] at hown hc1
              clear hpl HP
              go_wp2
              exact ⟨⟨k + 1, fr, l, out, by go_num, rfl, by omega, by omega, by omega, by omega, hT.out, by rw [hL]; exact hown, hbel, HS⟩, by simp [intOf]; omega⟩
            · have HP : popIf 40 (l ++ [t]) = l ++ [t] := by simp [popIf, htc]
              rw [HP] at HS
              have hn : ((t.toNat : Int) == 40) = false := by rw [beq_eq_false_iff_ne]; intro h; exact htc (UInt8.toNat_inj.1 (by show t.toNat = 40; omega))
              rw [hL] at hown hc1
              clear htc hpl HP
              go_wp2
              exact ⟨⟨k + 1, fr, l ++ [t], out, by go_num, rfl, by omega, by omega, by simp; omega, by omega, by simpa using hstk'.out, by rw [hL]; exact hown, hbel, HS⟩, by simp [intOf]; omega⟩
        rw [if_neg h2] at hst
        have m41 : ((s[k].toNat : Int) == 41) = false := by rw [beq_eq_false_iff_ne]; intro h; exact h2 (UInt8.toNat_inj.1 (by show s[k].toNat = 41; omega))
        clear h2
        by_cases h2 : s[k] = 125
        · rw [if_pos h2] at hst
          have hx : (s[k].toNat : Int) = 125 := by rw [h2]; rfl
          have HS := Lib.hid hst.symm
          have hpl := popIf_len 123 st
          clear h2 hst hrel
          rcases List.eq_nil_or_concat st with rfl | ⟨l, t, rfl⟩
          · rw [hL] at hown hc1
            go_wp2
            exact ⟨⟨k + 1, fr, [], out, by go_num, rfl, by omega, by omega, by simp, by omega, hstk, by rw [hL]; exact hown, hbel, HS⟩, by simp [intOf]; omega⟩
          · rw [List.concat_eq_append] at hstk HS hsl hpl
            have e1 : (l ++ [t]).length = l.length + 1 := by simp
            obtain ⟨g2, hA2⟩ : ∃ g2, A2 = some ⟨g2, 0, none⟩ := by
              rcases hstk.2 with ⟨_, h0⟩ | ⟨g2, cap, cur, h, _⟩
              · simp at h0
              · cases h; exact ⟨g2, rfl⟩
            subst hA2
            have hcl : wr.cell? ⟨g2, l.length, none⟩ = some (.int .u8 t.toNat) := hstk.cells l.length _ (by rw [bcells_app, List.getElem?_append_right (by rw [bcells_len]; exact Nat.le_refl _), bcells_len]; simp)
            have hT := Lib.hid (hstk.take l.length c2 (by rw [e1]; omega) (by have := hc2; simp at this; omega) (Nat.le_refl _))
            rw [Nat.mul_one, bcells_app, List.take_append_of_le_length (by rw [bcells_len]; exact Nat.le_refl _), List.take_of_length_le (by rw [bcells_len]; exact Nat.le_refl _)] at hT
            rw [e1] at hsl
            have hstk' := Lib.hid hstk
            clear hstk
            have hc2' : l.length + 1 ≤ c2 := by simpa using hc2
            have p1 : (0 : Int) ≤ (l.length : Int) := by omega
            have p3 : (l.length : Int) ≤ c2 := by omega
            have p4 : IntKind.i64.wrap ((l.length : Int) + 1 - 1) = (l.length : Int) := by rw [IntWalk.i64_in _ (by omega)]; omega
            have p5 : (0 : Int) < (l.length : Int) + 1 := by omega
            by_cases htc : t = 123
            · subst htc
              have HP : popIf 123 (l ++ [123]) = l := by simp [popIf]
              rw [HP] at HS
              have ht2 : (UInt8.toNat 123 : Int) = 123 := rfl
              rw [hL] at hown hc1
              clear hpl HP
              go_wp2
              exact ⟨⟨k + 1, fr, l, out, by go_num, rfl, by omega, by omega, by omega, by omega, hT.out, by rw [hL]; exact hown, hbel, HS⟩, by simp [intOf]; omega⟩
            · have HP : popIf 123 (l ++ [t]) = l ++ [t] := by simp [popIf, htc]
              rw [HP] at HS
              have hn : ((t.toNat : Int) == 123) = false := by rw [beq_eq_false_iff_ne]; intro h; exact htc (UInt8.toNat_inj.1 (by show t.toNat = 123; omega))
              rw [hL] at hown hc1
              clear htc hpl HP
              go_wp2
              exact ⟨⟨k + 1, fr, l ++ [t], out, by go_num, rfl, by omega, by omega, by simp; omega, by omega, by simpa using hstk'.out, by rw [hL]; exact hown, hbel, HS⟩, by simp [intOf]; omega⟩
        rw [if_neg h2] at hst
        have m125 : ((s[k].toNat : Int) == 125) = false := by rw [beq_eq_false_iff_ne]; intro h; exact h2 (UInt8.toNat_inj.1 (by show s[k].toNat = 125; omega))
        clear h2
        by_cases h2 : s[k] = 44
        · have hx : (s[k].toNat : Int) = 44 := by rw [h2]; rfl
          by_cases h3 : st = []
          · subst h3
            by_cases h5 : most < 0 ∨ (out.length : Int) + 1 < most
            · rw [if_pos ⟨h2, rfl, h5⟩] at hst
              have HS := Lib.hid hst.symm
              have HO := Lib.hid (hown.below ((Below.refl _ wr).alloc (Nat.le_refl _) (.cells #[.string (s.extract fr k)] 9)))
              have HST := Lib.hid (fun w' (hg : World.grownBy (wr.alloc (.cells #[.string (s.extract fr k)] 9)) w' (Value.slice A1 out.length c1).ownBlock) => (hstk.below ((Below.refl _ wr).alloc (Nat.le_refl _) _)).aside hg (fun k e => HO.out.typed k e) (by decide))
              rw [hL] at HO HST hol h5 hown hc1 ⊢
              clear h2 hst hrel hstk
              by_cases h6 : most < 0
              · go_wp2_with (at_builtin; refine wpList_append_G _ rfl _ _ 30 rfl w.heap.size 9 i0 (.string ⟨#[]⟩) 1 16 Try.underlying30 hi hz0 hz1 hz2 rfl (.slice A1 L c1) L (mkS out) rfl HO.out ⟨_, 0, none⟩ 1 1 [.string (s.extract fr k)] rfl rfl (cell_one_new _ _ _) (by simp [Value.oneCell']) (by omega) (by unfold maxLen; omega) (by omega) (by simp; omega) ?_; intro g cap w1 hown1 hgrow1 _ _)
                have hb1 : Below w.heap.size w w1 := (hbel.alloc hbel.size _).grown hgrow1 (by simp; omega) (fun j hj => (HO.out.block_lt j hj).1)
                exact ⟨⟨k + 1, k + 1, [], out ++ [(s.extract fr k).data.toList], by go_num, by go_num, by omega, by omega, by simp, by simp; omega, HST.out w1 hgrow1, by rw [mkS_app, List.length_append, hL]; exact hown1, hb1, HS⟩, by simp [intOf]; omega⟩
              · have h7 : (L : Int) + 1 < most := by omega
                go_wp2_with (at_builtin; refine wpList_append_G _ rfl _ _ 30 rfl w.heap.size 9 i0 (.string ⟨#[]⟩) 1 16 Try.underlying30 hi hz0 hz1 hz2 rfl (.slice A1 L c1) L (mkS out) rfl HO.out ⟨_, 0, none⟩ 1 1 [.string (s.extract fr k)] rfl rfl (cell_one_new _ _ _) (by simp [Value.oneCell']) (by omega) (by unfold maxLen; omega) (by omega) (by simp; omega) ?_; intro g cap w1 hown1 hgrow1 _ _)
                have hb1 : Below w.heap.size w w1 := (hbel.alloc hbel.size _).grown hgrow1 (by simp; omega) (fun j hj => (HO.out.block_lt j hj).1)
                exact ⟨⟨k + 1, k + 1, [], out ++ [(s.extract fr k).data.toList], by go_num, by go_num, by omega, by omega, by simp, by simp; omega, HST.out w1 hgrow1, by rw [mkS_app, List.length_append, hL]; exact hown1, hb1, HS⟩, by simp [intOf]; omega⟩
            · rw [if_neg (by intro h; exact h5 h.2.2)] at hst
              have HS := Lib.hid hst.symm
              rw [hL] at hol h5 hown hc1
              have h6 : ¬ most < 0 := fun h => h5 (.inl h)
              have h7 : ¬ (L : Int) + 1 < most := fun h => h5 (.inr h)
              clear h2 hst hrel h5
              go_wp2
              exact ⟨⟨k + 1, fr, [], out, by go_num, rfl, by omega, by omega, by simp, by omega, hstk, by rw [hL]; exact hown, hbel, HS⟩, by simp [intOf]; omega⟩
          · rw [if_neg (by intro h; exact h3 h.2.1)] at hst
            have HS := Lib.hid hst.symm
            have h6 : ¬ st.length = 0 := fun h => h3 (List.eq_nil_of_length_eq_zero h)
            rw [hL] at hol hown hc1
            clear h2 hst hrel h3
            go_wp2
            exact ⟨⟨k + 1, fr, st, out, by go_num, rfl, by omega, by omega, by omega, by omega, hstk, by rw [hL]; exact hown, hbel, HS⟩, by simp [intOf]; omega⟩
        · rw [if_neg (by intro h; exact h2 h.1)] at hst
          have n5 : ((s[k].toNat : Int) == 44) = false := by rw [beq_eq_false_iff_ne]; intro h; exact h2 (UInt8.toNat_inj.1 (by show s[k].toNat = 44; omega))
          have HS := Lib.hid hst.symm
          rw [hL] at hol hown hc1
          clear h2 hst hrel
          go_wp2
          exact ⟨⟨k + 1, fr, st, out, by go_num, rfl, by omega, by omega, by omega, by omega, hstk, by rw [hL]; exact hown, hbel, HS⟩, by simp [intOf]; omega⟩
    · obtain rfl : k = s.size := by omega
      have HW : Hid (R = out ++ [(s.extract fr s.size).data.toList]) := by
        unfold Hid; rw [← hrel.out, List.drop_eq_nil_of_le (by simp), cutL]
      have HO := Lib.hid (hown.below ((Below.refl _ wr).alloc (Nat.le_refl _) (.cells #[.string (s.extract fr s.size)] 9)))
      rw [hL] at HO hol hown hc1 ⊢
      clear hrel
      go_wp2_with (at_builtin; refine wpList_append_G _ rfl _ _ 30 rfl w.heap.size 9 i0 (.string ⟨#[]⟩) 1 16 Try.underlying30 hi hz0 hz1 hz2 rfl (.slice A1 L c1) L (mkS out) rfl HO.out ⟨_, 0, none⟩ 1 1 [.string (s.extract fr s.size)] rfl rfl (cell_one_new _ _ _) (by simp [Value.oneCell']) (by omega) (by unfold maxLen; omega) (by omega) (by simp; omega) ?_; intro g cap w1 hown1 hgrow1 _ _)
      have hb1 : Below w.heap.size w w1 := (hbel.alloc hbel.size _).grown hgrow1 (by simp; omega) (fun j hj => (HO.out.block_lt j hj).1)
      go_ret
      refine ⟨_, rfl, ?_, hb1⟩
      rw [HW.out, List.length_append, hL]
      have e9 : ((out ++ [(s.extract fr s.size).data.toList]).map mk).map Value.string = mkS out ++ [.string (s.extract fr s.size)] := mkS_app _ _
      rw [e9]
      exact hown1
end Go.Proofs.Ytndoloohdloflaa
