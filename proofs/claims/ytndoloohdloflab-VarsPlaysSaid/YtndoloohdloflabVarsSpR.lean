/- What Special answers in the reference; conditions: texts that lie in memory. -/
import Derived.Test.YtndoloohdloflabVarsSpc
import Derived.Test.YtndoloohdloflabSplitR
namespace Go.Proofs.Ytndoloohdloflab
open Go.RowKit Go.Maps

set_option maxRecDepth 100000 in
set_option maxHeartbeats 1000000 in
theorem refSpecial_any (w : World) (rr : Nat) (l : List Vr) (name : ByteArray) (hn : name.size ≤ 140737488351232) (H : RefAt w rr l) (hv : ∀ k x, getV l k = some x → x.value.size ≤ 5000) :
    Calls Try.prog 41 #[.pointer (some ⟨rr, 0, none⟩), .string name] w fun e w' => e = .returned (.tuple #[.string (spc l name).1, .bool (spc l name).2]) ∧ Below w.heap.size w w' := by
  by_cases h2 : name.size = 2
  · obtain ⟨a, b, rfl⟩ := two_of name h2
    clear h2 hn
    obtain ⟨ix, hix⟩ : ∃ ix, Lib.indexByte spcK a = ix := ⟨_, rfl⟩
    have HC : Hid (∀ w, Calls Try.prog 66 #[.string ⟨#[64, 37, 60, 63, 94, 43, 42, 124]⟩, .int .u8 a.toNat] w fun e w' => e = .returned (.int .i64 ix) ∧ w' = w) := fun w => by
      have := refIndex_any ⟨#[64, 37, 60, 63, 94, 43, 42, 124]⟩ a.toNat a rfl w (by show 8 ≤ 140737488351232; decide)
      rw [← hix]
      simpa [spcK] using this
    have HG := Lib.hid (refGet_any w rr l ⟨#[a]⟩ H)
    obtain ⟨r, hr⟩ : ∃ r, getV l ⟨#[a]⟩ = r := ⟨_, rfl⟩
    rw [hr] at HG
    have HV : Hid (∀ x, r = some x → x.value.size ≤ 5000) := fun x hx => hv _ x (by rw [hr]; exact hx)
    have hs : spc l ⟨#[a, b]⟩ = if ix < 0 then (⟨#[]⟩, false) else if b = 68 then spcV false r else if b = 70 then spcV true r else (⟨#[]⟩, false) := by rw [← hix, ← hr]; rfl
    obtain ⟨S, hS⟩ : ∃ S, spc l ⟨#[a, b]⟩ = S := ⟨_, rfl⟩
    rw [hS] at hs ⊢
    clear hS hix hr hv
    have hB : ((⟨#[a, b]⟩ : ByteArray)[1]'(by show 1 < 2; decide)) = b := rfl
    have hX : ByteArray.extract ⟨#[a, b]⟩ 0 1 = ⟨#[a]⟩ := by apply ba_ext; simp
    by_cases hb : b = 68 ∨ b = 70
    · obtain ⟨F, hF, hsF, hF0⟩ : ∃ F : Bool, S = (if ix < 0 then (⟨#[]⟩, false) else spcV F r) ∧ ((b.toNat : Int) == 70) = F ∧ (((b.toNat : Int) != 68) = false ∨ (((b.toNat : Int) != 68) = true ∧ ((b.toNat : Int) != 70) = false)) := by
        rcases hb with rfl | rfl
        · exact ⟨false, hs, rfl, .inl rfl⟩
        · exact ⟨true, hs, rfl, .inr ⟨rfl, rfl⟩⟩
      clear hs
      by_cases hneg : ix < 0
      · rw [if_pos hneg] at hF
        subst hF
        rcases hF0 with h68 | ⟨h68, h70⟩
        all_goals
          go_enter Try.func41, Try.ntmps41
          go_wp2_with (go_at_call 66; refine (HC.out _).mono ?_; rintro e w' ⟨rfl, hw'⟩; obtain rfl := hw'.symm)
          go_ret2
          exact ⟨rfl, Below.refl _ _⟩
      · rw [if_neg hneg] at hF
        have HS := Lib.hid hF
        clear hF hb
        rcases r with _ | ⟨n0, v0, f0, o0, e0⟩
        · obtain rfl : S = (⟨#[]⟩, false) := HS.out
          have HG2 : Hid (Calls Try.prog 47 #[.pointer (some ⟨rr, 0, none⟩), .string ⟨#[a]⟩] w fun e w' => e = .returned (.tuple #[.agg #[.string ⟨#[]⟩, .string ⟨#[]⟩, .int .i64 0, .int .i64 0, .int .i64 0], .bool false]) ∧ Below w.heap.size w w') := HG.out
          clear HG
          rcases hF0 with h68 | ⟨h68, h70⟩
          all_goals
            go_enter Try.func41, Try.ntmps41
            go_wp2_with (first | (go_at_call 66; refine (HC.out _).mono ?_; rintro e w' ⟨rfl, hw'⟩; obtain rfl := hw'.symm) | (go_at_call 47; refine HG2.out.mono ?_; rintro e w1 ⟨rfl, g1⟩))
            go_ret2
            exact ⟨rfl, g1.alloc g1.size _⟩
        · have HG2 : Hid (Calls Try.prog 47 #[.pointer (some ⟨rr, 0, none⟩), .string ⟨#[a]⟩] w fun e w' => e = .returned (.tuple #[.agg #[.string n0, .string v0, .int .i64 f0, .int .i64 o0, .int .i64 e0], .bool true]) ∧ Below w.heap.size w w') := HG.out
          clear HG
          by_cases ho : o0 = 7
          · have hvs : v0.size ≤ 5000 := HV.out _ rfl
            obtain rfl : S = (joinB ((wordsB v0).map (fX F)), true) := by rw [HS.out, spcV]; simp [ho]
            have h1 := totL_words v0
            have h2 := totL_fX F (wordsB v0)
            have h3 := joinB_size ((wordsB v0).map (fX F))
            have h4 := len_totL (wordsB v0)
            have HZ : Hid (∀ (k : Nat) (x : ByteArray), (wordsB v0)[k]? = some x → x.size ≤ 10000) := fun k x hx => by have := mem_totL (List.mem_of_getElem? hx); omega
            have HSp := Lib.hid fun w => SplitR_any v0 (by omega) w
            have HJ := Lib.hid fun w1 A2 c (h : StrsAt w1 A2 ((wordsB v0).map (fX F))) (hc : ((wordsB v0).map (fX F)).length ≤ c) => JoinR_any w1 A2 c ((wordsB v0).map (fX F)) h (by omega) (by rw [List.length_map]; omega)
            have hn : (wordsB v0).length ≤ 100000 := by omega
            obtain ⟨R, hR⟩ : ∃ R, joinB ((wordsB v0).map (fX F)) = R := ⟨_, rfl⟩
            rw [hR] at HJ ⊢
            obtain ⟨X, hX⟩ : ∃ X, wordsB v0 = X := ⟨_, rfl⟩
            rw [hX] at HSp HJ hn HZ
            obtain ⟨n, hN⟩ : ∃ n, X.length = n := ⟨_, rfl⟩
            rw [List.length_map, hN] at HJ
            rw [hN] at HSp hn
            have HN := Lib.hid hN
            clear hX h1 h2 h3 h4 hR hN HS
            have HD := Lib.hid fun x (hx : x.size ≤ 140737488351232) (w : World) => refDir_any x w hx
            have HND := Lib.hid fun x (hx : x.size ≤ 140737488351232) (w : World) => refNotDir_any x w hx
            rcases hF0 with h68 | ⟨h68, h70⟩
            all_goals
              go_enter Try.func41, Try.ntmps41
              go_wp2_with (first | (go_at_call 66; refine (HC.out _).mono ?_; rintro e w' ⟨rfl, hw'⟩; obtain rfl := hw'.symm) | (go_at_call 47; refine HG2.out.mono ?_; rintro e w1 ⟨rfl, g1⟩) | (go_at_call 25; refine (HSp.out _).mono ?_; rintro e w3 ⟨v, rfl, hv, hb3⟩; have HB3 := (g1.alloc g1.size _).trans (hb3.mono (by have := g1.size; simp; omega)); have HV3 := Lib.hid (hv.lower (base' := w.heap.size) (by have := g1.size; simp; omega)); clear hv hb3; obtain ⟨A, c, rfl, hc1, hc2⟩ := HV3.out.form))
            all_goals
              go_loopw [9, 10] (fun t _ wi => ∃ k : Nat, t = .int .i64 k ∧ k ≤ n ∧ Below w.heap.size w wi ∧ Hid (LwAt wi w.heap.size A n c X (fX F) k)) (fun t _ _ => n - (intOf t).toNat)
              case atStart => exact ⟨0, rfl, Nat.zero_le _, HB3, by simpa [Hid, LwAt] using HV3.out⟩
              case round =>
                obtain ⟨k, rfl, hk, hbel, hlw⟩ := hrel
                by_cases hlt : k < n
                · obtain ⟨x, hx⟩ : ∃ x, X[k]? = some x := ⟨_, List.getElem?_eq_getElem (by rw [HN.out]; exact hlt)⟩
                  obtain ⟨g, rfl, hg, hcl, hfr, hs1, hs2⟩ := hlw.out.form hx
                  have q1 : (k : Int) < n := by omega
                  have hxz := HZ.out k x hx
                  have HX1 := Lib.hid (HND.out x (by omega))
                  have HX2 := Lib.hid (HD.out x (by omega))
                  have hbel1 := Lib.hid fun y => hbel.setCell (p := ⟨g, k, none⟩) hg y
                  have hbel2 := Lib.hid fun y z => (hbel.setCell (p := ⟨g, k, none⟩) hg y).setCell (p := ⟨g, k, none⟩) hg z
                  clear hlw hx
                  cases F
                  · have hdp := dirB_pos x
                    have hdl := dirB_le x
                    by_cases hd : ((dirB x).toList == [47]) = true
                    · have HS1 : Hid (LwAt (wr.setCell ⟨g, k, none⟩ (.string (dirB x))) w.heap.size (some ⟨g, 0, none⟩) n c X (fX false) (k + 1)) := by
                        have e : fX false x = dirB x := by simp only [fX, dc, hd]; rfl
                        rw [← e]; exact hs1
                      generalize dirB x = d at *
                      clear hs1 hs2
                      go_wp2_with (go_at_call 68; refine (HX2.out _).mono ?_; rintro e w' ⟨rfl, hw'⟩; obtain rfl := hw'.symm)
                      exact ⟨⟨k + 1, by go_num, by omega, hbel1.out _, HS1⟩, by simp [intOf]; omega⟩
                    · have HS1 : Hid (LwAt (wr.setCell ⟨g, k, none⟩ (.string ((dirB x).extract 0 ((dirB x).size - 1)))) w.heap.size (some ⟨g, 0, none⟩) n c X (fX false) (k + 1)) := by
                        have e : fX false x = (dirB x).extract 0 ((dirB x).size - 1) := by simp only [fX, dc, hd]; rfl
                        rw [← e]; exact hs1
                      have hd2 : ((dirB x).toList == [47]) = false := by simpa using hd
                      have w1 : IntKind.i64.wrap (((dirB x).size : Int) - 1) = (((dirB x).size - 1 : Nat) : Int) := by rw [IntWalk.i64_in _ (by omega)]; omega
                      have w2 : (0 : Int) ≤ ((dirB x).size : Int) - 1 := by omega
                      have w3 : (dirB x).size - 1 ≤ (dirB x).size := by omega
                      generalize dirB x = d at *
                      clear hs1 hs2 hd
                      go_wp2_with (go_at_call 68; refine (HX2.out _).mono ?_; rintro e w' ⟨rfl, hw'⟩; obtain rfl := hw'.symm)
                      exact ⟨⟨k + 1, by go_num, by omega, hbel1.out _, HS1⟩, by simp [intOf]; omega⟩
                  · have HS1 : Hid (LwAt (wr.setCell ⟨g, k, none⟩ (.string (ndB x))) w.heap.size (some ⟨g, 0, none⟩) n c X (fX true) (k + 1)) := hs1
                    generalize ndB x = d at *
                    clear hs1 hs2
                    go_wp2_with (go_at_call 67; refine (HX1.out _).mono ?_; rintro e w' ⟨rfl, hw'⟩; obtain rfl := hw'.symm)
                    exact ⟨⟨k + 1, by go_num, by omega, hbel1.out _, HS1⟩, by simp [intOf]; omega⟩
                · obtain rfl : k = n := by omega
                  have q1 : ¬ (k : Int) < k := by omega
                  have HJ2 := Lib.hid (HJ.out wr A c (by
                    have h := hlw.out
                    unfold LwAt at h
                    rw [List.take_of_length_le (by rw [HN.out]; omega), List.drop_eq_nil_of_le (by rw [HN.out]; omega), List.append_nil] at h
                    exact h.strsAt) hc1)
                  clear hlw
                  go_wp2_with (go_at_call 32; refine HJ2.out.mono ?_; rintro e w5 ⟨rfl, hb5⟩)
                  go_ret2
                  exact ⟨rfl, hbel.trans (hb5.mono hbel.size)⟩
          · obtain rfl : S = (⟨#[]⟩, false) := by rw [HS.out, spcV]; simp [ho]
            rcases hF0 with h68 | ⟨h68, h70⟩
            all_goals
              go_enter Try.func41, Try.ntmps41
              go_wp2_with (first | (go_at_call 66; refine (HC.out _).mono ?_; rintro e w' ⟨rfl, hw'⟩; obtain rfl := hw'.symm) | (go_at_call 47; refine HG2.out.mono ?_; rintro e w1 ⟨rfl, g1⟩))
              go_ret2
              exact ⟨rfl, g1.alloc g1.size _⟩
    · have h68 : ((b.toNat : Int) != 68) = true := by rw [bne_iff_ne]; intro h; exact hb (.inl (UInt8.toNat_inj.1 (by show b.toNat = 68; omega)))
      have h70 : ((b.toNat : Int) != 70) = true := by rw [bne_iff_ne]; intro h; exact hb (.inr (UInt8.toNat_inj.1 (by show b.toNat = 70; omega)))
      have hs2 : S = (⟨#[]⟩, false) := by
        rw [hs]; split
        · rfl
        · rw [if_neg (fun e => hb (.inl e)), if_neg (fun e => hb (.inr e))]
      clear hs
      subst hs2
      go_enter Try.func41, Try.ntmps41
      go_wp2
      go_ret2
      exact ⟨rfl, Below.refl _ _⟩
  · have hne : (name.size : Int) ≠ 2 := by omega
    rw [spc_not h2]
    go_enter Try.func41, Try.ntmps41
    go_wp2
    go_ret2
    exact ⟨rfl, Below.refl _ _⟩
end Go.Proofs.Ytndoloohdloflab
