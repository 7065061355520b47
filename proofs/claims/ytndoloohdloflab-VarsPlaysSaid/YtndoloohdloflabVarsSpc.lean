/- What Special answers, in the program and in the reference; conditions: texts that lie in memory. -/
import Derived.Test.YtndoloohdloflabVP
import Derived.Test.YtndoloohdloflabVarsRef3
import Derived.Test.YtndoloohdloflabTextJoi
namespace Go.Proofs.Ytndoloohdloflab
open Go.RowKit Go.Maps

/-- a directory without its last byte, the root as it is -/
def dc (x : ByteArray) : ByteArray := if (dirB x).toList == [47] then dirB x else (dirB x).extract 0 ((dirB x).size - 1)
def fX (F : Bool) (x : ByteArray) : ByteArray := if F then ndB x else dc x
def spcK : List UInt8 := [64, 37, 60, 63, 94, 43, 42, 124]
def spcV (F : Bool) (r : Option Vr) : ByteArray × Bool := match r with
  | some v => if v.origin = 7 then (joinB ((wordsB v.value).map (fX F)), true) else (⟨#[]⟩, false)
  | none => (⟨#[]⟩, false)
def spc (l : List Vr) (name : ByteArray) : ByteArray × Bool := match name.data.toList with
  | [a, b] => if Lib.indexByte spcK a < 0 then (⟨#[]⟩, false) else if b = 68 then spcV false (getV l ⟨#[a]⟩) else if b = 70 then spcV true (getV l ⟨#[a]⟩) else (⟨#[]⟩, false)
  | _ => (⟨#[]⟩, false)
theorem two_of (s : ByteArray) (h : s.size = 2) : ∃ a b, s = ⟨#[a, b]⟩ := by
  obtain ⟨⟨l⟩⟩ := s
  match l, h with
  | [a, b], _ => exact ⟨a, b, rfl⟩
theorem spc_not {l : List Vr} {name : ByteArray} (h : name.size ≠ 2) : spc l name = (⟨#[]⟩, false) := by
  obtain ⟨⟨s⟩⟩ := name
  match s, h with
  | [], _ => rfl
  | [_], _ => rfl
  | [a, b], h => exact absurd rfl h
  | _ :: _ :: _ :: _, _ => rfl
theorem dirB_pos (x : ByteArray) : 1 ≤ (dirB x).size := by
  unfold dirB
  split
  · decide
  · have := li_b 47 x
    rw [ByteArray.size_extract]; omega
theorem dirB_le (x : ByteArray) : (dirB x).size ≤ x.size + 2 := by
  unfold dirB
  split
  · show 2 ≤ _; omega
  · rw [ByteArray.size_extract]; omega

theorem dc_le (x : ByteArray) : (dc x).size ≤ x.size + 1 := by
  have := dirB_le x
  unfold dc
  split
  · rename_i h
    have : (dirB x).size = 1 := by
      have h2 := congrArg List.length (eq_of_beq h)
      rw [ba_toList] at h2; simpa using h2
    omega
  · rw [ByteArray.size_extract]; omega
theorem fX_le (F : Bool) (x : ByteArray) : (fX F x).size ≤ x.size + 1 := by
  cases F
  · exact dc_le x
  · exact Nat.le_succ_of_le (ndB_le x)
theorem totL_fX (F : Bool) (X : List ByteArray) : totL (X.map (fX F)) ≤ 2 * totL X := by
  induction X with
  | nil => simp [totL]
  | cons x X ih => have := fX_le F x; simp only [List.map_cons, totL]; omega
theorem mem_totL {X : List ByteArray} {x : ByteArray} (h : x ∈ X) : x.size ≤ totL X := by
  induction X with
  | nil => simp at h
  | cons y X ih =>
    simp only [totL]
    rcases List.mem_cons.1 h with rfl | h
    · omega
    · have := ih h; omega
theorem lw_cut {X : List ByteArray} {k : Nat} {x : ByteArray} (h : X[k]? = some x) : X = X.take k ++ x :: X.drop (k + 1) ∧ (X.take k).length = k := by
  obtain ⟨h1, h2⟩ := List.getElem?_eq_some_iff.1 h
  refine ⟨?_, by simp; omega⟩
  rw [← h2, List.getElem_cons_drop, List.take_append_drop]
theorem lw_at (f : ByteArray → ByteArray) {X : List ByteArray} {k : Nat} {x : ByteArray} (h : X[k]? = some x) : (((X.take k).map f ++ X.drop k).map Value.string)[k]? = some (.string x) := by
  obtain ⟨h1, h2⟩ := List.getElem?_eq_some_iff.1 h
  rw [List.getElem?_map, List.getElem?_append_right (by simp; omega)]
  simp only [List.length_map, List.length_take]
  rw [List.getElem?_drop, show k + (k - min k X.length) = k by omega, h]; rfl
theorem lw_set (f : ByteArray → ByteArray) {X : List ByteArray} {k : Nat} {x : ByteArray} (h : X[k]? = some x) : (((X.take k).map f ++ X.drop k).map Value.string).set k (.string (f x)) = ((X.take (k + 1)).map f ++ X.drop (k + 1)).map Value.string := by
  obtain ⟨h1, h2⟩ := List.getElem?_eq_some_iff.1 h
  have hd : X.drop k = x :: X.drop (k + 1) := by rw [← h2, List.getElem_cons_drop]
  have ht : X.take (k + 1) = X.take k ++ [x] := by rw [List.take_succ_eq_append_getElem h1, h2]
  rw [hd, ht, List.map_append, List.set_append_right _ _ (by simp; omega)]
  simp only [List.length_map, List.length_take]
  rw [show k - min k X.length = 0 by omega]
  simp
/-- the words of a value, the first k of them turned, in a slice of one's own -/
def LwAt (w : World) (b : Nat) (A : Option Addr) (n c : Nat) (X : List ByteArray) (f : ByteArray → ByteArray) (k : Nat) : Prop := OwnG w b 9 1 (.slice A n c) n (((X.take k).map f ++ X.drop k).map Value.string)
theorem LwAt.form {w : World} {b : Nat} {A : Option Addr} {n c : Nat} {X : List ByteArray} {f : ByteArray → ByteArray} {k : Nat} (h : LwAt w b A n c X f k) {x : ByteArray} (hx : X[k]? = some x) : ∃ g, A = some ⟨g, 0, none⟩ ∧ b ≤ g ∧ w.cell? ⟨g, k, none⟩ = some (.string x) ∧ w.frozen? ⟨g, k, none⟩ = false ∧
    LwAt (w.setCell ⟨g, k, none⟩ (.string (f x))) b A n c X f (k + 1) ∧ ∀ y, LwAt ((w.setCell ⟨g, k, none⟩ y).setCell ⟨g, k, none⟩ (.string (f x))) b A n c X f (k + 1) := by
  unfold LwAt at *
  have hat := lw_at f hx
  rcases h.2 with ⟨e, h2⟩ | ⟨g, cap, cur, e, hg, hbk, hnc, hcm, hcs, ht⟩
  · have := h.1
    rw [h2, Nat.zero_mul] at this
    rw [List.eq_nil_of_length_eq_zero this] at hat
    simp at hat
  · cases e
    refine ⟨g, rfl, hg, h.cells k _ hat, h.ice k, ?_, fun y => ?_⟩
    · rw [← lw_set f hx]; exact h.setAt k _
    · rw [← lw_set f hx]
      have := (h.setAt k y).setAt k (.string (f x))
      rwa [List.set_set] at this

set_option maxRecDepth 100000 in
set_option maxHeartbeats 1000000 in
theorem Special_any (w : World) (p m : Nat) (l : List Vr) (name : ByteArray) (hn : name.size ≤ 140737488351232) (H : StoreAt w p m l) (hv : ∀ k x, getV l k = some x → x.value.size ≤ 5000) :
    Calls Try.prog 40 #[.pointer (some ⟨p, 0, none⟩), .string name] w fun e w' => e = .returned (.tuple #[.string (spc l name).1, .bool (spc l name).2]) ∧ Below w.heap.size w w' := by
  by_cases h2 : name.size = 2
  · obtain ⟨a, b, rfl⟩ := two_of name h2
    clear h2 hn
    obtain ⟨ix, hix⟩ : ∃ ix, Lib.indexByte spcK a = ix := ⟨_, rfl⟩
    have HC : Hid (∀ w, Calls Try.prog 63 #[.string ⟨#[64, 37, 60, 63, 94, 43, 42, 124]⟩, .int .u8 a.toNat] w fun e w' => e = .returned (.int .i64 ix) ∧ w' = w) := fun w => by
      have := Try.strings_IndexByte ⟨#[64, 37, 60, 63, 94, 43, 42, 124]⟩ a.toNat w
      rw [← hix]
      simpa [spcK] using this
    have HG := Lib.hid (Get_any w p m l ⟨#[a]⟩ (by show 1 ≤ 140737488351232; decide) H)
    obtain ⟨r, hr⟩ : ∃ r, getV l ⟨#[a]⟩ = r := ⟨_, rfl⟩
    rw [hr] at HG
    have HV : Hid (∀ x, r = some x → x.value.size ≤ 5000) := fun x hx => hv _ x (by rw [hr]; exact hx)
    have hs : spc l ⟨#[a, b]⟩ = if ix < 0 then (⟨#[]⟩, false) else if b = 68 then spcV false r else if b = 70 then spcV true r else (⟨#[]⟩, false) := by rw [← hix, ← hr]; rfl
    obtain ⟨S, hS⟩ : ∃ S, spc l ⟨#[a, b]⟩ = S := ⟨_, rfl⟩
    rw [hS] at hs ⊢
    clear hS hix hr hv
    by_cases hneg : ix < 0
    · rw [if_pos hneg] at hs
      subst hs
      go_enter Try.func40, Try.ntmps40
      go_wp2_with (go_at_call 63; refine (HC.out _).mono ?_; rintro e w' ⟨rfl, rfl⟩)
      go_ret2
      exact ⟨rfl, Below.refl _ _⟩
    · rw [if_neg hneg] at hs
      have hB : ((⟨#[a, b]⟩ : ByteArray)[1]'(by show 1 < 2; decide)) = b := rfl
      have hX : ByteArray.extract ⟨#[a, b]⟩ 0 1 = ⟨#[a]⟩ := by apply ba_ext; simp
      by_cases hb : b = 68 ∨ b = 70
      · obtain ⟨F, hF, hsF, hF0⟩ : ∃ F : Bool, S = spcV F r ∧ ((b.toNat : Int) == 70) = F ∧ (((b.toNat : Int) != 68) = false ∨ (((b.toNat : Int) != 68) = true ∧ ((b.toNat : Int) != 70) = false)) := by
          rcases hb with rfl | rfl
          · exact ⟨false, hs, rfl, .inl rfl⟩
          · exact ⟨true, hs, rfl, .inr ⟨rfl, rfl⟩⟩
        clear hs
        have HS := Lib.hid hF
        clear hF hb
        rcases r with _ | ⟨n0, v0, f0, o0, e0⟩
        · obtain rfl : S = (⟨#[]⟩, false) := HS.out
          have HG2 : Hid (Calls Try.prog 46 #[.pointer (some ⟨p, 0, none⟩), .string ⟨#[a]⟩] w fun e w' => e = .returned (.tuple #[.agg #[.string ⟨#[]⟩, .string ⟨#[]⟩, .int .i64 0, .int .i64 0, .int .i64 0], .bool false]) ∧ w.grownBy w' none) := HG.out
          clear HG
          rcases hF0 with h68 | ⟨h68, h70⟩
          all_goals
            go_enter Try.func40, Try.ntmps40
            go_wp2_with (first | (go_at_call 63; refine (HC.out _).mono ?_; rintro e w' ⟨rfl, hw'⟩; obtain rfl := hw'.symm) | (go_at_call 46; refine HG2.out.mono ?_; rintro e w1 ⟨rfl, g1⟩))
            go_ret2
            exact ⟨rfl, ((Below.refl _ w).grown g1 (Nat.le_refl _) (by simp)).alloc g1.size _⟩
        · have HG2 : Hid (Calls Try.prog 46 #[.pointer (some ⟨p, 0, none⟩), .string ⟨#[a]⟩] w fun e w' => e = .returned (.tuple #[.agg #[.string n0, .string v0, .int .i64 f0, .int .i64 o0, .int .i64 e0], .bool true]) ∧ w.grownBy w' none) := HG.out
          clear HG
          by_cases ho : o0 = 7
          · have hvs : v0.size ≤ 5000 := HV.out _ rfl
            obtain rfl : S = (joinB ((wordsB v0).map (fX F)), true) := by rw [HS.out, spcV]; simp [ho]
            have h1 := totL_words v0
            have h2 := totL_fX F (wordsB v0)
            have h3 := joinB_size ((wordsB v0).map (fX F))
            have h4 := len_totL (wordsB v0)
            have HZ : Hid (∀ (k : Nat) (x : ByteArray), (wordsB v0)[k]? = some x → x.size ≤ 10000) := fun k x hx => by have := mem_totL (List.mem_of_getElem? hx); omega
            have HSp := Lib.hid fun w => Split_any v0 (by omega) w
            have HJ := Lib.hid fun w1 A2 c (h : StrsAt w1 A2 ((wordsB v0).map (fX F))) (hc : ((wordsB v0).map (fX F)).length ≤ c) => Join_any w1 A2 c ((wordsB v0).map (fX F)) h hc (by rw [List.length_map]; omega) (by omega)
            have hn : (wordsB v0).length ≤ 100000 := by omega
            obtain ⟨R, hR⟩ : ∃ R, joinB ((wordsB v0).map (fX F)) = R := ⟨_, rfl⟩
            rw [hR] at HJ ⊢
            obtain ⟨X, hX⟩ : ∃ X, wordsB v0 = X := ⟨_, rfl⟩
            rw [hX] at HSp HJ hn HZ
            obtain ⟨n, hN⟩ : ∃ n, X.length = n := ⟨_, rfl⟩
            rw [List.length_map, hN] at HJ
            rw [hN] at HSp hn
            have HN := Lib.hid hN
            clear hX h1 h2 h3 h4 hR hN HS
            have HD := Lib.hid fun x (hx : x.size ≤ 140737488351232) (w : World) => Dir_any x w hx
            have HND := Lib.hid fun x (hx : x.size ≤ 140737488351232) (w : World) => NotDir_any x w hx
            rcases hF0 with h68 | ⟨h68, h70⟩
            all_goals
              go_enter Try.func40, Try.ntmps40
              go_wp2_with (first | (go_at_call 63; refine (HC.out _).mono ?_; rintro e w' ⟨rfl, hw'⟩; obtain rfl := hw'.symm) | (go_at_call 46; refine HG2.out.mono ?_; rintro e w1 ⟨rfl, g1⟩) | (go_at_call 22; refine (HSp.out _).mono ?_; rintro e w3 ⟨v, rfl, hv, hb3⟩; have HB3 := (((Below.refl _ w).grown g1 (Nat.le_refl _) (by simp)).alloc g1.size _).trans (hb3.mono (by have := g1.size; simp; omega)); have HV3 := Lib.hid (hv.lower (base' := w.heap.size) (by have := g1.size; simp; omega)); clear hv hb3; obtain ⟨A, c, rfl, hc1, hc2⟩ := HV3.out.form))
            all_goals
              go_loopw [49, 9, 10] (fun t _ _ wi => ∃ k : Nat, t = .int .i64 k ∧ k ≤ n ∧ Below w.heap.size w wi ∧ Hid (LwAt wi w.heap.size A n c X (fX F) k)) (fun t _ _ _ => n - (intOf t).toNat)
              case atStart => exact ⟨0, rfl, Nat.zero_le _, HB3, by simpa [Hid, LwAt] using HV3.out⟩
              case round =>
                obtain ⟨k, rfl, hk, hbel, hlw⟩ := hrel
                by_cases hlt : k < n
                · obtain ⟨x, hx⟩ : ∃ x, X[k]? = some x := ⟨_, List.getElem?_eq_getElem (by rw [HN.out]; exact hlt)⟩
                  obtain ⟨g, rfl, hg, hcl, hfr, hs1, hs2⟩ := hlw.out.form hx
                  have q1 : (k : Int) < n := by omega
                  have hxz := HZ.out k x hx
                  have HX1 := Lib.hid (HND.out x (by omega))
                  have HX2 := Lib.hid (HD.out x (by omega))
                  have hbel1 := Lib.hid fun y => hbel.setCell (p := ⟨g, k, none⟩) hg y
                  have hbel2 := Lib.hid fun y z => (hbel.setCell (p := ⟨g, k, none⟩) hg y).setCell (p := ⟨g, k, none⟩) hg z
                  clear hlw hx
                  cases F
                  · have hdp := dirB_pos x
                    have hdl := dirB_le x
                    by_cases hd : ((dirB x).toList == [47]) = true
                    · have HS1 : Hid (LwAt (wr.setCell ⟨g, k, none⟩ (.string (dirB x))) w.heap.size (some ⟨g, 0, none⟩) n c X (fX false) (k + 1)) := by
                        have e : fX false x = dirB x := by simp only [fX, dc, hd]; rfl
                        rw [← e]; exact hs1
                      generalize dirB x = d at *
                      clear hs1 hs2
                      go_wp2_with (go_at_call 65; refine (HX2.out _).mono ?_; rintro e w' ⟨rfl, hw'⟩; obtain rfl := hw'.symm)
                      exact ⟨⟨k + 1, by go_num, by omega, hbel1.out _, HS1⟩, by simp [intOf]; omega⟩
                    · have HS1 : Hid (LwAt ((wr.setCell ⟨g, k, none⟩ (.string (dirB x))).setCell ⟨g, k, none⟩ (.string ((dirB x).extract 0 ((dirB x).size - 1)))) w.heap.size (some ⟨g, 0, none⟩) n c X (fX false) (k + 1)) := by
                        have e : fX false x = (dirB x).extract 0 ((dirB x).size - 1) := by simp only [fX, dc, hd]; rfl
                        rw [← e]; exact hs2 _
                      have hd2 : ((dirB x).toList == [47]) = false := by simpa using hd
                      generalize dirB x = d at *
                      clear hs1 hs2 hd
                      go_wp2_with (go_at_call 65; refine (HX2.out _).mono ?_; rintro e w' ⟨rfl, hw'⟩; obtain rfl := hw'.symm)
                      obtain ⟨wx, hwx⟩ : ∃ wx, wr.setCell ⟨g, k, none⟩ (.string d) = wx := ⟨_, rfl⟩
                      have hc2 : wx.cell? ⟨g, k, none⟩ = some (.string d) := by rw [← hwx]; exact World.cell?_setCell_same' _ _ _ (by rw [hcl]; rfl)
                      have hf2 : wx.frozen? ⟨g, k, none⟩ = false := by rw [← hwx, World.frozen?_setCell]; exact hfr
                      have hbx := hbel1.out (.string d)
                      rw [hwx] at HS1 hbx ⊢
                      have HBX := Lib.hid fun y => hbx.drew.setCell (p := ⟨g, k, none⟩) hg y
                      have w1 : IntKind.i64.wrap ((d.size : Int) - 1) = ((d.size - 1 : Nat) : Int) := by rw [IntWalk.i64_in _ (by omega)]; omega
                      have w2 : (0 : Int) ≤ (d.size : Int) - 1 := by omega
                      have w3 : d.size - 1 ≤ d.size := by omega
                      clear hwx hcl hfr hbx
                      go_region
                      go_wp2
                      exact ⟨⟨k + 1, by go_num, by omega, HBX.out _, HS1⟩, by simp [intOf]; omega⟩
                  · have HS1 : Hid (LwAt (wr.setCell ⟨g, k, none⟩ (.string (ndB x))) w.heap.size (some ⟨g, 0, none⟩) n c X (fX true) (k + 1)) := hs1
                    generalize ndB x = d at *
                    clear hs1 hs2
                    go_wp2_with (go_at_call 64; refine (HX1.out _).mono ?_; rintro e w' ⟨rfl, hw'⟩; obtain rfl := hw'.symm)
                    exact ⟨⟨k + 1, by go_num, by omega, hbel1.out _, HS1⟩, by simp [intOf]; omega⟩
                · obtain rfl : k = n := by omega
                  have q1 : ¬ (k : Int) < k := by omega
                  have HJ2 := Lib.hid (HJ.out wr A c (by
                    have h := hlw.out
                    unfold LwAt at h
                    rw [List.take_of_length_le (by rw [HN.out]; omega), List.drop_eq_nil_of_le (by rw [HN.out]; omega), List.append_nil] at h
                    exact h.strsAt) hc1)
                  clear hlw
                  go_wp2_with (go_at_call 30; refine HJ2.out.mono ?_; rintro e w5 ⟨rfl, hb5⟩)
                  go_ret2
                  exact ⟨rfl, hbel.trans (hb5.mono hbel.size)⟩
          · obtain rfl : S = (⟨#[]⟩, false) := by rw [HS.out, spcV]; simp [ho]
            rcases hF0 with h68 | ⟨h68, h70⟩
            all_goals
              go_enter Try.func40, Try.ntmps40
              go_wp2_with (first | (go_at_call 63; refine (HC.out _).mono ?_; rintro e w' ⟨rfl, hw'⟩; obtain rfl := hw'.symm) | (go_at_call 46; refine HG2.out.mono ?_; rintro e w1 ⟨rfl, g1⟩))
              go_ret2
              exact ⟨rfl, ((Below.refl _ w).grown g1 (Nat.le_refl _) (by simp)).alloc g1.size _⟩
      · have h68 : ((b.toNat : Int) != 68) = true := by rw [bne_iff_ne]; intro h; exact hb (.inl (UInt8.toNat_inj.1 (by show b.toNat = 68; omega)))
        have h70 : ((b.toNat : Int) != 70) = true := by rw [bne_iff_ne]; intro h; exact hb (.inr (UInt8.toNat_inj.1 (by show b.toNat = 70; omega)))
        rw [if_neg (fun e => hb (.inl e)), if_neg (fun e => hb (.inr e))] at hs
        subst hs
        go_enter Try.func40, Try.ntmps40
        go_wp2_with (go_at_call 63; refine (HC.out _).mono ?_; rintro e w' ⟨rfl, rfl⟩)
        go_ret2
        exact ⟨rfl, Below.refl _ _⟩
  · have hne : (name.size : Int) ≠ 2 := by omega
    rw [spc_not h2]
    go_enter Try.func40, Try.ntmps40
    go_wp2
    go_ret2
    exact ⟨rfl, Below.refl _ _⟩
end Go.Proofs.Ytndoloohdloflab
