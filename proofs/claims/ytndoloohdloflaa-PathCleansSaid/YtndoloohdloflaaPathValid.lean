/- When a path is valid, for package path and for the reference; condition: a path of at most 2^47 - 4096 bytes. -/
import Derived.Test.YtndoloohdloflaaRunes
import Derived.Test.YtndoloohdloflaaPathLaws
import Derived.Test.YtndoloohdloflaaPatRef
namespace Go.Proofs.Ytndoloohdloflaa
open Go.RowKit
def short (n : ByteArray) : Bool := decide (n.size ≤ 255)
def validB (p : ByteArray) : Bool := decide (p.size ≤ 1000) && (decide (cleanB p = p) && (!hasZ p && (namesB p).all short))
set_option maxRecDepth 100000 in
set_option maxHeartbeats 1000000 in
theorem Valid_walk (p : ByteArray) (w : World) (hs : p.size ≤ 140737488351232) :
    Calls Try.prog 44 #[.string p] w fun e w' => e = .returned (.bool (validB p)) ∧ Below w.heap.size w w' := by
  by_cases c1 : 1000 < p.size
  · have c1' : (1000 : Int) < p.size := by omega
    have e1 : Hid (validB p = false) := by unfold Hid validB; rw [decide_eq_false (by omega)]; rfl
    go_enter Try.func44, Try.ntmps44
    go_wp2
    go_ret
    exact ⟨ret_bool e1.out.symm, Below.refl _ _⟩
  have c1' : ¬ (1000 : Int) < p.size := by omega
  have HC := Lib.hid (Clean_walk p · (by omega))
  have HA := Lib.hid (ContainsAny_zn p · (by omega))
  have HN := Lib.hid (names_walk p · (by omega))
  have hlen := len_tot (namesB p)
  have htn := tot_names p
  have ev : Hid (validB p = (decide (cleanB p = p) && (!hasZ p && (namesB p).all short))) := by unfold Hid validB; rw [decide_eq_true (by omega)]; rfl
  have et : Hid ((!((cleanB p).toList == p.toList)) = !decide (cleanB p = p)) := by
    unfold Hid; rw [ba_toList, ba_toList]; congr 1; rw [Bool.eq_iff_iff, beq_iff_eq, decide_eq_true_eq]; exact ⟨ba_ext, fun h => by rw [h]⟩
  unfold zn at HA
  generalize validB p = vb at *
  generalize cleanB p = cl at *
  generalize hasZ p = z at *
  generalize namesB p = l at *
  by_cases c2 : cl = p
  · have t2 : (!(cl.toList == p.toList)) = false := by rw [et.out, c2]; simp
    have e2 : Hid (vb = (!z && l.all short)) := by unfold Hid; rw [ev.out, c2]; simp
    clear ev et c2
    cases z
    · go_enter Try.func44, Try.ntmps44
      go_wp2_with (first | (go_at_call 40; refine (HC.out _).mono ?_; rintro e w1 ⟨rfl, HB1⟩) | (go_at_call 79; refine (HA.out _).mono ?_; rintro e w2 ⟨rfl, HB2⟩) | (go_at_call 78; refine (HN.out _).mono ?_; rintro e w3 ⟨v, rfl, hv, HB3⟩; obtain ⟨A, c, rfl, hnc, hcm⟩ := hv.form; have HE := Lib.hid (elems_of hv); clear hv))
      go_loop [21] (fun i => ∃ k : Nat, k ≤ l.length ∧ i = .int .i64 k ∧ Hid ((l.take k).all short = true)) (fun i => l.length - (intOf i).toNat)
      case atStart => exact ⟨0, Nat.zero_le _, rfl, rfl⟩
      case round =>
        obtain ⟨k, hk, rfl, hall⟩ := hrel
        by_cases hlt : k < l.length
        · obtain ⟨g, rfl, hcell⟩ := HE.out w3 (Below.refl _ _) k hlt
          have ek : (k : Int).toNat = k := by omega
          have hsn : Hid ((l.take (k + 1)).all short = short l[k]) := by
            unfold Hid; rw [List.take_succ_eq_append_getElem hlt, List.all_append, hall.out]; simp
          have hmem : Hid (short l[k] = false → l.all short = false) := fun h => by
            rw [List.all_eq_false]; exact ⟨l[k], List.getElem_mem hlt, by rw [h]; simp⟩
          generalize l[k] = n at *
          by_cases hn : n.size ≤ 255
          · have hn' : ¬ (255 : Int) < n.size := by omega
            have hs1 : Hid (short n = true) := by unfold Hid short; exact decide_eq_true hn
            go_wp2
            exact ⟨⟨k + 1, by omega, by go_num, by unfold Hid; rw [hsn.out, hs1.out]⟩, by simp [intOf]; omega⟩
          · have hn' : (255 : Int) < n.size := by omega
            have hs1 : Hid (l.all short = false) := hmem.out (decide_eq_false hn)
            go_wp2
            go_ret
            exact ⟨ret_bool (by rw [e2.out, hs1.out]; rfl), bs3 (bs3 HB1 HB2) HB3⟩
        · obtain rfl : k = l.length := by omega
          have hs1 : Hid (l.all short = true) := by have := hall.out; rw [List.take_length] at this; exact this
          go_wp2
          go_ret
          exact ⟨ret_bool (by rw [e2.out, hs1.out]; rfl), bs3 (bs3 HB1 HB2) HB3⟩
    · go_enter Try.func44, Try.ntmps44
      go_wp2_with (first | (go_at_call 40; refine (HC.out _).mono ?_; rintro e w1 ⟨rfl, HB1⟩) | (go_at_call 79; refine (HA.out _).mono ?_; rintro e w2 ⟨rfl, HB2⟩))
      go_ret
      exact ⟨ret_bool (by rw [e2.out]; rfl), bs3 HB1 HB2⟩
  · have t2 : (!(cl.toList == p.toList)) = true := by rw [et.out]; simp [c2]
    have e2 : Hid (vb = false) := by unfold Hid; rw [ev.out]; simp [c2]
    clear ev et c2
    go_enter Try.func44, Try.ntmps44
    go_wp2_with (first | (go_at_call 40; refine (HC.out _).mono ?_; rintro e w1 ⟨rfl, HB1⟩))
    go_ret
    exact ⟨ret_bool e2.out.symm, HB1⟩

/-- A name is fit for the reference: short, and without the two bytes. -/
def fit (n : ByteArray) : Bool := decide (n.size ≤ 255) && (decide (Lib.indexByte n.data.toList 0 < 0) && decide (Lib.indexByte n.data.toList 10 < 0))
theorem indexByte_neg (l : List UInt8) (c : UInt8) : decide (Lib.indexByte l c < 0) = !l.contains c := by
  induction l with
  | nil => rfl
  | cons b l ih =>
    have hg := Lib.indexByte_ge l c
    rw [Lib.indexByte, List.contains_cons]
    by_cases hb : b = c
    · subst hb; simp
    · have e1 : (b == c) = false := by rw [beq_eq_false_iff_ne]; exact hb
      have e2 : (c == b) = false := by rw [beq_eq_false_iff_ne]; exact fun e => hb e.symm
      rw [e1, e2, Bool.false_or, ← ih]
      simp only [Bool.false_eq_true, if_false]
      by_cases h : Lib.indexByte l c = -1
      · simp [h]
      · rw [if_neg (by simpa using h), decide_eq_decide]; omega
theorem any_Z (l : List UInt8) : l.any isZ = (l.contains 0 || l.contains 10) := by
  induction l with
  | nil => rfl
  | cons b l ih =>
    rw [List.any_cons, ih, List.contains_cons, List.contains_cons, isZ, Bool.beq_comm (a := 0), Bool.beq_comm (a := 10)]
    cases b == 0 <;> cases b == 10 <;> simp
theorem fit_eq (n : ByteArray) : fit n = (short n && !hasZ n) := by
  unfold fit short hasZ
  rw [indexByte_neg, indexByte_neg, any_Z, Bool.not_or]
theorem hasZ_join (l : List ByteArray) : hasZ (joinSl l) = l.any hasZ := by
  induction l with
  | nil => decide +kernel
  | cons x l ih =>
    cases l with
    | nil =>
      rw [show joinSl [x] = x by apply ba_ext; show Lib.join _ _ = _; simp [Lib.join]]; simp
    | cons y l =>
      have e : (joinSl (x :: y :: l)).data.toList = x.data.toList ++ 47 :: (joinSl (y :: l)).data.toList := by
        show Lib.join _ _ = _ ++ 47 :: Lib.join _ _
        simp [Lib.join, List.intercalate]
      rw [List.any_cons, ← ih]
      unfold hasZ
      rw [e, List.any_append, List.any_cons]
      rw [show isZ 47 = false from rfl, Bool.false_or]
theorem valid_ref (p : ByteArray) (h : cleanB p = p) : (!hasZ p && (namesB p).all short) = (rnames p).all fit := by
  have e : rnames p = namesB p := by rw [← rnames_clean, h]
  have e2 : hasZ p = (namesB p).any hasZ := by rw [← hasZ_join]; exact (congrArg hasZ h).symm
  rw [e, e2]
  induction namesB p with
  | nil => rfl
  | cons x l ih =>
    rw [List.any_cons, List.all_cons, List.all_cons, ← ih, fit_eq]
    cases hasZ x <;> cases short x <;> simp

set_option maxRecDepth 100000 in
set_option maxHeartbeats 2000000 in
theorem refValid_walk (p : ByteArray) (w : World) (hs : p.size ≤ 140737488351232) :
    Calls Try.prog 46 #[.string p] w fun e w' => e = .returned (.bool (validB p)) ∧ Below w.heap.size w w' := by
  by_cases c1 : 1000 < p.size
  · have c1' : (1000 : Int) < p.size := by omega
    have e1 : Hid (validB p = false) := by unfold Hid validB; rw [decide_eq_false (by omega)]; rfl
    go_enter Try.func46, Try.ntmps46
    go_wp2
    go_ret
    exact ⟨ret_bool e1.out.symm, Below.refl _ _⟩
  have c1' : ¬ (1000 : Int) < p.size := by omega
  have HC := Lib.hid (refClean_walk p · (by omega))
  have HN := Lib.hid (refNames_walk p · (by omega))
  have hlen := len_tot (rnames p)
  have htn := tot_rnames p
  have hsm : Hid (∀ k (h : k < (rnames p).length), (rnames p)[k].size ≤ 2000) := fun k h => by
    have h1 : tot ((rnames p).take k) + tot ((rnames p).drop k) = tot (rnames p) := by rw [← tot_append, List.take_append_drop]
    have h3 : tot ((rnames p).drop k) = ((rnames p)[k].size + 1) + tot ((rnames p).drop (k + 1)) := by rw [List.drop_eq_getElem_cons h]; exact tot_cons _ _
    omega
  have ev : Hid (cleanB p = p → validB p = (rnames p).all fit) := fun h => by
    unfold validB; rw [decide_eq_true (by omega), decide_eq_true h, Bool.true_and, Bool.true_and, valid_ref p h]
  have en : Hid (cleanB p ≠ p → validB p = false) := fun h => by unfold validB; rw [decide_eq_true (by omega), decide_eq_false h]; rfl
  have et : Hid ((!((cleanB p).toList == p.toList)) = !decide (cleanB p = p)) := by
    unfold Hid; rw [ba_toList, ba_toList]; congr 1; rw [Bool.eq_iff_iff, beq_iff_eq, decide_eq_true_eq]; exact ⟨ba_ext, fun h => by rw [h]⟩
  generalize validB p = vb at *
  generalize cleanB p = cl at *
  generalize rnames p = l at *
  by_cases c2 : cl = p
  · have t2 : (!(cl.toList == p.toList)) = false := by rw [et.out, c2]; simp
    have e2 := Lib.hid (ev.out c2)
    clear ev en et c2
    go_enter Try.func46, Try.ntmps46
    go_wp2_with (first | (go_at_call 45; refine (HC.out _).mono ?_; rintro e w1 ⟨rfl, HB1⟩) | (go_at_call 80; refine (HN.out _).mono ?_; rintro e w3 ⟨v, rfl, hv, HB3⟩; obtain ⟨A, c, rfl, hnc, hcm⟩ := hv.form; have HE := Lib.hid (elems_of hv); clear hv))
    go_loop [4] (fun i => ∃ k : Nat, k ≤ l.length ∧ i = .int .i64 k ∧ Hid ((l.take k).all fit = true)) (fun i => l.length - (intOf i).toNat)
    case atStart => exact ⟨0, Nat.zero_le _, rfl, rfl⟩
    case round =>
      obtain ⟨k, hk, rfl, hall⟩ := hrel
      by_cases hlt : k < l.length
      · obtain ⟨g, rfl, hcell⟩ := HE.out w3 (Below.refl _ _) k hlt
        have ek : (k : Int).toNat = k := by omega
        have hsn : Hid ((l.take (k + 1)).all fit = fit l[k]) := by
          unfold Hid; rw [List.take_succ_eq_append_getElem hlt, List.all_append, hall.out]; simp
        have hmem : Hid (fit l[k] = false → l.all fit = false) := fun h => by
          rw [List.all_eq_false]; exact ⟨l[k], List.getElem_mem hlt, by rw [h]; simp⟩
        have hsz := hsm.out k hlt
        generalize l[k] = n at *
        by_cases hn : n.size ≤ 255
        · have hn' : ¬ (255 : Int) < n.size := by omega
          have H0 : Hid (∀ w, Calls Try.prog 17 #[.string n, .int .u8 0] w fun e w' => e = .returned (.int .i64 (Lib.indexByte n.data.toList 0)) ∧ w' = w) := fun w => refIndex_any n 0 0 rfl w (by omega)
          have H1 : Hid (∀ w, Calls Try.prog 17 #[.string n, .int .u8 10] w fun e w' => e = .returned (.int .i64 (Lib.indexByte n.data.toList 10)) ∧ w' = w) := fun w => refIndex_any n 10 10 rfl w (by omega)
          have hs1 : Hid (fit n = (decide (Lib.indexByte n.data.toList 0 < 0) && decide (Lib.indexByte n.data.toList 10 < 0))) := by unfold Hid fit; rw [decide_eq_true hn]; rfl
          generalize Lib.indexByte n.data.toList 0 = a at *
          generalize Lib.indexByte n.data.toList 10 = b at *
          by_cases ha : a < 0
          · have ha' : ¬ 0 ≤ a := by omega
            by_cases hb : b < 0
            · have hb' : ¬ 0 ≤ b := by omega
              have hf : Hid (fit n = true) := by unfold Hid; rw [hs1.out, decide_eq_true ha, decide_eq_true hb]; rfl
              go_wp2_with fail
              refine (H0.out _).mono ?_
              rintro e w' ⟨rfl, rfl⟩
              go_wp2_with fail
              refine (H1.out _).mono ?_
              rintro e w' ⟨rfl, rfl⟩
              go_wp2_with fail
              exact ⟨⟨k + 1, by omega, by go_num, by unfold Hid; rw [hsn.out, hf.out]⟩, by simp [intOf]; omega⟩
            · have hb' : 0 ≤ b := by omega
              have hf : Hid (l.all fit = false) := hmem.out (by rw [hs1.out, decide_eq_true ha, decide_eq_false hb]; rfl)
              go_wp2_with fail
              refine (H0.out _).mono ?_
              rintro e w' ⟨rfl, rfl⟩
              go_wp2_with fail
              refine (H1.out _).mono ?_
              rintro e w' ⟨rfl, rfl⟩
              go_wp2_with fail
              go_ret
              exact ⟨ret_bool (by rw [e2.out, hf.out]), bs3 HB1 HB3⟩
          · have ha' : 0 ≤ a := by omega
            have hf : Hid (l.all fit = false) := hmem.out (by rw [hs1.out, decide_eq_false ha]; rfl)
            go_wp2_with fail
            refine (H0.out _).mono ?_
            rintro e w' ⟨rfl, rfl⟩
            go_wp2_with fail
            go_ret
            exact ⟨ret_bool (by rw [e2.out, hf.out]), bs3 HB1 HB3⟩
        · have hn' : (255 : Int) < n.size := by omega
          have hs1 : Hid (l.all fit = false) := hmem.out (by unfold fit; rw [decide_eq_false hn]; rfl)
          go_wp2
          go_ret
          exact ⟨ret_bool (by rw [e2.out, hs1.out]), bs3 HB1 HB3⟩
      · obtain rfl : k = l.length := by omega
        have hs1 : Hid (l.all fit = true) := by have := hall.out; rw [List.take_length] at this; exact this
        go_wp2
        go_ret
        exact ⟨ret_bool (by rw [e2.out, hs1.out]), bs3 HB1 HB3⟩
  · have t2 : (!(cl.toList == p.toList)) = true := by rw [et.out]; simp [c2]
    have e2 := Lib.hid (en.out c2)
    clear ev en et c2
    go_enter Try.func46, Try.ntmps46
    go_wp2_with (first | (go_at_call 45; refine (HC.out _).mono ?_; rintro e w1 ⟨rfl, HB1⟩))
    go_ret
    exact ⟨ret_bool e2.out.symm, HB1⟩
end Go.Proofs.Ytndoloohdloflaa
