/- A word as a file's name, in the program and in the reference; conditions: texts that lie in memory. -/
import Derived.Test.YtmcemaphhlcjfaaDoorTake2
namespace Go.Proofs.YtmcemaphhlcjfaaDoor
open Go.RowKit

def nmF : Nat → List UInt8 → List UInt8
  | 0, l => l
  | f + 1, l => if Lib.hasPrefix l [46, 47] then nmF f ((l.drop 2).dropWhile (· == 47)) else l
def nameB (s : ByteArray) : ByteArray := if nmF s.size s.data.toList = [] then ⟨#[46]⟩ else mk (nmF s.size s.data.toList)
theorem hp_size {t : ByteArray} {p : List UInt8} (h : Lib.hasPrefix t.data.toList p = true) : p.length ≤ t.size := by
  have h2 := List.IsPrefix.length_le (List.isPrefixOf_iff_prefix.1 h)
  simpa using h2
theorem ba_empty {t : ByteArray} (h : t.data.toList = []) : (t.toList == []) = true := by rw [ba_toList, h]; rfl
theorem ba_nonempty {t : ByteArray} (h : ¬ t.data.toList = []) : (t.toList == []) = false := by rw [ba_toList, beq_eq_false_iff_ne]; exact h
theorem ext_list' {t : ByteArray} : (t.extract 2 t.size).data.toList = t.data.toList.drop 2 := by rw [extract_list, List.take_of_length_le (by simp)]
theorem dropWhile_len (p : UInt8 → Bool) (l : List UInt8) : (l.dropWhile p).length ≤ l.length := (List.dropWhile_sublist p).length_le

set_option maxRecDepth 100000 in
set_option maxHeartbeats 1000000 in
theorem Name_any (s : ByteArray) (w : World) (_ : s.size ≤ 140737488351232) :
    Calls Tryd.prog 20 #[.string s] w fun e w' => e = .returned (.string (nameB s)) ∧ w' = w := by
  obtain ⟨R, hR⟩ : ∃ R, nmF s.size s.data.toList = R := ⟨_, rfl⟩
  obtain ⟨N, hN⟩ : ∃ N, nameB s = N := ⟨_, rfl⟩
  have HN : Hid ((R = [] → N = ⟨#[46]⟩) ∧ (R ≠ [] → N = mk R)) := by
    unfold Hid; rw [← hN]; unfold nameB; rw [hR]
    exact ⟨fun h => if_pos h, fun h => if_neg h⟩
  rw [hN]
  have HR := Lib.hid hR
  clear hR hN
  have HP : Hid (∀ t w, Calls Tryd.prog 34 #[.string t, .string ⟨#[46, 47]⟩] w fun e w' => e = .returned (.bool (Lib.hasPrefix t.data.toList [46, 47])) ∧ w' = w) := fun t w => Tryd.strings_HasPrefix t ⟨#[46, 47]⟩ w
  have HT : Hid (∀ t w, Calls Tryd.prog 37 #[.string t, .string ⟨#[47]⟩] w fun e w' => e = .returned (.string (mk (t.data.toList.dropWhile (· == 47)))) ∧ w' = w) := fun t w => Tryd.strings_TrimLeft_one t 47 (by decide) w
  go_enter Tryd.func20, Tryd.ntmps20
  go_wp2
  go_loopw [0] (fun v wi => ∃ (t : ByteArray) (f : Nat), v = .string t ∧ t.size ≤ f ∧ f ≤ s.size ∧ Hid (nmF f t.data.toList = R) ∧ wi = w) (fun v _ => match v with | .string t => t.size | _ => 0)
  case atStart => exact ⟨s, s.size, rfl, Nat.le_refl _, Nat.le_refl _, HR, rfl⟩
  case round =>
    obtain ⟨t, f, rfl, hf, hfs, hr, rfl⟩ := hrel
    have HPt := Lib.hid fun w => HP.out t w
    cases hp : Lib.hasPrefix t.data.toList [46, 47]
    · rw [hp] at HPt
      have hE : t.data.toList = R := by
        rw [← hr.out]
        cases f with
        | zero => rfl
        | succ f => rw [nmF, hp]; rfl
      by_cases h0 : t.data.toList = []
      · have q := ba_empty h0
        have hR : Hid (R = []) := by unfold Hid; rw [← hE]; exact h0
        clear hE h0 hr hp
        go_wp2_with fail
        refine (HPt.out _).mono ?_
        rintro e w' ⟨rfl, rfl⟩
        go_wp2
        go_ret
        exact ⟨ret_str (HN.out.1 hR.out).symm, rfl⟩
      · have q := ba_nonempty h0
        have hR : Hid (R ≠ [] ∧ t = mk R) := by unfold Hid; rw [← hE]; exact ⟨h0, rfl⟩
        clear hE h0 hr hp
        go_wp2_with fail
        refine (HPt.out _).mono ?_
        rintro e w' ⟨rfl, rfl⟩
        go_wp2
        go_ret
        exact ⟨ret_str (hR.out.2.trans (HN.out.2 hR.out.1).symm), rfl⟩
    · have h2 : 2 ≤ t.size := hp_size hp
      rw [hp] at HPt
      obtain ⟨f, rfl⟩ : ∃ g, f = g + 1 := ⟨f - 1, by omega⟩
      have hst := hr.out
      rw [nmF, hp, if_pos rfl] at hst
      have HT2 := Lib.hid fun w => HT.out (t.extract 2 t.size) w
      rw [ext_list'] at HT2
      have hle : (mk ((t.data.toList.drop 2).dropWhile (· == 47))).size ≤ t.size - 2 := by
        have := dropWhile_len (· == 47) (t.data.toList.drop 2)
        simp at this
        exact this
      have HS : Hid (nmF f (mk ((t.data.toList.drop 2).dropWhile (· == 47))).data.toList = R) := hst
      generalize mk ((t.data.toList.drop 2).dropWhile (· == 47)) = t2 at *
      clear hst hr hp
      go_wp2_with fail
      refine (HPt.out _).mono ?_
      rintro e w' ⟨rfl, rfl⟩
      go_wp2_with fail
      refine (HT2.out _).mono ?_
      rintro e w' ⟨rfl, rfl⟩
      go_wp2
      exact ⟨⟨t2, f, rfl, by omega, by omega, HS, by trivial⟩, by show t2.size < t.size; omega⟩

theorem ext1_list (t : ByteArray) : (t.extract 1 t.size).data.toList = t.data.toList.drop 1 := by rw [extract_list, List.take_of_length_le (by simp)]
theorem head_list (t : ByteArray) (h : 0 < t.size) : t.data.toList = t[0] :: t.data.toList.drop 1 := by
  have e := List.drop_eq_getElem_cons (l := t.data.toList) (i := 0) (by simpa using h)
  rw [List.drop_zero] at e
  rw [e, get_list' t 0 h]; rfl

set_option maxRecDepth 100000 in
set_option maxHeartbeats 1000000 in
theorem NameR_any (s : ByteArray) (w : World) (hs : s.size ≤ 140737488351232) :
    Calls Tryd.prog 21 #[.string s] w fun e w' => e = .returned (.string (nameB s)) ∧ w' = w := by
  obtain ⟨R, hR⟩ : ∃ R, nmF s.size s.data.toList = R := ⟨_, rfl⟩
  obtain ⟨N, hN⟩ : ∃ N, nameB s = N := ⟨_, rfl⟩
  have HN : Hid ((R = [] → N = ⟨#[46]⟩) ∧ (R ≠ [] → N = mk R)) := by
    unfold Hid; rw [← hN]; unfold nameB; rw [hR]
    exact ⟨fun h => if_pos h, fun h => if_neg h⟩
  rw [hN]
  have HR := Lib.hid hR
  clear hR hN
  go_enter Tryd.func21, Tryd.ntmps21
  go_wp2
  go_loopw [0] (fun v wi => ∃ (t : ByteArray) (f : Nat), v = .string t ∧ t.size ≤ f ∧ f ≤ s.size ∧ Hid (nmF f t.data.toList = R) ∧ wi = w) (fun v _ => match v with | .string t => t.size | _ => 0)
  case atStart => exact ⟨s, s.size, rfl, Nat.le_refl _, Nat.le_refl _, HR, rfl⟩
  case round =>
    obtain ⟨t, f, rfl, hf, hfs, hr, hwr⟩ := hrel
    obtain rfl : w = wr := hwr.symm
    cases hp : Lib.hasPrefix t.data.toList [46, 47]
    · have hE : t.data.toList = R := by
        rw [← hr.out]
        cases f with
        | zero => rfl
        | succ f => rw [nmF, hp]; rfl
      have HX : Hid (2 ≤ t.size → ((t.extract 0 2).toList == [46, 47]) = false) := fun _ => by
        have h1 := pre_iff t ⟨#[46, 47]⟩
        have e2 : (⟨#[46, 47]⟩ : ByteArray).toList = [46, 47] := by rw [ba_toList]
        rw [e2] at h1
        exact h1.trans hp
      by_cases h2 : 2 ≤ t.size
      · have hx := HX.out h2
        have q2 : (2 : Int) ≤ t.size := by omega
        have h0 : ¬ t.data.toList = [] := by
          intro h
          have h5 : t.data.toList.length = 0 := by rw [h]; rfl
          rw [Array.length_toList] at h5
          have h6 : t.size = 0 := h5
          omega
        have q := ba_nonempty h0
        have hR : Hid (R ≠ [] ∧ t = mk R) := by unfold Hid; rw [← hE]; exact ⟨h0, rfl⟩
        clear hE h0 hr hp
        go_wp2
        go_ret
        exact ⟨ret_str (hR.out.2.trans (HN.out.2 hR.out.1).symm), rfl⟩
      · have q2 : ¬ (2 : Int) ≤ t.size := by omega
        by_cases h0 : t.data.toList = []
        · have q := ba_empty h0
          have hR : Hid (R = []) := by unfold Hid; rw [← hE]; exact h0
          clear hE h0 hr hp HX
          go_wp2
          go_ret
          exact ⟨ret_str (HN.out.1 hR.out).symm, rfl⟩
        · have q := ba_nonempty h0
          have hR : Hid (R ≠ [] ∧ t = mk R) := by unfold Hid; rw [← hE]; exact ⟨h0, rfl⟩
          clear hE h0 hr hp HX
          go_wp2
          go_ret
          exact ⟨ret_str (hR.out.2.trans (HN.out.2 hR.out.1).symm), rfl⟩
    · have h2 : 2 ≤ t.size := hp_size hp
      have q2 : (2 : Int) ≤ t.size := by omega
      have hx : ((t.extract 0 2).toList == [46, 47]) = true := by
        have h1 := pre_iff t ⟨#[46, 47]⟩
        have e2 : (⟨#[46, 47]⟩ : ByteArray).toList = [46, 47] := by rw [ba_toList]
        rw [e2] at h1
        exact h1.trans hp
      obtain ⟨f, rfl⟩ : ∃ g, f = g + 1 := ⟨f - 1, by omega⟩
      have hst := hr.out
      rw [nmF, hp, if_pos rfl] at hst
      have e3 : t.data.toList.drop 2 = (t.extract 2 t.size).data.toList := by rw [extract_list, List.take_of_length_le (by simp)]
      rw [e3] at hst
      have HS := Lib.hid hst
      have hz : (t.extract 2 t.size).size = t.size - 2 := by simp
      clear hst hr hp e3
      go_wp2
      obtain ⟨t0, ht0⟩ : ∃ t0, t.extract 2 t.size = t0 := ⟨_, rfl⟩
      rw [ht0] at hz HS ⊢
      clear ht0
      go_loopw [0] (fun v wi => ∃ (u : ByteArray), v = .string u ∧ u.size ≤ t0.size ∧ Hid (nmF f (u.data.toList.dropWhile (· == 47)) = R) ∧ wi = w) (fun v _ => match v with | .string t => t.size | _ => 0)
      case atStart => exact ⟨t0, rfl, Nat.le_refl _, HS, rfl⟩
      case round =>
        obtain ⟨u, rfl, hu, hr, rfl⟩ := hrel
        by_cases h0 : 0 < u.size
        · have q0 : (0 : Int) < u.size := by omega
          have q3 : 1 ≤ u.size := by omega
          have hh := head_list u h0
          have hst := hr.out
          rw [hh, List.dropWhile_cons] at hst
          by_cases hc : u[0] = 47
          · have hx3 : (u[0].toNat : Int) = 47 := by rw [hc]; rfl
            rw [hc] at hst
            simp only [beq_self_eq_true, if_true] at hst
            rw [← ext1_list] at hst
            have HS2 := Lib.hid hst
            clear hst hh hr hc
            go_wp2
            exact ⟨⟨u.extract 1 u.size, rfl, by simp; omega, HS2, by trivial⟩, by show (u.extract 1 u.size).size < u.size; simp; omega⟩
          · have hx3 := ne_u8 (n := 47) (by decide) hc
            have hx4 : ((u[0].toNat : Int) == 47) = false := hx3
            have e5 : (u[0] == 47) = false := beq_eq_false_iff_ne.2 hc
            rw [e5] at hst
            simp only [Bool.false_eq_true, if_false] at hst
            rw [← hh] at hst
            have HS2 := Lib.hid hst
            clear hst hh hr hc e5 hx3
            go_wp2
            exact ⟨⟨u, f, rfl, by omega, by omega, HS2, by trivial⟩, by show u.size < t.size; omega⟩
        · have q0 : ¬ (0 : Int) < u.size := by omega
          have hu0 : u.data.toList = [] := List.eq_nil_of_length_eq_zero (by rw [Array.length_toList]; show u.size = 0; omega)
          have HS2 : Hid (nmF f u.data.toList = R) := by unfold Hid; rw [← hr.out, hu0]; rfl
          clear hr hu0
          go_wp2
          exact ⟨⟨u, f, rfl, by omega, by omega, HS2, by trivial⟩, by show u.size < t.size; omega⟩
end Go.Proofs.YtmcemaphhlcjfaaDoor
