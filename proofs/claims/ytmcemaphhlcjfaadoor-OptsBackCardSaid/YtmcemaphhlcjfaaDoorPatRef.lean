/- What the reference's functions on one pattern answer: the same words as package pat's; conditions: texts of at most 2^47 - 4096 bytes. -/
import Derived.Test.YtmcemaphhlcjfaaDoorPat
namespace Go.Proofs.YtmcemaphhlcjfaaDoor
open Go.RowKit

set_option maxHeartbeats 400000 in
theorem refIndex_any (s : ByteArray) (c : Int) (u : UInt8) (hc : (u.toNat : Int) = c) (w : World) (hs : s.size ≤ 140737488351232) :
    Calls Tryd.prog 45 #[.string s, .int .u8 c] w fun e w' => e = .returned (.int .i64 (Lib.indexByte s.data.toList u)) ∧ w' = w := by
  have HC := Lib.hid hc; clear hc
  go_enter Tryd.func45, Tryd.ntmps45
  go_wp2
  go_loop [5] (fun i => ∃ k : Nat, k ≤ s.size ∧ i = .int .i64 k ∧ IdxAt s.data.toList u k) (fun i => s.size - (intOf i).toNat)
  case atStart => exact ⟨0, Nat.zero_le _, rfl, IdxAt.start _ _⟩
  case round =>
    obtain ⟨k, hk, rfl, hr⟩ := hrel
    by_cases hlt : k < s.size
    · have hl : k < s.data.toList.length := by simpa using hlt
      by_cases hu : s[k] = u
      · have hb : ((s[k].toNat : Int) == c) = true := by rw [hu, HC.out]; simp
        have hf := Lib.hid (hr.found hl (by rw [Array.getElem_toList]; exact hu))
        clear hu hr
        go_wp2
        go_ret
        exact ⟨ret_int hf.out.symm, rfl⟩
      · have hb : ((s[k].toNat : Int) == c) = false := by
          rw [← HC.out]; simp only [beq_eq_false_iff_ne, ne_eq, Int.natCast_inj]; exact fun e => hu (UInt8.toNat_inj.1 e)
        have hn := hr.step hl (by rw [Array.getElem_toList]; exact hu)
        clear hu hr
        go_wp2
        exact ⟨⟨k + 1, by omega, by go_num, hn⟩, by simp [intOf]; omega⟩
    · have hf := Lib.hid (hr.none (by simpa using Nat.le_of_not_lt hlt))
      clear hr
      go_wp2
      go_ret
      exact ⟨ret_int hf.out.symm, rfl⟩

theorem pre_iff (s a : ByteArray) : ((s.extract 0 a.size).toList == a.toList) = Lib.hasPrefix s.data.toList a.data.toList := by
  rw [Bool.eq_iff_iff]
  simp only [ba_toList, extract_list, List.drop_zero, beq_iff_eq, Lib.hasPrefix, List.isPrefixOf_iff_prefix]
  rw [List.prefix_iff_eq_take]; simp only [Array.length_toList]; exact eq_comm
theorem suf_iff (s b : ByteArray) : ((s.extract (s.size - b.size) s.size).toList == b.toList) = Lib.hasSuffix s.data.toList b.data.toList := by
  rw [Bool.eq_iff_iff]
  simp only [ba_toList, extract_list, beq_iff_eq, Lib.hasSuffix, List.isSuffixOf_iff_suffix]
  rw [List.suffix_iff_eq_drop]; simp only [Array.length_toList]
  rw [List.take_of_length_le (by simp)]; exact eq_comm

set_option maxHeartbeats 1000000 in
theorem refMatch_any (p s : ByteArray) (w : World) (hp : p.size ≤ 140737488351232) (hs : s.size ≤ 140737488351232) :
    Calls Tryd.prog 47 #[.string p, .string s] w fun e w' => e = .returned (.tuple #[.string (Mstem p s), .bool (Mok p s)]) ∧ w' = w := by
  have HI : Hid (∀ w, Calls Tryd.prog 45 #[.string p, .int .u8 37] w fun e w' => e = .returned (.int .i64 (pk p)) ∧ w' = w) := fun w => refIndex_any p 37 37 rfl w hp
  have hlt : pk p < p.size := by have := indexByte_lt p.data.toList 37; simp at this; unfold pk; omega
  by_cases h : pk p < 0
  · have e1 : Mstem p s = ⟨#[]⟩ := by simp [Mstem, mstem, popen, h]
    have e2 : Mok p s = (p.toList == s.toList) := by
      simp only [Mok, mok, popen, h, phead, decide_true, Bool.not_true, Bool.false_eq_true, if_false, if_true]
      rw [Bool.eq_iff_iff, beq_iff_eq, beq_iff_eq]; exact eq_comm
    rw [e1, e2]; clear e1 e2
    generalize pk p = i at *
    go_enter Tryd.func47, Tryd.ntmps47
    go_wp2_with (go_at_call 45; refine (HI.out _).mono ?_; rintro e w' ⟨rfl, rfl⟩)
    go_ret2
    exact ⟨rfl, rfl⟩
  · have a1 : phead p = p.extract 0 (pk p).toNat := by simp [phead, h]
    have a2 : ptail p = p.extract ((pk p).toNat + 1) p.size := by simp [ptail, h]
    have a3 : popen p = true := by simp [popen, h]
    unfold Mstem Mok
    rw [a1, a2, a3]; clear a1 a2 a3
    generalize pk p = i at *
    have w1 : IntKind.i64.wrap (i + 1) = i + 1 := IntWalk.i64_in _ (by omega)
    have h0 : 0 ≤ i + 1 := by omega
    have h1 : i + 1 ≤ p.size := by omega
    have h2 : i ≤ p.size := by omega
    have w2 : (i + 1).toNat = i.toNat + 1 := by omega
    have l1 : (p.extract 0 i.toNat).size ≤ p.size := by rw [ByteArray.size_extract]; omega
    have l2 : (p.extract (i.toNat + 1) p.size).size ≤ p.size := by rw [ByteArray.size_extract]; omega
    generalize ha : p.extract 0 i.toNat = a at *
    generalize hb : p.extract (i.toNat + 1) p.size = b at *
    have HA := Lib.hid ha; have HB := Lib.hid hb
    by_cases c1 : s.size < a.size + b.size
    · have c1' : (s.size : Int) < (a.size : Int) + (b.size : Int) := by omega
      have e1 : mstem a b true s = ⟨#[]⟩ := by simp [mstem, mok, c1]
      have e2 : mok a b true s = false := by simp [mok, c1]
      rw [e1, e2]; clear e1 e2 HA HB
      go_enter Tryd.func47, Tryd.ntmps47
      go_wp2_with (go_at_call 45; refine (HI.out _).mono ?_; rintro e w' ⟨rfl, rfl⟩)
      go_ret2
      exact ⟨rfl, rfl⟩
    have c1' : ¬ (s.size : Int) < (a.size : Int) + (b.size : Int) := by omega
    have p1 := pre_iff s a
    have p2 := suf_iff s b
    cases c2 : Lib.hasPrefix s.data.toList a.data.toList
    · have e1 : mstem a b true s = ⟨#[]⟩ := by simp [mstem, mok, c2]
      have e2 : mok a b true s = false := by simp [mok, c2]
      rw [e1, e2]; clear e1 e2 HA HB p2
      rw [c2] at p1
      clear c2
      go_enter Tryd.func47, Tryd.ntmps47
      go_wp2_with (go_at_call 45; refine (HI.out _).mono ?_; rintro e w' ⟨rfl, rfl⟩)
      go_ret2
      exact ⟨rfl, rfl⟩
    · cases c3 : Lib.hasSuffix s.data.toList b.data.toList
      · have e1 : mstem a b true s = ⟨#[]⟩ := by simp [mstem, mok, c3]
        have e2 : mok a b true s = false := by simp [mok, c3]
        rw [e1, e2]; clear e1 e2 HA HB
        rw [c2] at p1; rw [c3] at p2
        clear c2 c3
        go_enter Tryd.func47, Tryd.ntmps47
        go_wp2_with (go_at_call 45; refine (HI.out _).mono ?_; rintro e w' ⟨rfl, rfl⟩)
        go_ret2
        exact ⟨rfl, rfl⟩
      · have e1 : mstem a b true s = s.extract a.size (s.size - b.size) := by simp [mstem, mok, c1, c2, c3]
        have e2 : mok a b true s = true := by simp [mok, c1, c2, c3]
        rw [e1, e2]; clear e1 e2 HA HB
        rw [c2] at p1; rw [c3] at p2
        clear c2 c3
        go_enter Tryd.func47, Tryd.ntmps47
        go_wp2_with (go_at_call 45; refine (HI.out _).mono ?_; rintro e w' ⟨rfl, rfl⟩)
        go_ret2
        exact ⟨rfl, rfl⟩

end Go.Proofs.YtmcemaphhlcjfaaDoor
