/- What package pat's functions on one pattern answer; conditions: texts of at most 2^47 - 4096 bytes. -/
import Derived.Test.YtmcemaphhlcjfaaDoorBase
namespace Go.Proofs.YtmcemaphhlcjfaaDoor
open Go.RowKit

def pk (p : ByteArray) : Int := Lib.indexByte p.data.toList 37
def phead (p : ByteArray) : ByteArray := if pk p < 0 then p else p.extract 0 (pk p).toNat
def ptail (p : ByteArray) : ByteArray := if pk p < 0 then ⟨#[]⟩ else p.extract ((pk p).toNat + 1) p.size
def popen (p : ByteArray) : Bool := !decide (pk p < 0)

set_option maxHeartbeats 400000 in
theorem of_any (s : ByteArray) (w : World) (hs : s.size ≤ 140737488351232) :
    Calls Tryd.prog 114 #[.string s] w fun e w' => e = .returned (.agg #[.string (phead s), .string (ptail s), .bool (popen s)]) ∧ Below w.heap.size w w' := by
  have hlt : pk s < s.size := by have := indexByte_lt s.data.toList 37; simp at this; unfold pk; omega
  have HC : Hid (∀ w, Calls Tryd.prog 50 #[.string s, .int .u8 37] w fun e w' => e = .returned (.int .i64 (pk s)) ∧ w' = w) := fun w => Tryd.strings_IndexByte s 37 w
  by_cases h : pk s < 0
  · have e1 : phead s = s := by simp [phead, h]
    have e2 : ptail s = ⟨#[]⟩ := by simp [ptail, h]
    have e3 : popen s = false := by simp [popen, h]
    rw [e1, e2, e3]; clear e1 e2 e3
    generalize pk s = i at *
    go_enter Tryd.func114, Tryd.ntmps114
    go_wp2_with (go_at_call 50; refine (HC.out _).mono ?_; rintro e w' ⟨rfl, rfl⟩)
    exact bodyPost_ret (v := .agg #[.string s, .string ⟨#[]⟩, .bool false]) (by simp [results, Tryd.results114, go_sem]) rfl ⟨rfl, (Below.refl _ _).alloc (Nat.le_refl _) _⟩
  · have e1 : phead s = s.extract 0 (pk s).toNat := by simp [phead, h]
    have e2 : ptail s = s.extract ((pk s).toNat + 1) s.size := by simp [ptail, h]
    have e3 : popen s = true := by simp [popen, h]
    rw [e1, e2, e3]; clear e1 e2 e3
    generalize pk s = i at *
    have w1 : IntKind.i64.wrap (i + 1) = i + 1 := IntWalk.i64_in _ (by omega)
    have h0 : 0 ≤ i + 1 := by omega
    have h1 : i + 1 ≤ s.size := by omega
    have h2 : i ≤ s.size := by omega
    have w2 : (i + 1).toNat = i.toNat + 1 := by omega
    go_enter Tryd.func114, Tryd.ntmps114
    go_wp2_with (go_at_call 50; refine (HC.out _).mono ?_; rintro e w' ⟨rfl, rfl⟩)
    go_region
    all_goals go_wp2
    exact bodyPost_ret (v := .agg #[.string (s.extract 0 i.toNat), .string (s.extract (i.toNat + 1) s.size), .bool true]) (by simp [results, Tryd.results114, go_sem]) rfl ⟨rfl, ((Below.refl _ _).alloc (Nat.le_refl _) _).drew⟩

def mok (h t : ByteArray) (o : Bool) (s : ByteArray) : Bool := if o then !decide (s.size < h.size + t.size) && (Lib.hasPrefix s.data.toList h.data.toList && Lib.hasSuffix s.data.toList t.data.toList) else s.toList == h.toList
def mstem (h t : ByteArray) (o : Bool) (s : ByteArray) : ByteArray := if o && mok h t o s then s.extract h.size (s.size - t.size) else ⟨#[]⟩

set_option maxHeartbeats 400000 in
theorem match_any (h t : ByteArray) (o : Bool) (s : ByteArray) (w : World) (hs : s.size ≤ 140737488351232) (hh : h.size ≤ 140737488351232) (ht : t.size ≤ 140737488351232) :
    Calls Tryd.prog 115 #[.agg #[.string h, .string t, .bool o], .string s] w fun e w' => e = .returned (.tuple #[.string (mstem h t o s), .bool (mok h t o s)]) ∧ Below w.heap.size w w' := by
  have HB := (Below.refl w.heap.size w).alloc (Nat.le_refl _) (.cells #[.string h, .string t, .bool o] 160)
  cases o
  · go_enter Tryd.func115, Tryd.ntmps115
    go_wp2
    go_quiet (fail)
    go_wp2
    go_ret2
    exact ⟨rfl, below_drewN HB _⟩
  by_cases c1 : s.size < h.size + t.size
  · have c1' : (s.size : Int) < (h.size : Int) + (t.size : Int) := by omega
    have e1 : mstem h t true s = ⟨#[]⟩ := by simp [mstem, mok, c1]
    have e2 : mok h t true s = false := by simp [mok, c1]
    rw [e1, e2]
    clear e1 e2
    go_enter Tryd.func115, Tryd.ntmps115
    go_wp2
    go_ret2
    exact ⟨rfl, HB⟩
  have c1' : ¬ (s.size : Int) < (h.size : Int) + (t.size : Int) := by omega
  by_cases c2 : Lib.hasPrefix s.data.toList h.data.toList = true
  · by_cases c3 : Lib.hasSuffix s.data.toList t.data.toList = true
    · have e1 : mstem h t true s = s.extract h.size (s.size - t.size) := by simp [mstem, mok, c1, c2, c3]
      have e2 : mok h t true s = true := by simp [mok, c1, c2, c3]
      rw [e1, e2]
      clear e1 e2
      go_enter Tryd.func115, Tryd.ntmps115
      go_wp2_with (first | (go_at_call 34; refine (Tryd.strings_HasPrefix _ _ _).mono ?_; rintro e w' ⟨rfl, rfl⟩) | (go_at_call 51; refine (Tryd.strings_HasSuffix _ _ _ (by omega)).mono ?_; rintro e w' ⟨rfl, rfl⟩))
      go_ret2
      exact ⟨rfl, HB⟩
    · have e1 : mstem h t true s = ⟨#[]⟩ := by simp [mstem, mok, c3]
      have e2 : mok h t true s = false := by simp [mok, c3]
      rw [e1, e2]
      clear e1 e2
      go_enter Tryd.func115, Tryd.ntmps115
      go_wp2_with (first | (go_at_call 34; refine (Tryd.strings_HasPrefix _ _ _).mono ?_; rintro e w' ⟨rfl, rfl⟩) | (go_at_call 51; refine (Tryd.strings_HasSuffix _ _ _ (by omega)).mono ?_; rintro e w' ⟨rfl, rfl⟩))
      go_ret2
      exact ⟨rfl, HB⟩
  · have e1 : mstem h t true s = ⟨#[]⟩ := by simp [mstem, mok, c2]
    have e2 : mok h t true s = false := by simp [mok, c2]
    rw [e1, e2]
    clear e1 e2
    go_enter Tryd.func115, Tryd.ntmps115
    go_wp2_with (first | (go_at_call 34; refine (Tryd.strings_HasPrefix _ _ _).mono ?_; rintro e w' ⟨rfl, rfl⟩) | (go_at_call 51; refine (Tryd.strings_HasSuffix _ _ _ (by omega)).mono ?_; rintro e w' ⟨rfl, rfl⟩))
    go_ret2
    exact ⟨rfl, HB⟩

theorem phead_le (s : ByteArray) : (phead s).size ≤ s.size := by unfold phead; split <;> simp <;> omega
theorem ptail_le (s : ByteArray) : (ptail s).size ≤ s.size := by
  unfold ptail; split
  · exact Nat.zero_le _
  · rw [ByteArray.size_extract]; omega
def Mok (p s : ByteArray) : Bool := mok (phead p) (ptail p) (popen p) s
def Mstem (p s : ByteArray) : ByteArray := mstem (phead p) (ptail p) (popen p) s
def PutS (p st : ByteArray) : ByteArray := if popen p then phead p ++ st ++ ptail p else p
def SubstS (p to s : ByteArray) : ByteArray := if Mok p s then (if popen p then PutS to (Mstem p s) else to) else s

set_option maxHeartbeats 400000 in
theorem Match_any (p s : ByteArray) (w : World) (hp : p.size ≤ 140737488351232) (hs : s.size ≤ 140737488351232) :
    Calls Tryd.prog 99 #[.string p, .string s] w fun e w' => e = .returned (.tuple #[.string (Mstem p s), .bool (Mok p s)]) ∧ Below w.heap.size w w' := by
  have h1 := phead_le p
  have h2 := ptail_le p
  go_enter Tryd.func99, Tryd.ntmps99
  go_wp2_with (first | (go_at_call 114; refine (of_any _ _ hp).mono ?_; rintro e w1 ⟨rfl, HB⟩) | (go_at_call 115; refine (match_any _ _ _ _ _ hs (by omega) (by omega)).mono ?_; rintro e w2 ⟨rfl, HB2⟩))
  go_ret2
  exact ⟨rfl, HB.trans (HB2.mono HB.size)⟩


theorem Has_any (p : ByteArray) (w : World) :
    Calls Tryd.prog 98 #[.string p] w fun e w' => e = .returned (.bool (popen p)) ∧ w' = w := by
  have HC : Hid (∀ w, Calls Tryd.prog 50 #[.string p, .int .u8 37] w fun e w' => e = .returned (.int .i64 (pk p)) ∧ w' = w) := fun w => Tryd.strings_IndexByte p 37 w
  go_enter Tryd.func98, Tryd.ntmps98
  go_wp2_with (go_at_call 50; refine (HC.out _).mono ?_; rintro e w' ⟨rfl, rfl⟩)
  go_ret
  exact ⟨ret_bool (by unfold popen; by_cases h : pk p < 0 <;> simp [h] <;> omega), rfl⟩

theorem mstem_le (h t : ByteArray) (o : Bool) (s : ByteArray) : (mstem h t o s).size ≤ s.size := by
  unfold mstem; split
  · rw [ByteArray.size_extract]; omega
  · exact Nat.zero_le _

end Go.Proofs.YtmcemaphhlcjfaaDoor
