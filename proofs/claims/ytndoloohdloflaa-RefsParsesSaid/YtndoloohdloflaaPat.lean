/- What package pat's functions on one pattern answer; conditions: texts of at most 2^47 - 4096 bytes. -/
import Derived.Test.YtndoloohdloflaaBase
namespace Go.Proofs.Ytndoloohdloflaa
open Go.RowKit

def pk (p : ByteArray) : Int := Lib.indexByte p.data.toList 37
def phead (p : ByteArray) : ByteArray := if pk p < 0 then p else p.extract 0 (pk p).toNat
def ptail (p : ByteArray) : ByteArray := if pk p < 0 then ⟨#[]⟩ else p.extract ((pk p).toNat + 1) p.size
def popen (p : ByteArray) : Bool := !decide (pk p < 0)

set_option maxHeartbeats 400000 in
theorem of_any (s : ByteArray) (w : World) (hs : s.size ≤ 140737488351232) :
    Calls Try.prog 69 #[.string s] w fun e w' => e = .returned (.agg #[.string (phead s), .string (ptail s), .bool (popen s)]) ∧ Below w.heap.size w w' := by
  have hlt : pk s < s.size := by have := indexByte_lt s.data.toList 37; simp at this; unfold pk; omega
  have HC : Hid (∀ w, Calls Try.prog 71 #[.string s, .int .u8 37] w fun e w' => e = .returned (.int .i64 (pk s)) ∧ w' = w) := fun w => Try.strings_IndexByte s 37 w
  by_cases h : pk s < 0
  · have e1 : phead s = s := by simp [phead, h]
    have e2 : ptail s = ⟨#[]⟩ := by simp [ptail, h]
    have e3 : popen s = false := by simp [popen, h]
    rw [e1, e2, e3]; clear e1 e2 e3
    generalize pk s = i at *
    go_enter Try.func69, Try.ntmps69
    go_wp2_with (go_at_call 71; refine (HC.out _).mono ?_; rintro e w' ⟨rfl, rfl⟩)
    exact bodyPost_ret (v := .agg #[.string s, .string ⟨#[]⟩, .bool false]) (by simp [results, Try.results69, go_sem]) rfl ⟨rfl, (Below.refl _ _).alloc (Nat.le_refl _) _⟩
  · have e1 : phead s = s.extract 0 (pk s).toNat := by simp [phead, h]
    have e2 : ptail s = s.extract ((pk s).toNat + 1) s.size := by simp [ptail, h]
    have e3 : popen s = true := by simp [popen, h]
    rw [e1, e2, e3]; clear e1 e2 e3
    generalize pk s = i at *
    have w1 : IntKind.i64.wrap (i + 1) = i + 1 := IntWalk.i64_in _ (by omega)
    have h0 : 0 ≤ i + 1 := by omega
    have h1 : i + 1 ≤ s.size := by omega
    have h2 : i ≤ s.size := by omega
    have w2 : (i + 1).toNat = i.toNat + 1 := by omega
    go_enter Try.func69, Try.ntmps69
    go_wp2_with (go_at_call 71; refine (HC.out _).mono ?_; rintro e w' ⟨rfl, rfl⟩)
    go_region
    all_goals go_wp2
    exact bodyPost_ret (v := .agg #[.string (s.extract 0 i.toNat), .string (s.extract (i.toNat + 1) s.size), .bool true]) (by simp [results, Try.results69, go_sem]) rfl ⟨rfl, ((Below.refl _ _).alloc (Nat.le_refl _) _).drew⟩

def mok (h t : ByteArray) (o : Bool) (s : ByteArray) : Bool := if o then !decide (s.size < h.size + t.size) && (Lib.hasPrefix s.data.toList h.data.toList && Lib.hasSuffix s.data.toList t.data.toList) else s.toList == h.toList
def mstem (h t : ByteArray) (o : Bool) (s : ByteArray) : ByteArray := if o && mok h t o s then s.extract h.size (s.size - t.size) else ⟨#[]⟩

set_option maxHeartbeats 400000 in
theorem match_any (h t : ByteArray) (o : Bool) (s : ByteArray) (w : World) (hs : s.size ≤ 140737488351232) (hh : h.size ≤ 140737488351232) (ht : t.size ≤ 140737488351232) :
    Calls Try.prog 70 #[.agg #[.string h, .string t, .bool o], .string s] w fun e w' => e = .returned (.tuple #[.string (mstem h t o s), .bool (mok h t o s)]) ∧ Below w.heap.size w w' := by
  have HB := (Below.refl w.heap.size w).alloc (Nat.le_refl _) (.cells #[.string h, .string t, .bool o] 65)
  cases o
  · go_enter Try.func70, Try.ntmps70
    go_wp2
    go_quiet (fail)
    go_wp2
    go_ret2
    exact ⟨rfl, below_drewN HB _⟩
  by_cases c1 : s.size < h.size + t.size
  · have c1' : (s.size : Int) < (h.size : Int) + (t.size : Int) := by omega
    have e1 : mstem h t true s = ⟨#[]⟩ := by simp [mstem, mok, c1]
    have e2 : mok h t true s = false := by simp [mok, c1]
    rw [e1, e2]
    clear e1 e2
    go_enter Try.func70, Try.ntmps70
    go_wp2
    go_ret2
    exact ⟨rfl, HB⟩
  have c1' : ¬ (s.size : Int) < (h.size : Int) + (t.size : Int) := by omega
  by_cases c2 : Lib.hasPrefix s.data.toList h.data.toList = true
  · by_cases c3 : Lib.hasSuffix s.data.toList t.data.toList = true
    · have e1 : mstem h t true s = s.extract h.size (s.size - t.size) := by simp [mstem, mok, c1, c2, c3]
      have e2 : mok h t true s = true := by simp [mok, c1, c2, c3]
      rw [e1, e2]
      clear e1 e2
      go_enter Try.func70, Try.ntmps70
      go_wp2_with (first | (go_at_call 92; refine (Try.strings_HasPrefix _ _ _).mono ?_; rintro e w' ⟨rfl, rfl⟩) | (go_at_call 93; refine (Try.strings_HasSuffix _ _ _ (by omega)).mono ?_; rintro e w' ⟨rfl, rfl⟩))
      go_ret2
      exact ⟨rfl, HB⟩
    · have e1 : mstem h t true s = ⟨#[]⟩ := by simp [mstem, mok, c3]
      have e2 : mok h t true s = false := by simp [mok, c3]
      rw [e1, e2]
      clear e1 e2
      go_enter Try.func70, Try.ntmps70
      go_wp2_with (first | (go_at_call 92; refine (Try.strings_HasPrefix _ _ _).mono ?_; rintro e w' ⟨rfl, rfl⟩) | (go_at_call 93; refine (Try.strings_HasSuffix _ _ _ (by omega)).mono ?_; rintro e w' ⟨rfl, rfl⟩))
      go_ret2
      exact ⟨rfl, HB⟩
  · have e1 : mstem h t true s = ⟨#[]⟩ := by simp [mstem, mok, c2]
    have e2 : mok h t true s = false := by simp [mok, c2]
    rw [e1, e2]
    clear e1 e2
    go_enter Try.func70, Try.ntmps70
    go_wp2_with (first | (go_at_call 92; refine (Try.strings_HasPrefix _ _ _).mono ?_; rintro e w' ⟨rfl, rfl⟩) | (go_at_call 93; refine (Try.strings_HasSuffix _ _ _ (by omega)).mono ?_; rintro e w' ⟨rfl, rfl⟩))
    go_ret2
    exact ⟨rfl, HB⟩

theorem phead_le (s : ByteArray) : (phead s).size ≤ s.size := by unfold phead; split <;> simp <;> omega
theorem ptail_le (s : ByteArray) : (ptail s).size ≤ s.size := by
  unfold ptail; split
  · exact Nat.zero_le _
  · rw [ByteArray.size_extract]; omega
def Mok (p s : ByteArray) : Bool := mok (phead p) (ptail p) (popen p) s
def Mstem (p s : ByteArray) : ByteArray := mstem (phead p) (ptail p) (popen p) s
def PutS (p st : ByteArray) : ByteArray := if popen p then phead p ++ st ++ ptail p else p
def SubstS (p to s : ByteArray) : ByteArray := if Mok p s then (if popen p then PutS to (Mstem p s) else to) else s

set_option maxHeartbeats 400000 in
theorem Match_any (p s : ByteArray) (w : World) (hp : p.size ≤ 140737488351232) (hs : s.size ≤ 140737488351232) :
    Calls Try.prog 18 #[.string p, .string s] w fun e w' => e = .returned (.tuple #[.string (Mstem p s), .bool (Mok p s)]) ∧ Below w.heap.size w w' := by
  have h1 := phead_le p
  have h2 := ptail_le p
  go_enter Try.func18, Try.ntmps18
  go_wp2_with (first | (go_at_call 69; refine (of_any _ _ hp).mono ?_; rintro e w1 ⟨rfl, HB⟩) | (go_at_call 70; refine (match_any _ _ _ _ _ hs (by omega) (by omega)).mono ?_; rintro e w2 ⟨rfl, HB2⟩))
  go_ret2
  exact ⟨rfl, HB.trans (HB2.mono HB.size)⟩


theorem Has_any (p : ByteArray) (w : World) :
    Calls Try.prog 22 #[.string p] w fun e w' => e = .returned (.bool (popen p)) ∧ w' = w := by
  have HC : Hid (∀ w, Calls Try.prog 71 #[.string p, .int .u8 37] w fun e w' => e = .returned (.int .i64 (pk p)) ∧ w' = w) := fun w => Try.strings_IndexByte p 37 w
  go_enter Try.func22, Try.ntmps22
  go_wp2_with (go_at_call 71; refine (HC.out _).mono ?_; rintro e w' ⟨rfl, rfl⟩)
  go_ret
  exact ⟨ret_bool (by unfold popen; by_cases h : pk p < 0 <;> simp [h] <;> omega), rfl⟩

set_option maxHeartbeats 400000 in
theorem Put_any (p s : ByteArray) (w : World) (hp : p.size ≤ 140737488351232) (hs : s.size ≤ 140737488351232) :
    Calls Try.prog 19 #[.string p, .string s] w fun e w' => e = .returned (.string (PutS p s)) ∧ Below w.heap.size w w' := by
  have h1 := phead_le p
  have h2 := ptail_le p
  cases ho : popen p
  · have e1 : PutS p s = p := by simp [PutS, ho]
    go_enter Try.func19, Try.ntmps19
    go_wp2_with (first | (go_at_call 69; refine (of_any _ _ hp).mono ?_; rintro e w1 ⟨rfl, HB⟩))
    go_ret
    exact ⟨ret_str e1.symm, HB.alloc HB.size _⟩
  · have e1 : PutS p s = phead p ++ s ++ ptail p := by simp [PutS, ho]
    go_enter Try.func19, Try.ntmps19
    go_wp2_with (first | (go_at_call 69; refine (of_any _ _ hp).mono ?_; rintro e w1 ⟨rfl, HB⟩))
    go_ret
    exact ⟨ret_str e1.symm, HB.alloc HB.size _⟩

theorem mstem_le (h t : ByteArray) (o : Bool) (s : ByteArray) : (mstem h t o s).size ≤ s.size := by
  unfold mstem; split
  · rw [ByteArray.size_extract]; omega
  · exact Nat.zero_le _

set_option maxHeartbeats 400000 in
theorem Subst_any (p t s : ByteArray) (w : World) (hp : p.size ≤ 140737488351232) (ht : t.size ≤ 140737488351232) (hs : s.size ≤ 140737488351232) :
    Calls Try.prog 20 #[.string p, .string t, .string s] w fun e w' => e = .returned (.string (SubstS p t s)) ∧ Below w.heap.size w w' := by
  have h1 := phead_le p
  have h2 := ptail_le p
  have h3 := mstem_le (phead p) (ptail p) (popen p) s
  have e1 : SubstS p t s = if mok (phead p) (ptail p) (popen p) s then (if popen p then PutS t (mstem (phead p) (ptail p) (popen p) s) else t) else s := rfl
  rw [e1]; clear e1
  have HO := Lib.hid (of_any p · hp)
  generalize phead p = a at *
  generalize ptail p = b at *
  generalize popen p = o at *
  generalize hst : mstem a b o s = st at *
  generalize hm : mok a b o s = m at *
  have HM : Hid (∀ w, Calls Try.prog 70 #[.agg #[.string a, .string b, .bool o], .string s] w fun e w' => e = .returned (.tuple #[.string st, .bool m]) ∧ Below w.heap.size w w') := fun w => by rw [← hst, ← hm]; exact match_any _ _ _ _ _ hs (by omega) (by omega)
  clear hst hm
  cases m
  · go_enter Try.func20, Try.ntmps20
    go_wp2_with (first | (go_at_call 69; refine (HO.out _).mono ?_; rintro e w1 ⟨rfl, HB⟩) | (go_at_call 70; refine (HM.out _).mono ?_; rintro e w2 ⟨rfl, HB2⟩))
    go_ret
    exact ⟨rfl, (HB.alloc HB.size _).trans (HB2.mono (by have := HB.size; simp; omega))⟩
  · cases o
    · go_enter Try.func20, Try.ntmps20
      go_wp2_with (first | (go_at_call 69; refine (HO.out _).mono ?_; rintro e w1 ⟨rfl, HB⟩) | (go_at_call 70; refine (HM.out _).mono ?_; rintro e w2 ⟨rfl, HB2⟩; obtain ⟨hc2, hf2⟩ := bcell HB2))
      go_ret
      exact ⟨rfl, (HB.alloc HB.size _).trans (HB2.mono (by have := HB.size; simp; omega))⟩
    · go_enter Try.func20, Try.ntmps20
      go_wp2_with (first | (go_at_call 69; refine (HO.out _).mono ?_; rintro e w1 ⟨rfl, HB⟩) | (go_at_call 70; refine (HM.out _).mono ?_; rintro e w2 ⟨rfl, HB2⟩; obtain ⟨hc2, hf2⟩ := bcell HB2) | (go_at_call 19; refine (Put_any _ _ _ ht (by omega)).mono ?_; rintro e w3 ⟨rfl, HB3⟩))
      go_ret
      exact ⟨rfl, ((HB.alloc HB.size _).trans (HB2.mono (by have := HB.size; simp; omega))).trans (HB3.mono (by have := HB.size; have := HB2.size; simp at this; omega))⟩

end Go.Proofs.Ytndoloohdloflaa
