/- text.Replace: each place of one text replaced; the plain law, and the walk; conditions: texts of at most 100000 bytes each. -/
import Derived.Test.YtndoloohdloflabSplit
import Derived.Test.YtndoloohdloflabBuilder
import Derived.Lib.AppendIntMem
namespace Go.Proofs.Ytndoloohdloflab
open Go.RowKit

def rplF (fr to_ : List UInt8) : Nat → List UInt8 → List UInt8
  | 0, l => l
  | _ + 1, [] => []
  | k + 1, c :: r => if fr.isPrefixOf (c :: r) then to_ ++ rplF fr to_ k ((c :: r).drop fr.length) else c :: rplF fr to_ k r
/-- l with each place of fr replaced -/
def rpl (fr to_ l : List UInt8) : List UInt8 := rplF fr to_ l.length l

theorem rplF_fuel (fr to_ : List UInt8) (hf : fr ≠ []) : ∀ k l, l.length ≤ k → rplF fr to_ k l = rpl fr to_ l := by
  intro k
  induction k using Nat.strongRecOn with
  | ind k ih =>
    intro l hl
    cases l with
    | nil => cases k <;> rfl
    | cons c r =>
      obtain ⟨k, rfl⟩ : ∃ j, k = j + 1 := ⟨k - 1, by simp at hl; omega⟩
      have hfl : 1 ≤ fr.length := by cases fr with | nil => exact absurd rfl hf | cons => simp
      simp only [List.length_cons] at hl
      unfold rpl
      simp only [List.length_cons, rplF]
      split
      · have e : ((c :: r).drop fr.length).length ≤ r.length := by rw [List.length_drop]; simp; omega
        rw [ih k (by omega) _ (by omega)]
        rcases Nat.lt_or_ge r.length (k + 1) with h | h
        · rw [ih r.length h _ e]
        · omega
      · rw [ih k (by omega) r (by omega)]; rfl
theorem rpl_nil (fr to_ : List UInt8) : rpl fr to_ [] = [] := rfl
theorem rpl_cons (fr to_ : List UInt8) (hf : fr ≠ []) (c : UInt8) (r : List UInt8) : rpl fr to_ (c :: r) = if fr.isPrefixOf (c :: r) then to_ ++ rpl fr to_ ((c :: r).drop fr.length) else c :: rpl fr to_ r := by
  have hfl : 1 ≤ fr.length := by cases fr with | nil => exact absurd rfl hf | cons => simp
  show rplF fr to_ (r.length + 1) (c :: r) = _
  simp only [rplF]
  rw [rplF_fuel fr to_ hf r.length _ (by rw [List.length_drop]; simp; omega)]
  rfl
theorem index_none_rpl (fr to_ : List UInt8) (hf : fr ≠ []) (l : List UInt8) (h : Lib.index l fr < 0) : rpl fr to_ l = l := by
  induction l with
  | nil => rfl
  | cons c r ih =>
    rw [Lib.index] at h
    rw [rpl_cons fr to_ hf]
    split at h
    · omega
    · rename_i hp
      rw [if_neg hp]
      have := Lib.index_ge r fr
      split at h
      · rename_i h2; rw [ih (by have : Lib.index r fr = -1 := by simpa using h2
                                omega)]
      · omega
theorem index_some_rpl (fr to_ : List UInt8) (hf : fr ≠ []) (l : List UInt8) : ∀ i : Nat, Lib.index l fr = i → rpl fr to_ l = l.take i ++ to_ ++ rpl fr to_ (l.drop (i + fr.length)) ∧ i + fr.length ≤ l.length := by
  induction l with
  | nil =>
    intro i h
    cases fr with
    | nil => exact absurd rfl hf
    | cons => simp [Lib.index] at h
  | cons c r ih =>
    intro i h
    rw [Lib.index] at h
    rw [rpl_cons fr to_ hf]
    split at h
    · rename_i hp
      have hi : i = 0 := by omega
      subst hi
      rw [if_pos hp]
      have := (List.isPrefixOf_iff_prefix.1 hp).length_le
      exact ⟨by simp, by simpa using this⟩
    · rename_i hp
      rw [if_neg hp]
      have hg := Lib.index_ge r fr
      split at h
      · omega
      · rename_i h2
        have h3 : Lib.index r fr ≠ -1 := by simpa using h2
        obtain ⟨j, rfl⟩ : ∃ j, i = j + 1 := ⟨i - 1, by omega⟩
        obtain ⟨e, hl⟩ := ih j (by omega)
        rw [e]
        refine ⟨?_, by simp; omega⟩
        rw [show j + 1 + fr.length = (j + fr.length) + 1 by omega]
        simp

def repL (fr to_ l : List UInt8) : Option (List UInt8) := if fr = [] then (if l.length + to_.length ≤ 65536 then some (l ++ to_) else none) else (if (rpl fr to_ l).length ≤ 65536 then some (rpl fr to_ l) else none)
def repB (s fr to_ : ByteArray) : Option ByteArray := (repL fr.data.toList to_.data.toList s.data.toList).map mk
def repV (o : Option ByteArray) : Value := match o with
  | some r => .tuple #[.string r, .int .i64 0]
  | none => .tuple #[.string ⟨#[]⟩, .int .i64 2]
def ssz : Value → Nat
  | .string t => t.size
  | _ => 0

set_option maxRecDepth 100000 in
set_option maxHeartbeats 1000000 in
theorem Replace_any (s fr to_ : ByteArray) (w : World) (hs : s.size ≤ 100000) (hf : fr.size ≤ 100000) (ht : to_.size ≤ 100000) (hw : 0 < w.heap.size) (m : Int) (hm : w.cell? ⟨0, 0, none⟩ = some (.int .i64 m)) :
    Calls Try.prog 17 #[.string s, .string fr, .string to_] w fun e w' => e = .returned (repV (repB s fr to_)) ∧ Below w.heap.size w w' := by
  by_cases he : fr.size = 0
  · obtain rfl : fr = ⟨#[]⟩ := by cases fr; congr; exact Array.size_eq_zero_iff.1 he
    by_cases hl : s.size + to_.size ≤ 65536
    · have hR : repB s ⟨#[]⟩ to_ = some (s ++ to_) := by
        unfold repB repL
        rw [if_pos rfl, if_pos (by simpa using hl)]
        simp [mk]
        apply ByteArray.ext; simp
      rw [hR]
      have p1 : ¬ (65536 : Int) < to_.size := by omega
      have p2 : ¬ (65536 : Int) - to_.size < s.size := by omega
      have p3 : ¬ 9223372036854775807 < s.size + to_.size := by omega
      have w1 : IntKind.i64.wrap ((65536 : Int) - to_.size) = 65536 - to_.size := IntWalk.i64_in _ (by omega)
      go_enter Try.func17, Try.ntmps17
      go_wp2
      go_ret2
      exact ⟨rfl, Below.refl _ w⟩
    · have hR : repB s ⟨#[]⟩ to_ = none := by
        unfold repB repL
        rw [if_pos rfl, if_neg (by simpa using hl)]
        rfl
      rw [hR]
      have w1 : IntKind.i64.wrap ((65536 : Int) - to_.size) = 65536 - to_.size := IntWalk.i64_in _ (by omega)
      go_enter Try.func17, Try.ntmps17
      go_wp2
      all_goals first | (go_ret2; exact ⟨rfl, Below.refl _ w⟩) | (exfalso; omega)
  · have hne : fr.data.toList ≠ [] := fun e => he (by have := congrArg List.length e; simpa using this)
    have hfe : (fr.toList == []) = false := by rw [ba_toList]; simpa using hne
    obtain ⟨R, hR⟩ : ∃ R, rpl fr.data.toList to_.data.toList s.data.toList = R := ⟨_, rfl⟩
    have hRB : repB s fr to_ = if R.length ≤ 65536 then some (mk R) else none := by
      unfold repB repL
      rw [if_neg hne, hR]
      split <;> rfl
    rw [hRB]
    obtain ⟨A, hA⟩ : ∃ A, (if R.length ≤ 65536 then some (mk R) else none) = A := ⟨_, rfl⟩
    rw [hA]
    have HA := Lib.hid hA
    clear hA
    have HNE := Lib.hid hne
    have HR := Lib.hid hR
    clear hR hRB hne
    have hb0 : Lib.IsBuilder 72 5 w.heap.size w.heap.size (Lib.byteCells []) (w.alloc (.cells #[.pointer none, .slice none 0 0] 72)) :=
      .inl ⟨Nat.le_refl _, .slice none 0 0, World.alloc_heap_new _ _, World.ownsRow_nil _ _ _ _, by simp [Value.ownBlock]⟩
    have HB0 := Lib.hid hb0
    clear hb0
    go_enter Try.func17, Try.ntmps17
    go_wp2
    go_loopw [0] (fun sv wi => ∃ (t : ByteArray) (bs : List UInt8), sv = .string t ∧ t.size ≤ s.size ∧ bs.length ≤ 65536 ∧ Hid (R = bs ++ rpl fr.data.toList to_.data.toList t.data.toList) ∧ Hid (Lib.IsBuilder 72 5 w.heap.size w.heap.size (Lib.byteCells bs) wi) ∧ Below w.heap.size w wi) (fun sv _ => ssz sv)
    case atStart => exact ⟨s, [], rfl, Nat.le_refl _, by simp, HR.out.symm, HB0, (Below.refl _ w).alloc (Nat.le_refl _) _⟩
    case round =>
      obtain ⟨t, bs, rfl, htl, hbl, hrel, hbld, hbel⟩ := hrel
      have HI := Lib.hid (Try.strings_Index t fr m wr (by omega) (by rw [hbel.cell (p := ⟨0, 0, none⟩) hw]; exact hm))
      have hg := Lib.index_ge t.data.toList fr.data.toList
      by_cases hi : Lib.index t.data.toList fr.data.toList < 0
      · have hz := index_none_rpl _ to_.data.toList HNE.out _ hi
        rw [Hid, hz] at hrel
        have HREL := Lib.hid hrel
        clear hrel hz
        generalize Lib.index t.data.toList fr.data.toList = ix at *
        have w2 : IntKind.i64.wrap ((65536 : Int) - ((Lib.byteCells bs).length : Nat)) = 65536 - bs.length := by rw [IntWalk.i64_in _ (by simp [Lib.byteCells]; omega)]; simp [Lib.byteCells]
        have hlR : R.length = bs.length + t.size := by have := congrArg List.length HREL.out; simpa using this
        by_cases hlen : R.length ≤ 65536
        · obtain rfl : A = some (mk R) := by rw [← HA.out, if_pos hlen]
          have q1 : ¬ ((65536 : Int) - bs.length < t.size) := by omega
          have HW := Lib.hid (WriteString_any w.heap.size w.heap.size (Lib.byteCells bs) t wr hbld.out (by simp [Lib.byteCells]; omega) hbel.size)
          go_wp2_with (first | (go_at_call 49; refine (HI.out).mono ?_; rintro e w1 ⟨rfl, rfl⟩) | (go_at_call 51; refine (Try.Builder_Len _ _ _ _ hbld.out).mono ?_; rintro e w1 ⟨rfl, rfl⟩) | (go_at_call 50; refine HW.out.mono ?_; rintro e w1 ⟨rfl, HB1, HB2⟩) | (go_at_call 52; refine (Try.Builder_String_any _ _ (bs ++ t.data.toList) _ (.inr (by simpa [Lib.byteCells, Lib.strCells] using HB1)) (by have := hbel.size; have := HB2.size; omega)).mono ?_; rintro e w1 ⟨rfl, HB3⟩))
          go_ret2
          refine ⟨?_, (hbel.trans HB2).trans HB3⟩
          rw [HREL.out]; rfl
        · obtain rfl : A = none := by rw [← HA.out, if_neg hlen]
          have q1 : ((65536 : Int) - bs.length < t.size) := by omega
          go_wp2_with (first | (go_at_call 49; refine (HI.out).mono ?_; rintro e w1 ⟨rfl, rfl⟩) | (go_at_call 51; refine (Try.Builder_Len _ _ _ _ hbld.out).mono ?_; rintro e w1 ⟨rfl, rfl⟩))
          go_ret2
          exact ⟨rfl, hbel⟩
      · obtain ⟨j, hj⟩ : ∃ j : Nat, Lib.index t.data.toList fr.data.toList = j := ⟨(Lib.index t.data.toList fr.data.toList).toNat, by omega⟩
        obtain ⟨hz, hjl⟩ := index_some_rpl _ to_.data.toList HNE.out _ j hj
        rw [Hid, hz] at hrel
        have HREL := Lib.hid hrel
        rw [hj] at HI
        clear hrel hz hi hg hj
        simp at hjl
        have w2 : IntKind.i64.wrap ((j : Int) + fr.size) = ((j + fr.size : Nat) : Int) := by rw [IntWalk.i64_in _ (by omega)]; omega
        have HW := Lib.hid (WriteString_any w.heap.size w.heap.size (Lib.byteCells bs) (t.extract 0 j) wr hbld.out (by simp [Lib.byteCells]; omega) hbel.size)
        have hex : (t.extract 0 j).data.toList = t.data.toList.take j := by rw [extract_list]; rfl
        have hlR : R.length = bs.length + j + to_.size + (rpl fr.data.toList to_.data.toList (t.data.toList.drop (j + fr.size))).length := by
          have := congrArg List.length HREL.out
          simp at this ⊢
          omega
        have hxs : (t.extract 0 j).size = j := by rw [ByteArray.size_extract]; omega
        have hsl : (t.extract (j + fr.size) t.size).data.toList = t.data.toList.drop (j + fr.size) := by rw [extract_list, List.take_of_length_le (by simp)]
        have hsz : (t.extract (j + fr.size) t.size).size = t.size - (j + fr.size) := by rw [ByteArray.size_extract]; omega
        have HLR := Lib.hid hlR
        have HSL := Lib.hid hsl
        clear hlR hsl
        go_wp2_with fail
        refine HI.out.mono ?_
        rintro e w1 ⟨rfl, rfl⟩
        go_wp2_with fail
        refine HW.out.mono ?_
        rintro e w2 ⟨rfl, HB1, HB2⟩
        have hb1 := hbel.trans HB2
        have HB1b : Lib.IsBuilder 72 5 w.heap.size w.heap.size (Lib.byteCells (bs ++ t.data.toList.take j)) w2 := .inr (by simpa [Lib.byteCells, Lib.strCells, hex] using HB1)
        have HW2 := Lib.hid (WriteString_any w.heap.size w.heap.size _ to_ w2 HB1b (by simp [Lib.byteCells]; omega) hb1.size)
        clear HB1 HB1b
        go_wp2_with fail
        refine HW2.out.mono ?_
        rintro e w3 ⟨rfl, HB3, HB4⟩
        have hb3 := hb1.trans HB4
        have HB3b : Hid (Lib.IsBuilder 72 5 w.heap.size w.heap.size (Lib.byteCells (bs ++ t.data.toList.take j ++ to_.data.toList)) w3) := .inr (by simpa [Lib.byteCells, Lib.strCells] using HB3)
        clear HB3
        go_wp2_with fail
        refine (Try.Builder_Len _ _ _ _ HB3b.out).mono ?_
        have hnl : ((Lib.byteCells (bs ++ t.data.toList.take j ++ to_.data.toList)).length : Int) = bs.length + j + to_.size := by
          simp [Lib.byteCells]; omega
        rw [hnl]
        rintro e w4 ⟨rfl, rfl⟩
        by_cases hbig : (65536 : Int) < (bs.length : Int) + j + to_.size
        · obtain rfl : A = none := by rw [← HA.out, if_neg (by have := HLR.out; omega)]
          go_wp2
          go_ret2
          exact ⟨rfl, hb3⟩
        · go_wp2
          refine ⟨⟨t.extract (j + fr.size) t.size, bs ++ t.data.toList.take j ++ to_.data.toList, rfl, by omega, by simp; omega, ?_, HB3b, hb3⟩, ?_⟩
          · unfold Hid
            rw [HSL.out, HREL.out]
            simp
          · simp only [ssz]
            omega
end Go.Proofs.Ytndoloohdloflab
