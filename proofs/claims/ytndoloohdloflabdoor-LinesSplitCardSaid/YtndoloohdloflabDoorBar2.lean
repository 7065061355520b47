/- A line without its comment, in the program and in the reference, and how many backslashes stand ahead of a place; condition: texts that lie in memory. -/
import Derived.Test.YtndoloohdloflabDoorBare
import Derived.RangeFuncRecord
import Derived.Lib.RabinKarpLaws
namespace Go.Proofs.YtndoloohdloflabDoor
open Go.RowKit

/-- a line without its comment: what stands ahead, what is written, what is to come -/
def bareL : List UInt8 → List UInt8 → List UInt8 → List UInt8
  | _, out, [] => out
  | pre, out, c :: r => if c == 35 then (if sl pre % 2 = 0 then out else bareL (pre ++ [c]) (out.dropLast ++ [c]) r) else bareL (pre ++ [c]) (out ++ [c]) r
def Stop (p : List UInt8) : Prop := ∀ a, sl (p ++ a) = sl a
theorem Stop.nil : Stop [] := fun _ => rfl
theorem sl_app_stop (p : List UInt8) (c : UInt8) (hc : c ≠ 92) (a : List UInt8) : sl (p ++ [c] ++ a) = sl a := by
  unfold sl
  rw [List.reverse_append, List.takeWhile_append]
  split
  · next h =>
    rw [List.reverse_append, List.reverse_singleton, List.singleton_append, List.takeWhile_cons, if_neg (by simpa using hc)]
    simp [h]
  · rfl
theorem Stop.snoc (p : List UInt8) (c : UInt8) (hc : c ≠ 92) : Stop (p ++ [c]) := sl_app_stop p c hc
theorem bareL_plain (a : List UInt8) : ∀ (pre out r : List UInt8), (∀ x ∈ a, x ≠ 35) → bareL pre out (a ++ r) = bareL (pre ++ a) (out ++ a) r := by
  induction a with
  | nil => intro pre out r _; simp
  | cons x a ih =>
    intro pre out r h
    rw [List.cons_append, bareL, if_neg (by simpa using h x (by simp)), ih _ _ _ (fun y hy => h y (by simp [hy]))]
    simp
theorem indexByte_split (l : List UInt8) (c : UInt8) : (Lib.indexByte l c = -1 ∧ ∀ x ∈ l, x ≠ c) ∨ ∃ a r, l = a ++ c :: r ∧ (∀ x ∈ a, x ≠ c) ∧ Lib.indexByte l c = a.length := by
  induction l with
  | nil => left; simp [Lib.indexByte]
  | cons x l ih =>
    unfold Lib.indexByte
    by_cases hx : x = c
    · right; exact ⟨[], l, by simp [hx], by simp, by simp [hx]⟩
    · rw [if_neg (by simpa using hx)]
      rcases ih with ⟨h1, h2⟩ | ⟨a, r, h1, h2, h3⟩
      · left; rw [h1]; simp; exact ⟨hx, fun y hy => h2 y hy⟩
      · right; refine ⟨x :: a, r, by simp [h1], ?_, ?_⟩
        · intro y hy; rcases List.mem_cons.1 hy with rfl | hy
          · exact hx
          · exact h2 y hy
        · rw [h3, if_neg (by simp)]; simp
theorem sl_pos_ne (a : List UInt8) (h : sl a % 2 ≠ 0) : a ≠ [] := by rintro rfl; exact h rfl

def bare (s : ByteArray) : ByteArray := mk (bareL [] [] s.data.toList)

theorem bareL_le (l : List UInt8) : ∀ pre out, (bareL pre out l).length ≤ out.length + l.length := by
  induction l with
  | nil => intro pre out; simp [bareL]
  | cons c r ih =>
    intro pre out
    rw [bareL]
    split
    · split
      · simp
      · next h => have := ih (pre ++ [c]) (out.dropLast ++ [c]); simp at this ⊢; omega
    · have := ih (pre ++ [c]) (out ++ [c]); simp at this ⊢; omega
theorem bare_size (s : ByteArray) : (bare s).size ≤ s.size := by
  have := bareL_le s.data.toList [] []
  simpa [bare, mk_size] using this

theorem empty_any (s : ByteArray) (w : World) (hs : s.size ≤ 140737488351232) :
    Calls Tryd.prog 19 #[.string s] w fun e w' => e = .returned (.bool (trL (trR s.data.toList)).isEmpty) ∧ Below w.heap.size w w' := by
  go_enter Tryd.func19, Tryd.ntmps19
  go_wp2_with fail
  refine (Trim_any s w hs).mono ?_
  rintro e w1 ⟨rfl, hb⟩
  go_wp2
  go_ret
  refine ⟨?_, hb⟩
  show Ending.returned (.bool (mk (trL (trR s.data.toList))).toList.isEmpty) = _
  rw [ba_toList]
  rfl

theorem cells_app {bs a : List UInt8} {t : ByteArray} (h : t.data.toList = a) : Lib.byteCells (bs ++ a) = Lib.byteCells bs ++ Lib.strCells t := by
  subst h
  simp [Lib.byteCells, Lib.strCells]
def lenOf : Value → Nat | .string s => s.size | _ => 0

set_option maxHeartbeats 2000000 in
set_option maxRecDepth 100000 in
theorem Bare_any (s : ByteArray) (w : World) (hs : s.size ≤ 140737488300000) :
    Calls Tryd.prog 12 #[.string s] w fun e w' => e = .returned (.string (bare s)) ∧ Below w.heap.size w w' := by
  obtain ⟨R, hR⟩ : ∃ R, bareL [] [] s.data.toList = R := ⟨_, rfl⟩
  have e1 : bare s = mk R := by unfold bare; rw [hR]
  rw [e1]
  have HR := Lib.hid hR
  clear hR e1
  have HB0 : Hid (Lib.IsBuilder 45 5 w.heap.size w.heap.size (Lib.byteCells []) (w.alloc (.cells #[.pointer none, .slice none 0 0] 45))) :=
    .inl ⟨Nat.le_refl _, .slice none 0 0, World.alloc_heap_new _ _, World.ownsRow_nil _ _ _ _, by simp [Value.ownBlock]⟩
  go_enter Tryd.func12, Tryd.ntmps12
  go_wp2
  go_loopw [0] (fun sv wi => ∃ (t : ByteArray) (pre bs : List UInt8), sv = .string t ∧ bs.length + t.size ≤ s.size ∧ Hid (Stop pre ∧ bareL pre bs t.data.toList = R) ∧ Hid (Lib.IsBuilder 45 5 w.heap.size w.heap.size (Lib.byteCells bs) wi) ∧ Below w.heap.size w wi) (fun sv _ => lenOf sv)
  case atStart => exact ⟨s, [], [], rfl, by simp, ⟨Stop.nil, HR.out⟩, HB0, (Below.refl _ w).alloc (Nat.le_refl _) _⟩
  case round =>
    obtain ⟨t, pre, bs, rfl, hl, hrel, hbld, hbel⟩ := hrel
    have HI := Lib.hid (Tryd.strings_IndexByte t 35 wr)
    rcases indexByte_split t.data.toList 35 with ⟨h1, h2⟩ | ⟨a, r, h1, h2, h3⟩
    · have HI : Hid (Calls Tryd.prog 21 #[.string t, .int .u8 35] wr fun e w' => e = .returned (.int .i64 (-1)) ∧ w' = wr) := by have := HI.out; rw [show Lib.indexByte t.data.toList (35 : Int).toNat.toUInt8 = -1 from h1] at this; exact this
      have HREL : Hid (bs ++ t.data.toList = R) := by
        unfold Hid
        have := hrel.2
        have hp := bareL_plain t.data.toList pre bs [] h2
        rw [List.append_nil] at hp
        rw [hp] at this
        exact this
      clear h1 h2 hrel
      have HW := Lib.hid (WriteString_any w.heap.size w.heap.size (Lib.byteCells bs) t wr hbld.out (by simp [Lib.byteCells]; omega) hbel.size)
      go_wp2_with fail
      refine HI.out.mono ?_
      rintro e w1 ⟨rfl, rfl⟩
      go_wp2_with fail
      refine HW.out.mono ?_
      rintro e w2 ⟨rfl, HB1, HB2⟩
      have HB1b : Hid (Lib.IsBuilder 45 5 w.heap.size w.heap.size (Lib.byteCells (bs ++ t.data.toList)) w2) := .inr (by simpa [Lib.byteCells, Lib.strCells] using HB1)
      clear HB1
      go_wp2_with fail
      refine (Tryd.Builder_String_any _ _ (bs ++ t.data.toList) _ HB1b.out (by have := hbel.size; have := HB2.size; omega)).mono ?_
      rintro e w3 ⟨rfl, HB3⟩
      go_wp2
      go_ret
      exact ⟨by rw [HREL.out]; rfl, (hbel.trans HB2).trans HB3⟩
    · obtain ⟨j, hj⟩ : ∃ j, a.length = j := ⟨_, rfl⟩
      have HI : Hid (Calls Tryd.prog 21 #[.string t, .int .u8 35] wr fun e w' => e = .returned (.int .i64 (j : Nat)) ∧ w' = wr) := by have := HI.out; rw [show Lib.indexByte t.data.toList (35 : Int).toNat.toUInt8 = _ from h3, hj] at this; exact this
      have htl : t.size = j + 1 + r.length := by have := congrArg List.length h1; simp at this; omega
      have HREL : Hid (bareL (pre ++ a) (bs ++ a) (35 :: r) = R) := by
        unfold Hid
        have := hrel.2
        rw [h1, bareL_plain a pre bs _ h2] at this
        exact this
      have HST := Lib.hid hrel.1
      have HXA : Hid ((t.extract 0 j).data.toList = a) := by unfold Hid; rw [extract_list, h1, ← hj]; simp
      have HXR : Hid ((t.extract (j + 1) t.size).data.toList = r) := by unfold Hid; rw [extract_list, List.take_of_length_le (by simp), h1, ← hj]; simp
      have hxs : (t.extract 0 j).size = j := by rw [ByteArray.size_extract]; omega
      clear h1 h2 h3 hrel
      have HS := Lib.hid (slashes_any (t.extract 0 j) wr (by omega))
      rw [HXA.out] at HS
      by_cases hev : sl a % 2 = 0
      · have HR2 : Hid (bs ++ a = R) := by
          unfold Hid
          have := HREL.out
          simpa [bareL, HST.out a, hev] using this
        have qa : bits BinOp.and IntKind.i64 ((sl a : Nat) : Int) 1 = 0 := by rw [Go.Proofs.and_one _ (by have := sl_le a; omega), hev]; rfl
        have HW := Lib.hid (WriteString_any w.heap.size w.heap.size (Lib.byteCells bs) (t.extract 0 j) wr hbld.out (by simp [Lib.byteCells]; omega) hbel.size)
        clear HREL
        go_wp2_with fail
        refine HI.out.mono ?_
        rintro e w1 ⟨rfl, rfl⟩
        go_wp2_with fail
        refine HS.out.mono ?_
        rintro e w2 ⟨rfl, rfl⟩
        go_wp2_with fail
        refine HW.out.mono ?_
        rintro e w3 ⟨rfl, HB1, HB2⟩
        have HB1b : Hid (Lib.IsBuilder 45 5 w.heap.size w.heap.size (Lib.byteCells (bs ++ a)) w3) := .inr (by rw [cells_app HXA.out]; exact HB1)
        clear HB1
        go_wp2_with fail
        refine (Tryd.Builder_String_any _ _ (bs ++ a) _ HB1b.out (by have := hbel.size; have := HB2.size; omega)).mono ?_
        rintro e w4 ⟨rfl, HB3⟩
        go_wp2
        go_ret
        exact ⟨by rw [HR2.out]; rfl, (hbel.trans HB2).trans HB3⟩
      · have hne := sl_pos_ne a hev
        have hj0 : 0 < j := by rw [← hj]; exact List.length_pos_iff.2 hne
        have HR2 : Hid (bareL (pre ++ a ++ [35]) ((bs ++ a.dropLast) ++ [35]) r = R) := by
          unfold Hid
          have := HREL.out
          simpa [bareL, HST.out a, hev, List.dropLast_append_of_ne_nil hne] using this
        have HST2 : Hid (Stop (pre ++ a ++ [35])) := Stop.snoc _ _ (by decide)
        have HXB : Hid ((t.extract 0 (j - 1)).data.toList = a.dropLast) := by
          unfold Hid
          have := HXA.out
          rw [extract_list] at this ⊢
          rw [← this]
          simp only [List.drop_zero]
          rw [List.dropLast_take (by simp; omega)]
        have qa : bits BinOp.and IntKind.i64 ((sl a : Nat) : Int) 1 = 1 := by rw [Go.Proofs.and_one _ (by have := sl_le a; omega)]; omega
        have hbs2 : (t.extract 0 (j - 1)).size = j - 1 := by rw [ByteArray.size_extract]; omega
        have hxr : (t.extract (j + 1) (j + 1 + r.length)).size = r.length := by rw [ByteArray.size_extract]; omega
        have HW := Lib.hid (WriteString_any w.heap.size w.heap.size (Lib.byteCells bs) (t.extract 0 (j - 1)) wr hbld.out (by simp [Lib.byteCells]; omega) hbel.size)
        clear HREL hne
        go_wp2_with fail
        refine HI.out.mono ?_
        rintro e w1 ⟨rfl, rfl⟩
        go_wp2_with fail
        refine HS.out.mono ?_
        rintro e w2 ⟨rfl, rfl⟩
        go_wp2_with fail
        all_goals first | (exfalso; omega) | skip
        refine HW.out.mono ?_
        rintro e w3 ⟨rfl, HB1, HB2⟩
        have HB1b : Hid (Lib.IsBuilder 45 5 w.heap.size w.heap.size (Lib.byteCells (bs ++ a.dropLast)) w3) := .inr (by rw [cells_app HXB.out]; exact HB1)
        have hb1 := hbel.trans HB2
        have hal : (a.dropLast).length = j - 1 := by simp [hj]
        have HW2 := Lib.hid (WriteByte_any w.heap.size w.heap.size _ 35 w3 HB1b.out (by simp [Lib.byteCells]; omega) hb1.size)
        clear HB1 HB1b
        go_wp2_with fail
        refine HW2.out.mono ?_
        rintro e w4 ⟨rfl, HB3, HB4⟩
        have hb3 := hb1.trans HB4
        have HB3b : Hid (Lib.IsBuilder 45 5 w.heap.size w.heap.size (Lib.byteCells (bs ++ a.dropLast ++ [35])) w4) := .inr (by simpa [Lib.byteCells] using HB3)
        clear HB3
        go_wp2_with fail
        all_goals first | (exfalso; omega) | skip
        rw [htl] at HXR
        refine ⟨⟨t.extract (j + 1) (j + 1 + r.length), pre ++ a ++ [35], bs ++ a.dropLast ++ [35], rfl, by simp [hal]; omega, ⟨HST2, by rw [HXR.out]; exact HR2.out⟩, HB3b, hb3⟩, ?_⟩
        simp only [lenOf]
        omega
end Go.Proofs.YtndoloohdloflabDoor
