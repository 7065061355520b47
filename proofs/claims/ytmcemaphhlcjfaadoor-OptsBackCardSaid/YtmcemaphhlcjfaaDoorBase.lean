/- Small lemmas on worlds, bytes and lists that all walks of this seat use; no condition. -/
import Derived.Test.YtmcemaphhlcjfaaDoorShelf
import Derived.WalkKit
import Derived.WalkSpells
import Derived.WalkMore
import Derived.BigQuiet
import Derived.Deep.QuietTactic
import Derived.WalkLawsBesides
import Derived.StillTailTactics
import Derived.IntWalk
import Derived.Lib.Hide
namespace Go.Proofs.YtmcemaphhlcjfaaDoor
open Go.RowKit

theorem ret_int {k : IntKind} {a b : Int} (h : a = b) : Ending.returned (.int k a) = .returned (.int k b) := by rw [h]
theorem ret_bool {a b : Bool} (h : a = b) : Ending.returned (.bool a) = .returned (.bool b) := by rw [h]
theorem ret_str {a b : ByteArray} (h : a = b) : Ending.returned (.string a) = .returned (.string b) := by rw [h]
theorem bcell {W w1 : World} (hb : Below W.heap.size W w1) : (∀ b o, b < W.heap.size → w1.cell? ⟨b, o, none⟩ = W.cell? ⟨b, o, none⟩) ∧ (∀ b o, b < W.heap.size → w1.frozen? ⟨b, o, none⟩ = W.frozen? ⟨b, o, none⟩) :=
  ⟨fun b o h => hb.cell (p := ⟨b, o, none⟩) h, fun b o h => hb.frozen (p := ⟨b, o, none⟩) h⟩
theorem below_drewN {B : Nat} {a w : World} (h : Below B a w) (n : Nat) : Below B a (w.drewN n) := h.trans ⟨rfl, rfl, rfl, Nat.le_refl _, fun _ _ => rfl⟩
theorem indexByte_lt (l : List UInt8) (c : UInt8) : Lib.indexByte l c < l.length := by
  induction l with
  | nil => simp [Lib.indexByte]
  | cons x l ih => simp only [Lib.indexByte, List.length_cons]; split <;> (try split) <;> omega

theorem ba_ext {a b : ByteArray} (h : a.data.toList = b.data.toList) : a = b := by
  cases a; cases b; congr 1; exact Array.toList_inj.1 h
theorem ba_toList (s : ByteArray) : s.toList = s.data.toList := Lib.toList_data s
theorem take_snoc (s : ByteArray) (k : Nat) (h : k < s.size) : s.data.toList.take (k + 1) = s.data.toList.take k ++ [s[k]] := by
  rw [List.take_succ_eq_append_getElem (by simpa using h)]; rfl
theorem extract_list (s : ByteArray) (a b : Nat) : (s.extract a b).data.toList = (s.data.toList.take b).drop a := by
  simp [List.drop_take]
def IdxAt (l : List UInt8) (u : UInt8) (k : Nat) : Prop := Lib.indexByte l u = if Lib.indexByte (l.drop k) u < 0 then -1 else k + Lib.indexByte (l.drop k) u
theorem IdxAt.start (l : List UInt8) (u : UInt8) : IdxAt l u 0 := by
  unfold IdxAt; have := Lib.indexByte_ge l u; simp only [List.drop_zero]; split <;> omega
theorem IdxAt.step {l : List UInt8} {u : UInt8} {k : Nat} (h : IdxAt l u k) (hk : k < l.length) (hn : l[k] ≠ u) : IdxAt l u (k + 1) := by
  unfold IdxAt at *
  have := Lib.indexByte_ge (l.drop (k + 1)) u
  rw [h, List.drop_eq_getElem_cons hk, Lib.indexByte, if_neg (show ¬ (l[k] == u) = true by simpa using hn)]
  generalize Lib.indexByte (List.drop (k + 1) l) u = z at *
  by_cases h2 : z = -1
  · simp [h2]
  · rw [if_neg (show ¬ (z == -1) = true by simpa using h2), if_neg (by omega), if_neg (by omega)]; omega
theorem IdxAt.found {l : List UInt8} {u : UInt8} {k : Nat} (h : IdxAt l u k) (hk : k < l.length) (hn : l[k] = u) : Lib.indexByte l u = k := by
  unfold IdxAt at h
  rw [h, List.drop_eq_getElem_cons hk, Lib.indexByte]
  simp [hn]
theorem IdxAt.none {l : List UInt8} {u : UInt8} {k : Nat} (h : IdxAt l u k) (hk : l.length ≤ k) : Lib.indexByte l u = -1 := by
  unfold IdxAt at h
  rw [h, List.drop_eq_nil_of_le hk]; simp [Lib.indexByte]

end Go.Proofs.YtmcemaphhlcjfaaDoor
