/- A logical line, in plain words: which lines it holds, its kind, its text. -/
import Derived.Test.YtndoloohdloflabDoorBarR
import Derived.Test.YtndoloohdloflabDoorLists
namespace Go.Proofs.YtndoloohdloflabDoor
open Go.RowKit

/-- a line that begins with a tab -/
def hp (s : ByteArray) : Bool := Lib.hasPrefix s.data.toList (⟨#[9]⟩ : ByteArray).data.toList
def tp (s : ByteArray) : ByteArray := ⟨(Lib.trimPrefix s.data.toList (⟨#[9]⟩ : ByteArray).data.toList).toArray⟩
def isBl (s : ByteArray) : Bool := (trL (trR s.data.toList)).isEmpty
/-- a text and one more line -/
def joinT (rc : Bool) (text m : ByteArray) : ByteArray :=
  if rc then text ++ (⟨#[10]⟩ ++ tp m) else mk (trR (text.extract 0 (text.size - 1)).data.toList) ++ ⟨#[32]⟩ ++ mk (trL m.data.toList)
def goOn (rc : Bool) : ByteArray → List ByteArray → ByteArray → Nat → ByteArray × Nat
  | _, [], text, k => (text, k)
  | prev, m :: r, text, k => if sl prev.data.toList % 2 = 1 then goOn rc m r (joinT rc text m) (k + 1) else (text, k)
structure Ln where
  kind : Int
  no : Int
  text : ByteArray
  next : Nat
def finish (rc : Bool) (p : Nat) (t : ByteArray × Nat) : Ln :=
  if rc then (if t.2 = p + 1 ∧ isBl t.1 = true then ⟨0, p + 1, ⟨#[]⟩, t.2⟩ else ⟨1, p + 1, t.1, t.2⟩)
  else (if isBl (bare t.1) = true then ⟨0, p + 1, ⟨#[]⟩, t.2⟩ else ⟨2, p + 1, t.1, t.2⟩)
def nextF (xs : List ByteArray) (p : Nat) : Ln :=
  match xs.drop p with
  | [] => ⟨0, 0, ⟨#[]⟩, p⟩
  | s :: r => finish (hp s) p (goOn (hp s) s r (if hp s then tp s else s) (p + 1))
def total (xs : List ByteArray) : Nat := (xs.map (fun x => x.size + 2)).sum

theorem tp_size (s : ByteArray) : (tp s).size ≤ s.size := by
  show (Lib.trimPrefix s.data.toList _).length ≤ s.data.toList.length
  unfold Lib.trimPrefix
  split
  · rw [List.length_drop]; exact Nat.sub_le _ _
  · exact Nat.le_refl _
theorem total_len (xs : List ByteArray) : xs.length ≤ total xs := by
  unfold total
  induction xs with
  | nil => simp
  | cons x l ih => simp at ih ⊢; omega
theorem total_cons (x : ByteArray) (l : List ByteArray) : total (x :: l) = x.size + 2 + total l := by simp [total]
theorem total_drop (xs : List ByteArray) : ∀ i, total (xs.drop i) ≤ total xs := by
  induction xs with
  | nil => intro i; simp
  | cons x l ih => intro i; cases i with
    | zero => exact Nat.le_refl _
    | succ j => rw [total_cons]; have := ih j; simp only [List.drop_succ_cons]; omega
theorem total_at (xs : List ByteArray) (i : Nat) (x : ByteArray) (hx : xs[i]? = some x) : x.size + 2 + total (xs.drop (i + 1)) ≤ total (xs.drop i) ∧ total (xs.drop i) ≤ total xs := by
  refine ⟨?_, total_drop xs i⟩
  have hi : i < xs.length := by
    rcases Nat.lt_or_ge i xs.length with h | h
    · exact h
    · rw [List.getElem?_eq_none h] at hx; cases hx
  rw [List.drop_eq_getElem_cons hi, total_cons]
  rw [List.getElem?_eq_getElem hi] at hx
  cases hx
  exact Nat.le_refl _
theorem heap_set3 {W : World} {b : Nat} {c : Array Value} {t : TypeId} (i : Nat) (v : Value) (h : W.heap[b]? = some (.cells c t (0, 0))) : (W.setCell ⟨b, i, none⟩ v).heap[b]? = some (.cells (c.setIfInBounds i v) t (0, 0)) := by
  obtain ⟨hlt, hk⟩ := Array.getElem?_eq_some_iff.1 h
  show (W.heap.modify b _)[b]? = _
  rw [Array.getElem?_eq_getElem (by rw [Array.size_modify]; exact hlt), Array.getElem_modify_self, hk]
  rfl

def LnAt (W : World) (B : Nat) (k n : Int) (t : ByteArray) : Prop := W.heap[B]? = some (.cells #[.int .i64 k, .int .i64 n, .string t] 25 (0, 0))
section
variable {W : World} {B : Nat} {k n : Int} {t : ByteArray}
theorem LnAt.c0 (h : LnAt W B k n t) : W.cell? ⟨B, 0, none⟩ = some (.int .i64 k) := by rw [Lib.cell_of_heap h]; rfl
theorem LnAt.c1 (h : LnAt W B k n t) : W.cell? ⟨B, 1, none⟩ = some (.int .i64 n) := by rw [Lib.cell_of_heap h]; rfl
theorem LnAt.c2 (h : LnAt W B k n t) : W.cell? ⟨B, 2, none⟩ = some (.string t) := by rw [Lib.cell_of_heap h]; rfl
theorem LnAt.fz (h : LnAt W B k n t) (i : Nat) : W.frozen? ⟨B, i, none⟩ = false := Lib.frozen_of_heap h i
theorem LnAt.lt (h : LnAt W B k n t) : B < W.heap.size := (Array.getElem?_eq_some_iff.1 h).1
theorem LnAt.setKind (h : LnAt W B k n t) (k' : Int) : LnAt (W.setCell ⟨B, 0, none⟩ (.int .i64 k')) B k' n t := heap_set3 0 _ h
theorem LnAt.setNo (h : LnAt W B k n t) (n' : Int) : LnAt (W.setCell ⟨B, 1, none⟩ (.int .i64 n')) B k n' t := heap_set3 1 _ h
theorem LnAt.setText (h : LnAt W B k n t) (t' : ByteArray) : LnAt (W.setCell ⟨B, 2, none⟩ (.string t')) B k n t' := heap_set3 2 _ h
theorem LnAt.other (h : LnAt W B k n t) {C i : Nat} (v : Value) (hC : B ≠ C) : LnAt (W.setCell ⟨C, i, none⟩ v) B k n t := (Below.heap_setCell W ⟨C, i, none⟩ v B hC).trans h
theorem LnAt.below {W' : World} (h : LnAt W B k n t) (hb : Below W.heap.size W W') : LnAt W' B k n t := (hb.block B h.lt).trans h
theorem LnAt.belowA {W' : World} (h : LnAt W B k n t) {N : Nat} (hb : Below N W W') (hN : B < N) : LnAt W' B k n t := (hb.block B hN).trans h
end
theorem ret_ln {W : World} {B : Nat} {k n x : Int} {t : ByteArray} {a : Act} {Q : Ending → World → Prop} (hL : LnAt W B k n t) (h4 : a.tmps.getD 4 undef = .pointer (some ⟨B, 0, none⟩)) (h5 : a.tmps.getD 5 undef = .int .i64 x) (hd : a.defers = [])
    (h : Q (.returned (.tuple #[.agg #[.int .i64 k, .int .i64 n, .string t], .int .i64 x])) W) : bodyPost Tryd.prog Tryd.f7 Q Exit.ret a W := by
  have c0 := hL.c0
  have c1 := hL.c1
  have c2 := hL.c2
  rw [Array.getD_eq_getD_getElem?] at h4 h5
  exact bodyPost_ret (v := .tuple #[.agg #[.int .i64 k, .int .i64 n, .string t], .int .i64 x]) (by simp [results, Tryd.results7, go_sem, h4, h5, c0, c1, c2]) hd h
theorem Next_out (w : World) (A : Option Addr) (ca n : Nat) (p : Nat) (hp : n ≤ p) (hp2 : p ≤ 1000000000) :
    Calls Tryd.prog 7 #[.slice A n ca, .int .i64 p] w fun e w' => e = .returned (.tuple #[.agg #[.int .i64 0, .int .i64 0, .string ⟨#[]⟩], .int .i64 p]) ∧ Below w.heap.size w w' := by
  have q1 : ¬ ((p : Int) < 0) := by omega
  have q2 : (n : Int) ≤ p := by omega
  go_enter Tryd.func7, Tryd.ntmps7
  go_wp2
  exact bodyPost_ret (v := .tuple #[.agg #[.int .i64 0, .int .i64 0, .string ⟨#[]⟩], .int .i64 p]) (by simp [results, Tryd.results7, go_sem]) rfl ⟨rfl, (Below.refl _ _).alloc (Nat.le_refl _) _⟩
end Go.Proofs.YtndoloohdloflabDoor
