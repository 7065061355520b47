/- Words with brackets as members, in plain words; a scope in which the run jumps to one of two labels; no condition. -/
import Derived.Test.YtmcemaphhlcjfaaDoorName
import Derived.Test.YtmcemaphhlcjfaaDoorLent
import Derived.ScopeJumps
namespace Go.Proofs.YtmcemaphhlcjfaaDoor
open Go.RowKit

/-- As Q; by a goto to label 0: J0; to label 1: J1; by any other: no way out. -/
def jumps2 (J0 J1 : Act → World → Prop) (Q : Exit → Act → World → Prop) : Exit → Act → World → Prop
  | .goto l, a, w => (l = 0 ∧ J0 a w) ∨ (l = 1 ∧ J1 a w)
  | e, a, w => Q e a w
theorem wp_scope_two {P : Program} {a : Act} {w : World} {Q : Exit → Act → World → Prop} {c r0 r1 : Code} (J0 J1 : Nat → Act → World → Prop) (h0 : findLabel c 0 = some r0) (h1 : findLabel c 1 = some r1)
    (first : c.wp P (jumps2 (fun a w => ∃ m, J0 m a w) (fun a w => ∃ m, J1 m a w) Q) a w)
    (pass0 : ∀ n a w, J0 n a w → r0.wp P (jumps2 (fun a w => ∃ m, m < n ∧ J0 m a w) (fun a w => ∃ m, m < n ∧ J1 m a w) Q) a w)
    (pass1 : ∀ n a w, J1 n a w → r1.wp P (jumps2 (fun a w => ∃ m, m < n ∧ J0 m a w) (fun a w => ∃ m, m < n ∧ J1 m a w) Q) a w) : (Code.scope c).wp P Q a w := by
  intro b k cs
  have hg0 : gotoIn 0 (.inScope c :: k) = some (.code r0 :: .inScope c :: k) := by simp [gotoIn, h0]
  have hg1 : gotoIn 1 (.inScope c :: k) = some (.code r1 :: .inScope c :: k) := by simp [gotoIn, h1]
  have key : ∀ n, (∀ a w, J0 n a w → ∃ e a' w', Q e a' w' ∧ Arrives P (lone (b.at a (.code r0 :: .inScope c :: k)) cs w) b k cs e a' w') ∧
      (∀ a w, J1 n a w → ∃ e a' w', Q e a' w' ∧ Arrives P (lone (b.at a (.code r1 :: .inScope c :: k)) cs w) b k cs e a' w') := by
    intro n
    induction n using Nat.strongRecOn with
    | _ n ih =>
      refine ⟨fun a w hJ => ?_, fun a w hJ => ?_⟩
      · obtain ⟨e, a₁, w₁, hq, harr⟩ := pass0 n a w hJ b (.inScope c :: k) cs
        cases e with
        | normal => exact ⟨.normal, a₁, w₁, hq, Steps.trans harr (.one step_inScope)⟩
        | exit id => exact ⟨.exit id, a₁, w₁, hq, fun k' hk => harr k' (by simp [exitTo, hk])⟩
        | goto l' =>
          rcases hq with ⟨rfl, m, hm, hJ'⟩ | ⟨rfl, m, hm, hJ'⟩
          · obtain ⟨e₂, a₂, w₂, hq₂, harr₂⟩ := (ih m hm).1 a₁ w₁ hJ'
            exact ⟨e₂, a₂, w₂, hq₂, .of_steps (harr _ hg0) harr₂⟩
          · obtain ⟨e₂, a₂, w₂, hq₂, harr₂⟩ := (ih m hm).2 a₁ w₁ hJ'
            exact ⟨e₂, a₂, w₂, hq₂, .of_steps (harr _ hg1) harr₂⟩
        | ret => exact ⟨_, a₁, w₁, hq, harr⟩
        | panic ch => exact ⟨_, a₁, w₁, hq, harr⟩
        | outgrown => exact ⟨_, a₁, w₁, hq, harr⟩
      · obtain ⟨e, a₁, w₁, hq, harr⟩ := pass1 n a w hJ b (.inScope c :: k) cs
        cases e with
        | normal => exact ⟨.normal, a₁, w₁, hq, Steps.trans harr (.one step_inScope)⟩
        | exit id => exact ⟨.exit id, a₁, w₁, hq, fun k' hk => harr k' (by simp [exitTo, hk])⟩
        | goto l' =>
          rcases hq with ⟨rfl, m, hm, hJ'⟩ | ⟨rfl, m, hm, hJ'⟩
          · obtain ⟨e₂, a₂, w₂, hq₂, harr₂⟩ := (ih m hm).1 a₁ w₁ hJ'
            exact ⟨e₂, a₂, w₂, hq₂, .of_steps (harr _ hg0) harr₂⟩
          · obtain ⟨e₂, a₂, w₂, hq₂, harr₂⟩ := (ih m hm).2 a₁ w₁ hJ'
            exact ⟨e₂, a₂, w₂, hq₂, .of_steps (harr _ hg1) harr₂⟩
        | ret => exact ⟨_, a₁, w₁, hq, harr⟩
        | panic ch => exact ⟨_, a₁, w₁, hq, harr⟩
        | outgrown => exact ⟨_, a₁, w₁, hq, harr⟩
  obtain ⟨e, a₁, w₁, hq, harr⟩ := first b (.inScope c :: k) cs
  cases e with
  | normal => exact ⟨.normal, a₁, w₁, hq, .head step_scope (Steps.trans harr (.one step_inScope))⟩
  | exit id => exact ⟨.exit id, a₁, w₁, hq, fun k' hk => .head step_scope (harr k' (by simp [exitTo, hk]))⟩
  | goto l' =>
    rcases hq with ⟨rfl, m, hJ'⟩ | ⟨rfl, m, hJ'⟩
    · obtain ⟨e₂, a₂, w₂, hq₂, harr₂⟩ := (key m).1 a₁ w₁ hJ'
      exact ⟨e₂, a₂, w₂, hq₂, .of_steps (.head step_scope (harr _ hg0)) harr₂⟩
    · obtain ⟨e₂, a₂, w₂, hq₂, harr₂⟩ := (key m).2 a₁ w₁ hJ'
      exact ⟨e₂, a₂, w₂, hq₂, .of_steps (.head step_scope (harr _ hg1)) harr₂⟩
  | ret => exact ⟨_, a₁, w₁, hq, .of_steps (.one step_scope) harr⟩
  | panic ch => exact ⟨_, a₁, w₁, hq, .of_steps (.one step_scope) harr⟩
  | outgrown => exact ⟨_, a₁, w₁, hq, .of_steps (.one step_scope) harr⟩

def k40 (x : ByteArray) : Int := Lib.indexByte x.data.toList 40
def clB (x : ByteArray) : Bool := Lib.hasSuffix x.data.toList [41]
def xAt (xs : List ByteArray) (j : Nat) : ByteArray := xs.getD j ⟨#[]⟩
def seekL : List ByteArray → Nat
  | [] => 0
  | x :: l => if clB x then 0 else seekL l + 1
def seek (xs : List ByteArray) (j : Nat) : Nat := j + seekL (xs.drop j)
def mw (xs : List ByteArray) (k i t n : Nat) : ByteArray :=
  let u := if n = i then (xAt xs n).extract (k + 1) (xAt xs n).size else xAt xs n
  if n = t then u.extract 0 (u.size - 1) else u
def memb (p m : ByteArray) : List ByteArray := if m.size = 0 then [] else [p ++ ⟨#[40]⟩ ++ m ++ ⟨#[41]⟩]
def mems (xs : List ByteArray) (k i t d : Nat) : List ByteArray := (List.range d).flatMap fun e => memb ((xAt xs i).extract 0 k) (mw xs k i t (i + e))
def grpF (xs : List ByteArray) : Nat → Nat → List ByteArray
  | 0, _ => []
  | f + 1, i => if i < xs.length then
      (if k40 (xAt xs i) < 1 ∨ clB (xAt xs i) = true then xAt xs i :: grpF xs f (i + 1)
       else if seek xs (i + 1) = xs.length then xAt xs i :: grpF xs f (i + 1)
       else mems xs (k40 (xAt xs i)).toNat i (seek xs (i + 1)) (seek xs (i + 1) + 1 - i) ++ grpF xs f (seek xs (i + 1) + 1))
    else []
def groupB (xs : List ByteArray) : List ByteArray := grpF xs (xs.length + 1) 0
theorem xAt_some {xs : List ByteArray} {j : Nat} {x : ByteArray} (h : xs[j]? = some x) : xAt xs j = x := by simp [xAt, List.getD, h]
theorem seek_is (xs : List ByteArray) (j t : Nat) (hjt : j ≤ t) (ht : t ≤ xs.length) (hm : ∀ m, j ≤ m → m < t → clB (xAt xs m) = false) (hc : t < xs.length → clB (xAt xs t) = true) : seek xs j = t := by
  have key : ∀ (l : List ByteArray) (d : Nat), d ≤ l.length → (∀ m, m < d → clB (xAt l m) = false) → (d < l.length → clB (xAt l d) = true) → seekL l = d := by
    intro l
    induction l with
    | nil => intro d hd _ _; simp at hd; rw [hd]; rfl
    | cons x l ih =>
      intro d hd h1 h2
      cases d with
      | zero =>
        have := h2 (by simp)
        rw [seekL, if_pos (by simpa [xAt] using this)]
      | succ d =>
        have h3 := h1 0 (by omega)
        rw [seekL, if_neg (by simpa [xAt] using h3)]
        rw [ih d (by simpa using hd) (fun m hm => by have := h1 (m + 1) (by omega); simpa [xAt] using this) (fun hd2 => by have := h2 (by simpa using hd2); simpa [xAt] using this)]
  have hd : ∀ m, xAt (xs.drop j) m = xAt xs (j + m) := by intro m; simp [xAt, List.getD, List.getElem?_drop]
  have := key (xs.drop j) (t - j) (by simp; omega) (fun m hm' => by rw [hd]; exact hm _ (by omega) (by omega)) (fun h => by rw [hd, show j + (t - j) = t by omega]; exact hc (by simp at h; omega))
  unfold seek; omega
theorem mems_succ (xs : List ByteArray) (k i t d : Nat) : mems xs k i t (d + 1) = mems xs k i t d ++ memb ((xAt xs i).extract 0 k) (mw xs k i t (i + d)) := by
  unfold mems; rw [List.range_succ, List.flatMap_append]; simp
theorem memb_len (p m : ByteArray) : (memb p m).length ≤ 1 := by unfold memb; split <;> simp
theorem mems_len (xs : List ByteArray) (k i t d : Nat) : (mems xs k i t d).length ≤ d := by
  induction d with
  | zero => simp [mems]
  | succ d ih => rw [mems_succ, List.length_append]; have := memb_len ((xAt xs i).extract 0 k) (mw xs k i t (i + d)); omega
end Go.Proofs.YtmcemaphhlcjfaaDoor
