/- text.Number as a number of every text; condition: texts of at most 2^47 - 4096 bytes. -/
import Derived.Test.YtmcemaphhlcjfaaDoorLists
import Derived.Test.YtmcemaphhlcjfaaDoorSplit
namespace Go.Proofs.YtmcemaphhlcjfaaDoor
open Go.RowKit

/-- the digits of a text as a number, behind n -/
def foldN : List UInt8 → Int → Option Int
  | [], n => some n
  | c :: r, n => if 48 ≤ (c.toNat : Int) ∧ (c.toNat : Int) ≤ 57 then foldN r (10 * n + (c.toNat - 48)) else none
def numB (s : ByteArray) : Option Int := if s.size < 1 ∨ 9 < s.size then none else foldN s.data.toList 0
def numV (o : Option Int) : Value := match o with
  | some n => .tuple #[.int .i64 n, .bool true]
  | none => .tuple #[.int .i64 0, .bool false]

theorem pow9 : ∀ k : Nat, k ≤ 9 → (10 : Int) ^ k ≤ 1000000000 := fun k h => (by decide : ∀ k, k < 10 → (10 : Int) ^ k ≤ 1000000000) k (by omega)
theorem foldN_step (s : ByteArray) (k : Nat) (h : k < s.size) (n : Int) : foldN (s.data.toList.drop k) n = if 48 ≤ (s[k].toNat : Int) ∧ (s[k].toNat : Int) ≤ 57 then foldN (s.data.toList.drop (k + 1)) (10 * n + (s[k].toNat - 48)) else none := by
  rw [List.drop_eq_getElem_cons (by simpa using h), foldN]; rfl


set_option maxRecDepth 100000 in
set_option maxHeartbeats 1000000 in
theorem Number_any (s : ByteArray) (w : World) (hs : s.size ≤ 140737488351232) :
    Calls Tryd.prog 122 #[.string s] w fun e w' => e = .returned (numV (numB s)) ∧ w' = w := by
  unfold numB
  by_cases h0 : s.size < 1 ∨ 9 < s.size
  · rw [if_pos h0]
    go_enter Tryd.func122, Tryd.ntmps122
    go_wp2
    all_goals first | (go_ret2; exact ⟨rfl, rfl⟩) | (exfalso; omega)
  · rw [if_neg h0]
    have p1 : ¬ (s.size : Int) < 1 := by omega
    have p2 : ¬ (9 : Int) < s.size := by omega
    obtain ⟨r, hr⟩ : ∃ r, foldN s.data.toList 0 = r := ⟨_, rfl⟩
    rw [hr]
    have HR := Lib.hid hr
    clear hr
    go_enter Tryd.func122, Tryd.ntmps122
    go_wp2
    go_loop [4, 5, 16] (fun n u i => ∃ (k : Nat) (x : Int), k ≤ s.size ∧ i = .int .i64 k ∧ n = .int .i64 x ∧ 0 ≤ x ∧ x < 10 ^ k ∧ Hid (foldN (s.data.toList.drop k) x = r)) (fun _ _ i => s.size - (intOf i).toNat)
    case atStart => exact ⟨0, 0, Nat.zero_le _, rfl, rfl, by omega, by simp, HR⟩
    case round =>
      obtain ⟨k, x, hk, rfl, rfl, hx0, hx1, hrel⟩ := hrel
      have hp := pow9 k (by omega)
      have wk : IntKind.i64.wrap ((k : Int) + 1) = (k : Int) + 1 := IntWalk.i64_in _ (by omega)
      have HX := Lib.hid (show x < 1000000000 by omega)
      have HX1 := Lib.hid hx1
      clear hp hx1
      by_cases hlt : k < s.size
      · have hst := foldN_step s k hlt x
        by_cases hd : 48 ≤ (s[k].toNat : Int) ∧ (s[k].toNat : Int) ≤ 57
        · obtain ⟨d1, d2⟩ := hd
          rw [if_pos ⟨d1, d2⟩, hrel.out] at hst
          have w1 : IntKind.u8.wrap ((s[k].toNat : Int) - 48) = (s[k].toNat : Int) - 48 := IntWalk.u8_in _ (by omega)
          have w2 : IntKind.i64.wrap ((s[k].toNat : Int) - 48) = (s[k].toNat : Int) - 48 := IntWalk.i64_in _ (by omega)
          have w3 : IntKind.i64.wrap (10 * x) = 10 * x := IntWalk.i64_in _ (by have := HX.out; omega)
          have w4 : IntKind.i64.wrap (10 * x + ((s[k].toNat : Int) - 48)) = 10 * x + ((s[k].toNat : Int) - 48) := IntWalk.i64_in _ (by have := HX.out; omega)
          have HS := Lib.hid hst
          have HD1 := Lib.hid d1
          have HD2 := Lib.hid d2
          clear hst hrel
          go_wp2
          all_goals first | (exact ⟨⟨k + 1, 10 * x + ((s[k].toNat : Int) - 48), by omega, by go_num, rfl, by have := HD1.out; omega, by have := HD2.out; have := HX1.out; rw [Int.pow_succ]; omega, by unfold Hid; exact HS.out.symm⟩, by simp [intOf]; omega⟩) | (exfalso; omega)
        · rw [if_neg hd, hrel.out] at hst
          subst hst
          clear hrel
          go_wp2
          all_goals first | (exfalso; omega) | skip
          all_goals (go_ret2; exact ⟨rfl, rfl⟩)
      · have e : r = some x := by
          have := hrel.out
          rw [List.drop_eq_nil_of_le (by simp; omega)] at this
          exact this.symm
        subst e
        clear hrel
        go_wp2
        go_ret2
        exact ⟨rfl, rfl⟩

def joinB (xs : List ByteArray) : ByteArray := mk (Lib.join (xs.map (·.data.toList)) [32])
set_option maxRecDepth 100000 in
theorem Join54_any (w : World) (A : Option Addr) (ca : Nat) (xs : List ByteArray) (ha : StrsAt w A xs) (hcap : xs.length ≤ ca) (hN : xs.length ≤ 140737488355328) (hlen : (joinB xs).size ≤ 140737488355328) :
    Calls Tryd.prog 54 #[.slice A xs.length ca] w fun e w' => e = .returned (.string (joinB xs)) ∧ Below w.heap.size w w' := by
  have HJ : Hid (Calls Tryd.prog 101 #[.slice A xs.length ca, .string ⟨#[32]⟩] w fun e w' => e = .returned (.string (joinB xs)) ∧ Below w.heap.size w w') := by
    cases xs with
    | nil => exact (Tryd.strings_Join_none A ca ⟨#[32]⟩ w).mono fun e w' ⟨h1, h2⟩ => ⟨h1, by rw [h2]; exact Below.refl _ _⟩
    | cons x l =>
      obtain ⟨b, o, rfl, hc⟩ := ha 0 x rfl
      refine Tryd.strings_Join b o ca (x :: l) ⟨#[32]⟩ w (fun j y hj => ?_) (World.block_lt_of_cell? _ _ hc) hN hcap (by simpa [joinB, mk, ByteArray.size] using hlen)
      obtain ⟨b2, o2, e, h⟩ := ha j y hj
      cases e; exact h
  generalize joinB xs = R at *
  generalize xs.length = N at *
  have HW : Hid (Calls Tryd.prog 82 #[.string ⟨#[32]⟩, .slice A N ca] w fun e w' => e = .returned (.string R) ∧ Below w.heap.size w w') := by
    unfold Hid
    go_enter Tryd.func82, Tryd.ntmps82
    go_wp2_with (go_at_call 101; refine HJ.out.mono ?_; rintro e w' ⟨rfl, hb⟩)
    go_ret
    exact ⟨rfl, hb⟩
  go_enter Tryd.func54, Tryd.ntmps54
  go_wp2_with (go_at_call 82; refine HW.out.mono ?_; rintro e w' ⟨rfl, hb⟩)
  go_ret
  exact ⟨rfl, hb⟩
end Go.Proofs.YtmcemaphhlcjfaaDoor
