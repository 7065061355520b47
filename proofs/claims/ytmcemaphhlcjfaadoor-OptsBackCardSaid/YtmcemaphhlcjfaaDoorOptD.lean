/- the reference's Decimal: the digits; no condition but that the number is an int. -/
import Derived.Test.YtmcemaphhlcjfaaDoorSplit
namespace Go.Proofs.YtmcemaphhlcjfaaDoor
open Go.RowKit

def decL (u : Nat) : List UInt8 := if u < 10 then [UInt8.ofNat (48 + u)] else decL (u / 10) ++ [UInt8.ofNat (48 + u % 10)]
decreasing_by omega
def decB (n : Int) : ByteArray := if n < 0 then mk (45 :: decL n.natAbs) else mk (decL n.natAbs)
theorem digit_of (r : Nat) (h : r < 10) : (⟨#[48, 49, 50, 51, 52, 53, 54, 55, 56, 57]⟩ : ByteArray).extract r (r + 1) = mk [UInt8.ofNat (48 + r)] := by
  have : ∀ r, r < 10 → (⟨#[48, 49, 50, 51, 52, 53, 54, 55, 56, 57]⟩ : ByteArray).extract r (r + 1) = mk [UInt8.ofNat (48 + r)] := by decide +kernel
  exact this r h
theorem decL_len (u : Nat) : (decL u).length ≤ u + 1 := by
  induction u using Nat.strongRecOn with
  | ind u ih =>
    rw [decL]
    split
    · simp
    · have := ih (u / 10) (by omega)
      simp; omega
theorem mk_app (a b : List UInt8) : mk a ++ mk b = mk (a ++ b) := by
  apply ByteArray.ext
  simp [mk]
theorem decL_20 (u : Nat) (h : u < 10 ^ 19) : (decL u).length ≤ 19 := by
  have : ∀ k u, u < 10 ^ (k + 1) → (decL u).length ≤ k + 1 := by
    intro k
    induction k with
    | zero => intro u h; rw [decL, if_pos (by simpa using h)]; simp
    | succ k ih =>
      intro u h
      rw [decL]
      split
      · simp
      · have := ih (u / 10) (by rw [Nat.pow_succ] at h; omega)
        simp; omega
  exact this 18 u h

set_option maxRecDepth 100000 in
theorem DecR_pos : ∀ (m : Nat), m ≤ 9223372036854775807 → ∀ w : World, Calls Tryd.prog 32 #[.int .i64 m] w fun e w' => e = .returned (.string (mk (decL m))) ∧ w' = w := by
  intro m
  induction m using Nat.strongRecOn with
  | ind m ih =>
    intro hm w
    have hdg := digit_of (m % 10) (by omega)
    have w1 : IntKind.i64.wrap ((m : Int) % 10 + 1) = ((m % 10 + 1 : Nat) : Int) := by rw [IntWalk.i64_in _ (by omega)]; omega
    have h0 : ¬ (m : Int) < 0 := by omega
    have hsz : (mk [UInt8.ofNat (48 + m % 10)]).size = 1 := rfl
    have hl : (decL (m / 10)).length ≤ 19 := decL_20 _ (by omega)
    have hsz2 : (mk (decL (m / 10))).size ≤ 19 := by simpa [mk, ByteArray.size] using hl
    by_cases h9 : m < 10
    · have h9' : ¬ (9 : Int) < m := by omega
      have hR : mk (decL m) = mk [UInt8.ofNat (48 + m % 10)] := by rw [decL, if_pos h9, show m % 10 = m by omega]
      rw [hR]
      generalize mk [UInt8.ofNat (48 + m % 10)] = D at *
      go_enter Tryd.func32, Tryd.ntmps32
      go_wp2
      go_ret
      exact ⟨rfl, rfl⟩
    · have h9' : (9 : Int) < m := by omega
      have HI := Lib.hid (ih (m / 10) (by omega) (by omega))
      have w2 : IntKind.i64.wrap ((m : Int) / 10) = ((m / 10 : Nat) : Int) := by rw [IntWalk.i64_in _ (by omega)]; omega
      have hR : mk (decL m) = mk (decL (m / 10)) ++ mk [UInt8.ofNat (48 + m % 10)] := by rw [mk_app, decL, if_neg h9]
      rw [hR]
      generalize mk [UInt8.ofNat (48 + m % 10)] = D at *
      generalize mk (decL (m / 10)) = E at *
      have hnn : ¬ 9223372036854775807 < E.size + D.size := by omega
      go_enter Tryd.func32, Tryd.ntmps32
      go_wp2_with (go_at_call 32; refine (HI.out _).mono ?_; rintro e w1 ⟨rfl, rfl⟩)
      go_ret
      exact ⟨rfl, rfl⟩

set_option maxRecDepth 100000 in
theorem DecR_any (n : Int) (hn : -9223372036854775808 ≤ n ∧ n ≤ 9223372036854775807) (w : World) :
    Calls Tryd.prog 32 #[.int .i64 n] w fun e w' => e = .returned (.string (decB n)) ∧ w' = w := by
  by_cases h0 : n < 0
  · by_cases hm : n = -9223372036854775808
    · subst hm
      have hR : decB (-9223372036854775808) = ⟨#[45, 57, 50, 50, 51, 51, 55, 50, 48, 51, 54, 56, 53, 52, 55, 55, 53, 56, 48, 56]⟩ := by
        simp [decB, decL, mk]
      rw [hR]
      go_enter Tryd.func32, Tryd.ntmps32
      go_wp2
      go_ret
      exact ⟨rfl, rfl⟩
    · have hmm : (n == -9223372036854775808) = false := by simpa using hm
      have HI := Lib.hid (DecR_pos n.natAbs (by omega))
      have hw : IntKind.i64.wrap (-n) = (n.natAbs : Int) := by rw [IntWalk.i64_in _ (by omega)]; omega
      have hR : decB n = ⟨#[45]⟩ ++ mk (decL n.natAbs) := by
        unfold decB
        rw [if_pos h0]
        exact (mk_app [45] _).symm
      have hl : (decL n.natAbs).length ≤ 19 := decL_20 _ (by omega)
      have hsz2 : (mk (decL n.natAbs)).size ≤ 19 := by simpa [mk, ByteArray.size] using hl
      rw [hR]
      generalize mk (decL n.natAbs) = E at *
      have hnn : ¬ 9223372036854775807 < (⟨#[45]⟩ : ByteArray).size + E.size := by show ¬ _ < 1 + E.size; omega
      go_enter Tryd.func32, Tryd.ntmps32
      go_wp2_with (go_at_call 32; refine (HI.out _).mono ?_; rintro e w1 ⟨rfl, rfl⟩)
      go_ret
      exact ⟨rfl, rfl⟩
  · have hR : decB n = mk (decL n.natAbs) := by unfold decB; rw [if_neg h0]
    rw [hR]
    have := DecR_pos n.natAbs (by omega) w
    rw [show (n.natAbs : Int) = n by omega] at this
    exact this
end Go.Proofs.YtmcemaphhlcjfaaDoor
