/- Same, Wipe on lists of texts; conditions: lists that lie in memory. -/
import Derived.Test.YtmcemaphhlcjfaaDoorOwn
namespace Go.Proofs.YtmcemaphhlcjfaaDoor
open Go.RowKit

/-- the texts xs stand at A, one behind the other -/
def StrsAt (w : World) (A : Option Addr) (xs : List ByteArray) : Prop := ∀ j x, xs[j]? = some x → ∃ b o, A = some ⟨b, o, none⟩ ∧ w.cell? ⟨b, o + j, none⟩ = some (.string x)

def sameL : List ByteArray → List ByteArray → Bool
  | [], [] => true
  | x :: l, y :: m => (x.toList == y.toList) && sameL l m
  | _, _ => false
theorem sameL_len : ∀ xs ys, xs.length ≠ ys.length → sameL xs ys = false
  | [], [], h => absurd rfl h
  | [], _ :: _, _ => rfl
  | _ :: _, [], _ => rfl
  | x :: l, y :: m, h => by rw [sameL, sameL_len l m (by simpa using h), Bool.and_false]
theorem sameL_self (xs : List ByteArray) : sameL xs xs = true := by
  induction xs with
  | nil => rfl
  | cons x l ih => simp [sameL, ih]
theorem sameL_eq : ∀ {xs ys : List ByteArray}, sameL xs ys = true → xs = ys
  | [], [], _ => rfl
  | x :: l, y :: m, h => by
    simp only [sameL, Bool.and_eq_true, beq_iff_eq] at h
    have e1 : x = y := ba_ext (by rw [← ba_toList, ← ba_toList]; exact h.1)
    rw [sameL_eq h.2, e1]

set_option maxRecDepth 100000 in
set_option maxHeartbeats 1000000 in
theorem Same_any (w : World) (A B : Option Addr) (ca cb : Nat) (xs ys : List ByteArray) (ha : StrsAt w A xs) (hb : StrsAt w B ys) (hx : xs.length ≤ 140737488351232) :
    Calls Tryd.prog 18 #[.slice A xs.length ca, .slice B ys.length cb] w fun e w' => e = .returned (.bool (sameL xs ys)) ∧ Below w.heap.size w w' := by
  by_cases hl : xs.length = ys.length
  · obtain ⟨N, hN⟩ : ∃ N, xs.length = N := ⟨_, rfl⟩
    have hN2 : ys.length = N := by omega
    rw [hN, hN2]
    rw [hN] at hx
    have HN := Lib.hid hN
    have HN2 := Lib.hid hN2
    clear hl hN hN2
    obtain ⟨R, hR⟩ : ∃ R, sameL xs ys = R := ⟨_, rfl⟩
    rw [hR]
    have HR := Lib.hid hR
    clear hR
    go_enter Tryd.func18, Tryd.ntmps18
    go_wp2
    go_loopw [5] (fun i wi => ∃ k : Nat, i = .int .i64 k ∧ k ≤ N ∧ Hid (sameL (xs.drop k) (ys.drop k) = R) ∧ Below w.heap.size w wi) (fun i _ => N - (intOf i).toNat)
    case atStart => exact ⟨0, rfl, Nat.zero_le _, HR, Below.refl _ w⟩
    case round =>
      obtain ⟨k, rfl, hk, hrel, hbel⟩ := hrel
      by_cases hltN : k < N
      · have hlt : k < xs.length := by have := HN.out; omega
        have hlt2 : k < ys.length := by have := HN2.out; omega
        obtain ⟨x, hx1⟩ : ∃ x, xs[k]? = some x := ⟨_, List.getElem?_eq_getElem hlt⟩
        obtain ⟨y, hy1⟩ : ∃ y, ys[k]? = some y := ⟨_, List.getElem?_eq_getElem hlt2⟩
        obtain ⟨b, o, rfl, hcx⟩ := ha k x hx1
        obtain ⟨b2, o2, rfl, hcy⟩ := hb k y hy1
        have hbx := World.block_lt_of_cell? _ _ hcx
        have hby := World.block_lt_of_cell? _ _ hcy
        have dx : xs.drop k = x :: xs.drop (k + 1) := by rw [List.drop_eq_getElem_cons hlt]; congr 1; rw [List.getElem?_eq_getElem hlt] at hx1; exact Option.some.inj hx1
        have dy : ys.drop k = y :: ys.drop (k + 1) := by rw [List.drop_eq_getElem_cons hlt2]; congr 1; rw [List.getElem?_eq_getElem hlt2] at hy1; exact Option.some.inj hy1
        have hd : ((x.toList == y.toList) && sameL (xs.drop (k + 1)) (ys.drop (k + 1))) = R := by have := hrel.out; rw [dx, dy] at this; exact this
        have kx : wr.cell? ⟨b, o + k, none⟩ = some (.string x) := by rw [hbel.cell (p := ⟨b, o + k, none⟩) hbx]; exact hcx
        have ky : wr.cell? ⟨b2, o2 + k, none⟩ = some (.string y) := by rw [hbel.cell (p := ⟨b2, o2 + k, none⟩) hby]; exact hcy
        have q1 : ((k : Int) < N) := by omega
        clear hlt hlt2 dx dy hx1 hy1 hcx hcy
        cases hq : (x.toList == y.toList)
        · rw [hq] at hd
          obtain rfl : R = false := hd.symm
          clear hd hrel
          go_wp2
          go_quiet (fail)
          go_wp2
          go_ret
          exact ⟨rfl, below_drewN hbel _⟩
        · rw [hq] at hd
          have HD : Hid (sameL (xs.drop (k + 1)) (ys.drop (k + 1)) = R) := by simpa [Hid] using hd
          clear hd hrel
          go_wp2
          go_quiet (fail)
          go_wp2
          exact ⟨⟨k + 1, by go_num, by omega, HD, below_drewN hbel _⟩, by simp [intOf]; omega⟩
      · have e : R = true := by
          have := hrel.out
          rw [List.drop_eq_nil_of_le (by have := HN.out; omega), List.drop_eq_nil_of_le (by have := HN2.out; omega)] at this
          exact this.symm
        subst e
        go_wp2
        go_ret
        exact ⟨rfl, hbel⟩
  · have hle : ((xs.length : Int) == ys.length) = false := by simp; omega
    rw [sameL_len _ _ hl]
    go_enter Tryd.func18, Tryd.ntmps18
    go_wp2
    go_ret
    exact ⟨rfl, Below.refl _ w⟩
end Go.Proofs.YtmcemaphhlcjfaaDoor
