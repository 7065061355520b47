/- Stays, Join, and the reference's Join on lists of texts; conditions: lists that lie in memory, of at most 20,000 bytes. -/
import Derived.Test.YtndoloohdloflabLent
import Derived.Test.YtndoloohdloflabJoinLaw
import Derived.Test.YtndoloohdloflabStrsIn
namespace Go.Proofs.Ytndoloohdloflab
open Go.RowKit

theorem StrsAt.below {w w' : World} {B : Nat} {A : Option Addr} {xs : List ByteArray} (h : StrsAt w A xs) (hB : w.heap.size ≤ B) (hb : Below B w w') : StrsAt w' A xs := by
  intro j x hj
  obtain ⟨b, o, e, hc⟩ := h j x hj
  have hlt := World.block_lt_of_cell? _ _ hc
  exact ⟨b, o, e, by rw [hb.cell (p := ⟨b, o + j, none⟩) (Nat.lt_of_lt_of_le hlt hB)]; exact hc⟩

theorem lent_at {w : World} {base g cap : Nat} {xs : List ByteArray} (h : OwnG w base 9 1 (.slice (some ⟨g, 0, none⟩) (xs.length + 1) cap) (xs.length + 1) ((xs ++ [lentX]).map Value.string)) :
    StrsAt w (some ⟨g, 0, none⟩) xs ∧ w.cell? ⟨g, xs.length, none⟩ = some (.string lentX) ∧ xs.length + 1 ≤ cap := by
  have hc := h.cells
  refine ⟨fun j x hj => ⟨g, 0, rfl, ?_⟩, ?_, ?_⟩
  · have hlt := (List.getElem?_eq_some_iff.1 hj).1
    rw [Nat.zero_add]
    refine hc j _ ?_
    rw [List.getElem?_map, List.getElem?_append_left hlt, hj]; rfl
  · refine hc _ _ ?_
    rw [List.getElem?_map, List.getElem?_append_right (Nat.le_refl _)]; simp
  · obtain ⟨A', c', e, h1, _⟩ := h.form
    cases e; exact h1

set_option maxRecDepth 100000 in
set_option maxHeartbeats 1000000 in
theorem Stays_any (w : World) (g cap : Nat) (A : Option Addr) (ca : Nat) (xs : List ByteArray) (h1 : StrsAt w (some ⟨g, 0, none⟩) xs) (hx : w.cell? ⟨g, xs.length, none⟩ = some (.string lentX)) (hcap : xs.length + 1 ≤ cap) (hm : cap ≤ 9223372036854775807) (h2 : StrsAt w A xs) (hz : xs.length ≤ 20000) :
    Calls Try.prog 31 #[.slice (some ⟨g, 0, none⟩) xs.length cap, .slice A xs.length ca] w fun e w' => e = .returned (.bool true) ∧ Below w.heap.size w w' := by
  have HS := Lib.hid fun (n : Nat) => Same_any (w.drewN n) (some ⟨g, 0, none⟩) A cap ca xs xs (h1.below (Nat.le_refl _) (below_drewN (Below.refl _ w) n)) (h2.below (Nat.le_refl _) (below_drewN (Below.refl _ w) n)) (by omega)
  rw [sameL_self] at HS
  have hgl := World.block_lt_of_cell? _ _ hx
  obtain ⟨N, hN⟩ : ∃ N, xs.length = N := ⟨_, rfl⟩
  rw [hN] at hx hcap hz HS ⊢
  have q1 : (N : Int) + 1 ≤ cap := by omega
  have q2 : IntKind.i64.wrap ((N : Int) + 1) = ((N + 1 : Nat) : Int) := by rw [IntWalk.i64_in _ (by omega)]; omega
  clear h1 h2 hN
  have hlx : lentX.toList = [45, 55, 49] := by decide +kernel
  go_enter Try.func31, Try.ntmps31
  go_wp2_with (go_at_call 24; refine (HS.out 0).mono ?_; rintro e w' ⟨rfl, hb⟩)
  go_ret
  exact ⟨rfl, hb⟩

theorem joinB_nil : joinB [] = ⟨#[]⟩ := rfl
set_option maxRecDepth 100000 in
theorem Join_any (w : World) (A : Option Addr) (ca : Nat) (xs : List ByteArray) (ha : StrsAt w A xs) (hcap : xs.length ≤ ca) (hN : xs.length ≤ 140737488355328) (hlen : (joinB xs).size ≤ 140737488355328) :
    Calls Try.prog 30 #[.slice A xs.length ca] w fun e w' => e = .returned (.string (joinB xs)) ∧ Below w.heap.size w w' := by
  have HJ : Hid (Calls Try.prog 80 #[.slice A xs.length ca, .string ⟨#[32]⟩] w fun e w' => e = .returned (.string (joinB xs)) ∧ Below w.heap.size w w') := by
    cases xs with
    | nil => exact (Try.strings_Join_none A ca ⟨#[32]⟩ w).mono fun e w' ⟨h1, h2⟩ => ⟨h1, by rw [h2]; exact Below.refl _ _⟩
    | cons x l =>
      obtain ⟨b, o, rfl, hc⟩ := ha 0 x rfl
      refine Try.strings_Join b o ca (x :: l) ⟨#[32]⟩ w (fun j y hj => ?_) (World.block_lt_of_cell? _ _ hc) hN hcap (by simpa [joinB, mk, ByteArray.size] using hlen)
      obtain ⟨b2, o2, e, h⟩ := ha j y hj
      cases e; exact h
  generalize joinB xs = R at *
  generalize xs.length = N at *
  have HW : Hid (Calls Try.prog 57 #[.string ⟨#[32]⟩, .slice A N ca] w fun e w' => e = .returned (.string R) ∧ Below w.heap.size w w') := by
    unfold Hid
    go_enter Try.func57, Try.ntmps57
    go_wp2_with (go_at_call 80; refine HJ.out.mono ?_; rintro e w' ⟨rfl, hb⟩)
    go_ret
    exact ⟨rfl, hb⟩
  go_enter Try.func30, Try.ntmps30
  go_wp2_with (go_at_call 57; refine HW.out.mono ?_; rintro e w' ⟨rfl, hb⟩)
  go_ret
  exact ⟨rfl, hb⟩
def restJ (f : Bool) : List ByteArray → List UInt8
  | [] => []
  | x :: l => (if f then [] else [32]) ++ x.data.toList ++ restJ false l
theorem restJ_tail : ∀ l : List ByteArray, restJ false l = Lib.joinTail [32] (l.map (·.data.toList))
  | [] => rfl
  | x :: l => by rw [restJ, restJ_tail l]; simp [Lib.joinTail]
theorem restJ_join (l : List ByteArray) : restJ true l = Lib.join (l.map (·.data.toList)) [32] := by
  cases l with
  | nil => rfl
  | cons x l => rw [restJ, restJ_tail, List.map_cons, Lib.join_cons]; simp
theorem restJ_len : ∀ (l : List ByteArray) f, (restJ f l).length ≤ totL l
  | [], _ => by simp [restJ, totL]
  | x :: l, f => by
    have := restJ_len l false
    rw [restJ, totL]
    cases f <;> simp <;> omega
end Go.Proofs.Ytndoloohdloflab
