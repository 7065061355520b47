/- Two lists of variables that are the same variables: the law's comparison answers true; whether rows of calls are too much to be played. -/
import Derived.Test.YtndoloohdloflabVarsTwin
namespace Go.Proofs.Ytndoloohdloflab
open Go.RowKit Go.Maps

set_option maxRecDepth 100000 in
set_option maxHeartbeats 1000000 in
theorem SameVars_any (w : World) (b1 b2 n c1 c2 : Nat) (A1 A2 : Option Addr) (l : List Vr) (h1 : OwnG w b1 64 5 (.slice A1 n c1) n (vRows l)) (h2 : OwnG w b2 64 5 (.slice A2 n c2) n (vRows l)) (hn : n ≤ 100000) :
    Calls Try.prog 48 #[.slice A1 n c1, .slice A2 n c2] w fun e w' => e = .returned (.bool true) ∧ ∃ m, w' = w.drewN m := by
  have hl : l.length = n := by have := h1.1; rw [vRows_len] at this; omega
  have H1 := Lib.hid h1
  have H2 := Lib.hid h2
  have HL := Lib.hid hl
  clear h1 h2 hl
  go_enter Try.func48, Try.ntmps48
  go_wp2
  go_loopw [5] (fun i wi => ∃ k m : Nat, i = .int .i64 k ∧ k ≤ n ∧ Hid (wi = w.drewN m)) (fun i _ => n - (intOf i).toNat)
  case atStart => exact ⟨0, 0, rfl, Nat.zero_le _, rfl⟩
  case round =>
    obtain ⟨k, m, rfl, hk, hw⟩ := hrel
    by_cases hlt : k < n
    · obtain ⟨q, hq⟩ : ∃ q, l[k]? = some q := ⟨_, List.getElem?_eq_getElem (by rw [HL.out]; exact hlt)⟩
      have r1 : OwnG wr b1 64 5 (.slice A1 n c1) n (vRows l) := by rw [hw.out]; exact H1.out.below (below_drewN (Below.refl _ _) m)
      have r2 : OwnG wr b2 64 5 (.slice A2 n c2) n (vRows l) := by rw [hw.out]; exact H2.out.below (below_drewN (Below.refl _ _) m)
      obtain ⟨a0, a1, a2, a3, a4⟩ := vrow_at l k q hq
      have hs : ∀ {b : Nat} {A : Option Addr} {c : Nat}, OwnG wr b 64 5 (.slice A n c) n (vRows l) → ∃ g, A = some ⟨g, 0, none⟩ := fun {b A c} h => by
        rcases h.2 with ⟨e, h0⟩ | ⟨g, cap, cur, e, _⟩
        · omega
        · cases e; exact ⟨g, rfl⟩
      obtain ⟨g1, rfl⟩ := hs r1
      obtain ⟨g2, rfl⟩ := hs r2
      have x0 := r1.cells _ _ a0
      have x1 := r1.cells _ _ a1
      have x2 := r1.cells _ _ a2
      have x3 := r1.cells _ _ a3
      have x4 := r1.cells _ _ a4
      have y0 := r2.cells _ _ a0
      have y1 := r2.cells _ _ a1
      have y2 := r2.cells _ _ a2
      have y3 := r2.cells _ _ a3
      have y4 := r2.cells _ _ a4
      have q1 : (k : Int) < n := by omega
      obtain ⟨z0, z1, z2, z3, z4⟩ := q
      simp only at x0 x1 x2 x3 x4 y0 y1 y2 y3 y4
      clear hs r1 r2 a0 a1 a2 a3 a4 hq
      go_wp2
      go_quiet (fail)
      rename_i nq
      go_wp2
      exact ⟨⟨k + 1, m + nq, by go_num, by omega, by unfold Hid; rw [hw.out]; simp [World.drewN, Nat.add_assoc]⟩, by simp [intOf]; omega⟩
    · have q1 : ¬ (k : Int) < n := by omega
      go_wp2
      go_ret
      exact ⟨rfl, m, hw.out⟩

/-- a call of a store, as the law's row has it -/
structure Opr where
  kind : Int
  name : ByteArray
  value : ByteArray
  flav : Int
  origin : Int
def OprsAt (w : World) (A : Option Addr) (xs : List Opr) : Prop := ∀ j x, xs[j]? = some x → ∃ b o, A = some ⟨b, o, none⟩ ∧ w.cell? ⟨b, o + j * 5, none⟩ = some (.int .i64 x.kind) ∧ w.cell? ⟨b, o + j * 5 + 1, none⟩ = some (.string x.name) ∧ w.cell? ⟨b, o + j * 5 + 2, none⟩ = some (.string x.value) ∧ w.cell? ⟨b, o + j * 5 + 3, none⟩ = some (.int .i64 x.flav) ∧ w.cell? ⟨b, o + j * 5 + 4, none⟩ = some (.int .i64 x.origin)
theorem OprsAt.below {w w' : World} {A : Option Addr} {xs : List Opr} (h : OprsAt w A xs) (hb : Below w.heap.size w w') : OprsAt w' A xs := fun j x hx => by
  obtain ⟨b, o, e, h0, h1, h2, h3, h4⟩ := h j x hx
  have hl : b < w.heap.size := World.block_lt_of_cell? _ _ h0
  have hm : ∀ i, w'.cell? ⟨b, i, none⟩ = w.cell? ⟨b, i, none⟩ := fun i => hb.cell (p := ⟨b, i, none⟩) hl
  exact ⟨b, o, e, (hm _).trans h0, (hm _).trans h1, (hm _).trans h2, (hm _).trans h3, (hm _).trans h4⟩
def costO (l : List Opr) : Nat := (l.map fun x => 1 + x.name.size + x.value.size).sum
theorem costO_take {l : List Opr} {k : Nat} {x : Opr} (h : l[k]? = some x) : costO (l.take (k + 1)) = costO (l.take k) + (1 + x.name.size + x.value.size) := by
  obtain ⟨h1, h2⟩ := List.getElem?_eq_some_iff.1 h
  rw [List.take_succ_eq_append_getElem h1, h2]
  simp [costO]

def MuchRes (w : World) (xs : List Opr) (n : Nat) (e : Ending) (w' : World) : Prop := ∃ (b : Bool) (m : Nat), e = .returned (.bool b) ∧ (b = false → costO xs ≤ 30000 ∧ n ≤ 300) ∧ w' = w.drewN m
theorem MuchRes.intro {w w' : World} {xs : List Opr} {n : Nat} {e : Ending} (b : Bool) (m : Nat) (h1 : e = .returned (.bool b)) (h2 : b = false → costO xs ≤ 30000 ∧ n ≤ 300) (h3 : w' = w.drewN m) : MuchRes w xs n e w' := ⟨b, m, h1, h2, h3⟩
set_option maxRecDepth 100000 in
set_option maxHeartbeats 1000000 in
/-- not too much: then all costs no more than 30000, and there are 300 calls at most -/
theorem Much_any (w : World) (A : Option Addr) (n c : Nat) (xs : List Opr) (ha : OprsAt w A xs) (hn : xs.length = n) (hnb : n ≤ 140737488351232) (hz : ∀ x ∈ xs, x.name.size ≤ 140737488351232 ∧ x.value.size ≤ 140737488351232) :
    Calls Try.prog 43 #[.slice A n c] w fun e w' => MuchRes w xs n e w' := by
  have HA := Lib.hid ha
  have HN := Lib.hid hn
  have HZ := Lib.hid hz
  clear ha hn hz
  go_enter Try.func43, Try.ntmps43
  go_wp2
  go_loopw [3, 4] (fun t i wi => ∃ k m T : Nat, i = .int .i64 k ∧ t = .int .i64 T ∧ k ≤ n ∧ T ≤ 300000000000000 ∧ Hid (T = costO (xs.take k)) ∧ Hid (wi = w.drewN m)) (fun _ i _ => n - (intOf i).toNat)
  case atStart => exact ⟨0, 0, 0, rfl, rfl, Nat.zero_le _, Nat.zero_le _, by simp [Hid, costO], rfl⟩
  case round =>
    obtain ⟨k, m, T, rfl, rfl, hk, hT, hc, hw⟩ := hrel
    by_cases hlt : k < n
    · by_cases hT2 : T ≤ 30000
      · obtain ⟨x, hx⟩ : ∃ x, xs[k]? = some x := ⟨_, List.getElem?_eq_getElem (by rw [HN.out]; exact hlt)⟩
        obtain ⟨b, o, rfl, h0, h1, h2, h3, h4⟩ := HA.out k x hx
        obtain ⟨z1, z2⟩ := HZ.out x (List.mem_of_getElem? hx)
        have e1 : wr.cell? ⟨b, o + k * 5 + 1, none⟩ = some (.string x.name) := by rw [hw.out]; exact h1
        have e2 : wr.cell? ⟨b, o + k * 5 + 2, none⟩ = some (.string x.value) := by rw [hw.out]; exact h2
        have q1 : (k : Int) < n := by omega
        have q2 : (T : Int) ≤ 30000 := by omega
        have hcc := costO_take hx
        have HC2 : Hid (T + 1 + x.name.size + x.value.size = costO (xs.take (k + 1))) := by unfold Hid; rw [hcc, ← hc.out]; omega
        obtain ⟨x0, nm, vl, x3, x4⟩ := x
        simp only at e1 e2 z1 z2
        have w1 : IntKind.i64.wrap ((T : Int) + 1) = (T : Int) + 1 := IntWalk.i64_in _ (by omega)
        have w2 : IntKind.i64.wrap ((T : Int) + 1 + nm.size) = (T : Int) + 1 + nm.size := IntWalk.i64_in _ (by omega)
        have w3 : IntKind.i64.wrap ((T : Int) + 1 + nm.size + vl.size) = ((T + 1 + nm.size + vl.size : Nat) : Int) := by rw [IntWalk.i64_in _ (by omega)]; omega
        clear hcc h0 h1 h2 h3 h4 hx
        go_wp2
        go_quiet (fail)
        rename_i nq
        go_wp2
        exact ⟨⟨k + 1, m + nq, T + 1 + nm.size + vl.size, by go_num, by go_num, by omega, by omega, HC2, by unfold Hid; rw [hw.out]; simp [World.drewN, Nat.add_assoc]⟩, by simp [intOf]; omega⟩
      · have q1 : (k : Int) < n := by omega
        have q2 : ¬ (T : Int) ≤ 30000 := by omega
        have q3 : (T : Int) > 30000 := by omega
        go_wp2
        go_ret
        exact MuchRes.intro true m rfl (fun h => by cases h) hw.out
    · obtain rfl : k = n := by omega
      have q1 : ¬ (k : Int) < k := by omega
      have hall : Hid (T = costO xs) := by
        have h := hc.out
        rw [List.take_of_length_le (by rw [HN.out]; omega)] at h
        exact h
      by_cases hT2 : T ≤ 30000
      · have q2 : ¬ (T : Int) > 30000 := by omega
        by_cases hk3 : k ≤ 300
        · have q3 : ¬ (k : Int) > 300 := by omega
          go_wp2
          go_ret
          exact MuchRes.intro false m rfl (fun _ => ⟨by rw [← hall.out]; exact hT2, hk3⟩) hw.out
        · have q3 : (k : Int) > 300 := by omega
          go_wp2
          go_ret
          exact MuchRes.intro true m rfl (fun h => by cases h) hw.out
      · have q2 : (T : Int) > 30000 := by omega
        go_wp2
        go_ret
        exact MuchRes.intro true m rfl (fun h => by cases h) hw.out
end Go.Proofs.Ytndoloohdloflab
