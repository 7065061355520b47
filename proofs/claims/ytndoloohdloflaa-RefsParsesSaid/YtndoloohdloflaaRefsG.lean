/- The bounds of a name in package refs and in the reference: both tell the one answer that the table has; no condition. -/
import Derived.Test.YtndoloohdloflaaRefsF
namespace Go.Proofs.Ytndoloohdloflaa
open Go.RowKit

/-- the answer of a table of 34 rows at a name -/
def bndOf (nm : Nat → ByteArray) (fx fy : Nat → Int) (s : ByteArray) (x y : Int) : Prop :=
  (∃ k, k < 34 ∧ nm k = s ∧ (∀ j, j < k → nm j ≠ s) ∧ x = fx k ∧ y = fy k) ∨ ((∀ k, k < 34 → nm k ≠ s) ∧ x = 0 ∧ y = 0)
theorem bndOf_eq {nm : Nat → ByteArray} {fx fy : Nat → Int} {s : ByteArray} {x y z u : Int} (h : bndOf nm fx fy s x y) (h2 : bndOf nm fx fy s z u) : x = z ∧ y = u := by
  rcases h with ⟨k, hk, e, hj, rfl, rfl⟩ | ⟨hn, rfl, rfl⟩ <;> rcases h2 with ⟨k2, hk2, e2, hj2, rfl, rfl⟩ | ⟨hn2, rfl, rfl⟩
  · have : k = k2 := by
      rcases Nat.lt_trichotomy k k2 with h | h | h
      · exact absurd e (hj2 k h)
      · exact h
      · exact absurd e2 (hj k2 h)
    subst this; exact ⟨rfl, rfl⟩
  · exact absurd e (hn2 k hk)
  · exact absurd e2 (hn k2 hk2)
  · exact ⟨rfl, rfl⟩
theorem list_ne {x y : ByteArray} (h : x ≠ y) : (x.toList == y.toList) = false := by
  rw [beq_eq_false_iff_ne, ba_toList, ba_toList]; exact fun e => h (ba_ext e)

set_option maxRecDepth 100000 in
set_option maxHeartbeats 1000000 in
theorem Bounds_any (s : ByteArray) (w : World) : Calls Try.prog 59 #[.string s] w fun e W' => ∃ x y, e = .returned (.tuple #[.int .i64 x, .int .i64 y]) ∧ bndOf nmK (fun k => (fAt k).2.1) (fun k => (fAt k).2.2) s x y ∧ Below w.heap.size w W' := by
  have HF := Lib.hid fun w => functions_any w
  obtain ⟨FA, hFA⟩ : ∃ FA, funA = FA := ⟨_, rfl⟩
  rw [hFA] at HF
  have hidx0 : ∀ (k : Nat), k < 35 → ∀ w : World, (Instr.index 81 (.agg funA) (.int .i64 k)).run Try.prog w = .ok (.agg #[.string (nmK k), .int .i64 ((fun k => (fAt k).2.1) k), .int .i64 ((fun k => (fAt k).2.2) k)]) w := fun k h w => idx_any k h w
  rw [hFA] at hidx0
  clear hFA
  have hpos : ∀ k, k < 34 → 0 < (nmK k).size := fAt_pos
  have h34 : (nmK 34).size = 0 := fAt_34
  obtain ⟨nm, hnm⟩ : ∃ nm, nmK = nm := ⟨_, rfl⟩
  rw [hnm] at hidx0 hpos h34 ⊢
  clear hnm
  obtain ⟨fx, hfx⟩ : ∃ fx : Nat → Int, (fun k => (fAt k).2.1) = fx := ⟨_, rfl⟩
  obtain ⟨fy, hfy⟩ : ∃ fy : Nat → Int, (fun k => (fAt k).2.2) = fy := ⟨_, rfl⟩
  rw [hfx, hfy] at hidx0 ⊢
  clear hfx hfy
  have HIDX := Lib.hid hidx0
  have HPOS := Lib.hid hpos
  have H34 := Lib.hid h34
  clear hidx0 hpos h34
  go_enter Try.func59, Try.ntmps59
  go_wp2_with (go_at_call 87; refine (HF.out _).mono ?_; rintro e w1 ⟨rfl, hb1⟩)
  go_loopw [5, 7] (fun _ iv wi => ∃ k : Nat, iv = .int .i64 k ∧ k ≤ 35 ∧ Hid (∀ j, j < min k 34 → nm j ≠ s) ∧ Below w.heap.size w wi) (fun _ iv _ => 35 - (intOf iv).toNat)
  case atStart => exact ⟨0, rfl, Nat.zero_le _, fun j h => by omega, hb1⟩
  case round =>
    obtain ⟨k, rfl, hk, hno, hbel⟩ := hrel
    have hsz := hbel.size
    have HB := Lib.hid fun o => hbel.alloc hsz o
    by_cases hlt : k < 35
    · have q1 : (k : Int) < 35 := by omega
      have hidx := HIDX.out k hlt
      by_cases he : nm k = s
      · by_cases hs0 : s.size = 0
        · have hk34 : k = 34 := by
            rcases Nat.lt_or_eq_of_le (Nat.lt_succ_iff.1 hlt) with h | h
            · have := HPOS.out k h; rw [he] at this; omega
            · exact h
          have e2 : (s.toList == []) = true := by rw [ba_toList, List.eq_nil_of_length_eq_zero (l := s.data.toList) (by rw [Array.length_toList]; exact hs0)]; rfl
          have e3 : (s.toList != []) = false := by rw [bne, e2]; rfl
          have HN : Hid (∀ j, j < min (k + 1) 34 → nm j ≠ s) := by
            intro j hj; exact hno.out j (by omega)
          rw [he] at hidx
          clear hk34 hno he
          go_wp2
          exact ⟨⟨k + 1, by go_num, by omega, HN, HB.out _⟩, by simp [intOf]; omega⟩
        · have e1 : s.toList.isEmpty = false := ne_empty (by omega)
          have e2 : (s.toList == []) = false := by rw [beq_eq_false_iff_ne]; intro h; rw [h] at e1; cases e1
          have e3 : (s.toList != []) = true := by rw [bne, e2]; rfl
          have hk34 : k < 34 := by
            rcases Nat.lt_or_eq_of_le (Nat.lt_succ_iff.1 hlt) with h | h
            · exact h
            · have := H34.out; rw [← h, he] at this; exact absurd this hs0
          have HR : Hid (bndOf nm fx fy s (fx k) (fy k)) := .inl ⟨k, hk34, he, fun j hj => hno.out j (by omega), rfl, rfl⟩
          rw [he] at hidx
          clear hno he
          go_wp2
          go_quiet (fail)
          go_wp2
          go_ret2
          exact ⟨_, _, rfl, HR.out, below_drewN (HB.out _) _⟩
      · have e1 := list_ne he
        have HN : Hid (∀ j, j < min (k + 1) 34 → nm j ≠ s) := by
          intro j hj
          by_cases hjk : j = k
          · subst hjk; exact he
          · exact hno.out j (by omega)
        obtain ⟨nk, hnk⟩ : ∃ nk, nm k = nk := ⟨_, rfl⟩
        rw [hnk] at hidx e1
        clear hno he hnk
        go_wp2
        exact ⟨⟨k + 1, by go_num, by omega, HN, HB.out _⟩, by simp [intOf]; omega⟩
    · have q1 : ¬ (k : Int) < 35 := by omega
      have HR : Hid (bndOf nm fx fy s 0 0) := .inr ⟨fun j hj => hno.out j (by omega), rfl, rfl⟩
      clear hno
      go_wp2
      go_ret2
      exact ⟨_, _, rfl, HR.out, hbel⟩

set_option maxRecDepth 100000 in
set_option maxHeartbeats 1000000 in
theorem BoundsR_any (s : ByteArray) (w : World) : Calls Try.prog 60 #[.string s] w fun e W' => ∃ x y, e = .returned (.tuple #[.int .i64 x, .int .i64 y]) ∧ bndOf nmK (fun k => (fAt k).2.1) (fun k => (fAt k).2.2) s x y ∧ Below w.heap.size w W' := by
  have HF := Lib.hid fun w => funs_any w
  have hcl0 : ∀ (k : Nat), k < 34 → ∀ (W : World) (g : Nat), W.heap[g]? = some (.cells funB 86 (0, 0)) → W.cell? ⟨g, k * 3, none⟩ = some (.string (nmK k)) ∧ W.cell? ⟨g, k * 3 + 1, none⟩ = some (.int .i64 ((fun k => (fAt k).2.1) k)) ∧ W.cell? ⟨g, k * 3 + 2, none⟩ = some (.int .i64 ((fun k => (fAt k).2.2) k)) := fun k h W g hb => by
    rw [Nat.mul_comm]; exact fAt_cells k h W g hb
  obtain ⟨FB, hFB⟩ : ∃ FB, funB = FB := ⟨_, rfl⟩
  rw [hFB] at HF hcl0
  clear hFB
  obtain ⟨nm, hnm⟩ : ∃ nm, nmK = nm := ⟨_, rfl⟩
  rw [hnm] at hcl0 ⊢
  clear hnm
  obtain ⟨fx, hfx⟩ : ∃ fx : Nat → Int, (fun k => (fAt k).2.1) = fx := ⟨_, rfl⟩
  obtain ⟨fy, hfy⟩ : ∃ fy : Nat → Int, (fun k => (fAt k).2.2) = fy := ⟨_, rfl⟩
  rw [hfx, hfy] at hcl0 ⊢
  clear hfx hfy
  have HCL := Lib.hid hcl0
  clear hcl0
  go_enter Try.func60, Try.ntmps60
  go_wp2_with (go_at_call 88; refine (HF.out _).mono ?_; rintro e w1 ⟨rfl, hw1⟩; have HW1 := Lib.hid hw1; clear hw1)
  have hbk1 : w1.heap[w.heap.size]? = some (.cells FB 86 (0, 0)) := by rw [HW1.out]; exact World.alloc_heap_new _ _
  have hb1 : Below w.heap.size w w1 := by rw [HW1.out]; exact (Below.refl _ _).alloc (Nat.le_refl _) _
  clear HW1
  obtain ⟨b, hb⟩ : ∃ b, w.heap.size = b := ⟨_, rfl⟩
  rw [hb] at hbk1 hb1 ⊢
  go_loopw [5] (fun iv wi => ∃ k : Nat, iv = .int .i64 k ∧ k ≤ 34 ∧ Hid (∀ j, j < k → nm j ≠ s) ∧ Hid (wi = w1)) (fun iv _ => 34 - (intOf iv).toNat)
  case atStart => exact ⟨0, rfl, Nat.zero_le _, fun j h => by omega, Lib.hid rfl⟩
  case round =>
    obtain ⟨k, rfl, hk, hno, hwi⟩ := hrel
    obtain rfl : w1 = wr := hwi.out.symm
    clear hwi
    by_cases hlt : k < 34
    · have q1 : (k : Int) < 34 := by omega
      obtain ⟨c0, c1, c2⟩ := HCL.out k hlt w1 b hbk1
      by_cases he : nm k = s
      · have HR : Hid (bndOf nm fx fy s (fx k) (fy k)) := .inl ⟨k, hlt, he, fun j hj => hno.out j (by omega), rfl, rfl⟩
        rw [he] at c0
        clear hno he
        go_wp2
        go_quiet (fail)
        go_wp2
        go_ret2
        exact ⟨_, _, rfl, HR.out, by rw [hb]; exact below_drewN hb1 _⟩
      · have e1 := list_ne he
        have HN : Hid (∀ j, j < k + 1 → nm j ≠ s) := by
          intro j hj
          by_cases hjk : j = k
          · subst hjk; exact he
          · exact hno.out j (by omega)
        obtain ⟨nk, hnk⟩ : ∃ nk, nm k = nk := ⟨_, rfl⟩
        rw [hnk] at c0 e1
        clear hno he hnk
        go_wp2
        exact ⟨⟨k + 1, by go_num, by omega, HN, Lib.hid trivial⟩, by simp [intOf]; omega⟩
    · have q1 : ¬ (k : Int) < 34 := by omega
      have HR : Hid (bndOf nm fx fy s 0 0) := .inr ⟨fun j hj => hno.out j (by omega), rfl, rfl⟩
      clear hno
      go_wp2
      go_ret2
      exact ⟨_, _, rfl, HR.out, hb1⟩

/-- where a list is written over: below base, and beside the list's own block, all is as it was -/
theorem Wipe_any (w : World) (base n : Nat) (v : Value) (xs : List Value) (h : OwnG w base 9 1 v n xs) (hn : n ≤ 140737488351232) :
    Calls Try.prog 51 #[v] w fun e w' => e = .returned (.tuple #[]) ∧ Below base w w' ∧ ∀ k, v.ownBlock ≠ some k → w'.heap[k]? = w.heap[k]? := by
  rcases h.2 with ⟨rfl, rfl⟩ | ⟨g, cap, cur, rfl, hg, hb, hnc, hcm, hcs, _⟩
  · go_enter Try.func51, Try.ntmps51
    go_wp2
    go_loopw [2] (fun i wi => i = .int .i64 0 ∧ wi = w) (fun i _ => 0)
    case atStart => exact ⟨rfl, rfl⟩
    case round =>
      obtain ⟨rfl, rfl⟩ := hrel
      go_wp2
      go_end0
      exact ⟨rfl, Below.refl _ _, fun k _ => rfl⟩
  · go_enter Try.func51, Try.ntmps51
    go_wp2
    go_loopw [2] (fun i wi => ∃ (k : Nat) (cs : Array Value), i = .int .i64 k ∧ k ≤ n ∧ cs.size = cur.size ∧ wi.heap[g]? = some (.cells cs 9 (0, 0)) ∧ Below base w wi ∧ Hid (∀ k, k ≠ g → wi.heap[k]? = w.heap[k]?)) (fun i _ => n - (intOf i).toNat)
    case atStart => exact ⟨0, cur, rfl, Nat.zero_le _, rfl, hb, Below.refl _ w, Lib.hid (fun _ _ => rfl)⟩
    case round =>
      obtain ⟨k, cs, rfl, hk, hcz, hbk, hbel, hoth⟩ := hrel
      by_cases hlt : k < n
      · have q1 : (k : Int) < n := by omega
        have hlg : g < wr.heap.size := (Array.getElem?_eq_some_iff.1 hbk).1
        have hkc : k < cs.size := by omega
        have hc : wr.cell? ⟨g, k, none⟩ = some cs[k] := by simp [World.cell?, hbk, hkc]
        have hf : wr.frozen? ⟨g, k, none⟩ = false := frozen_of_row wr _ _ _ _ hbk
        have hb2 := Lib.hid (heap_setCell_same wr g k cs 9 (.string ⟨#[63]⟩) hbk)
        have hbl := Lib.hid (hbel.setCell (p := ⟨g, k, none⟩) hg (.string ⟨#[63]⟩))
        have HO : Hid (∀ j, j ≠ g → (wr.setCell ⟨g, k, none⟩ (.string ⟨#[63]⟩)).heap[j]? = w.heap[j]?) := fun j hj => (Below.heap_setCell _ _ _ _ hj).trans (hoth.out j hj)
        clear hoth
        generalize cs[k] = old at hc
        go_wp2
        exact ⟨⟨k + 1, _, by go_num, by omega, by rw [Array.size_setIfInBounds]; exact hcz, hb2.out, hbl.out, HO⟩, by simp [intOf]; omega⟩
      · go_wp2
        go_end0
        exact ⟨rfl, hbel, fun j hj => hoth.out j (fun e => hj (by simp [Value.ownBlock, e]))⟩
end Go.Proofs.Ytndoloohdloflaa
