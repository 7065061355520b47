/- Prerequisites and order-only ones; conditions: a list that lies in memory. -/
import Derived.Test.YtmcemaphhlcjfaaDoorColonR
import Derived.BigRegion
namespace Go.Proofs.YtmcemaphhlcjfaaDoor
open Go.RowKit

/-- v is a slice that reads as the texts xs, in a block from base on -/
def StrSl (W : World) (base : Nat) (v : Value) (xs : List ByteArray) : Prop := ∃ A c, v = .slice A xs.length c ∧ xs.length ≤ c ∧
  (xs = [] ∨ ∃ g off cs, A = some ⟨g, off, none⟩ ∧ base ≤ g ∧ W.heap[g]? = some (.cells cs 9 (0, 0)) ∧ ∀ j x, xs[j]? = some x → cs[off + j]? = some (.string x))
theorem StrSl.of {W : World} {base : Nat} {v : Value} {xs : List ByteArray} (h : OwnG W base 9 1 v xs.length (xs.map Value.string)) : StrSl W base v xs := by
  rcases h.2 with ⟨rfl, h0⟩ | ⟨g, cap, cur, rfl, hb, hg, hn, hm, hc, ht⟩
  · obtain rfl : xs = [] := List.eq_nil_of_length_eq_zero h0
    exact ⟨none, 0, rfl, Nat.le_refl _, .inl rfl⟩
  · refine ⟨_, cap, rfl, hn, .inr ⟨g, 0, cur, rfl, hb, hg, fun j x hj => ?_⟩⟩
    have h1 : (xs.map Value.string)[j]? = some (.string x) := by simp [hj]
    rw [← ht, List.getElem?_take] at h1
    rw [Nat.zero_add]
    split at h1
    · simpa using h1
    · cases h1
theorem StrSl.below {W W' : World} {base : Nat} {v : Value} {xs : List ByteArray} (h : StrSl W base v xs) (hb : Below W.heap.size W W') : StrSl W' base v xs := by
  obtain ⟨A, c, h1, h2, h3⟩ := h
  refine ⟨A, c, h1, h2, ?_⟩
  rcases h3 with h3 | ⟨g, off, cs, h4, h5, h6, h7⟩
  · exact .inl h3
  · exact .inr ⟨g, off, cs, h4, h5, (hb.block _ (Array.getElem?_eq_some_iff.1 h6).1).trans h6, h7⟩
theorem StrSl.lower {W : World} {base base' : Nat} {v : Value} {xs : List ByteArray} (h : StrSl W base v xs) (hb : base' ≤ base) : StrSl W base' v xs := by
  obtain ⟨A, c, h1, h2, h3⟩ := h
  refine ⟨A, c, h1, h2, ?_⟩
  rcases h3 with h3 | ⟨g, off, cs, h4, h5, h6, h7⟩
  · exact .inl h3
  · exact .inr ⟨g, off, cs, h4, by omega, h6, h7⟩
theorem StrSl.at_ {W : World} {base : Nat} {A : Option Addr} {n c : Nat} {xs : List ByteArray} (h : StrSl W base (.slice A n c) xs) : n = xs.length ∧ n ≤ c ∧ StrsAt W A xs := by
  obtain ⟨A', c', h1, h2, h3⟩ := h
  cases h1
  refine ⟨rfl, h2, fun j x hj => ?_⟩
  rcases h3 with rfl | ⟨g, off, cs, rfl, h5, h6, h7⟩
  · simp at hj
  · exact ⟨g, off, rfl, by rw [cell_of_row W g (off + j) cs 9 (0, 0) h6]; exact h7 j x hj⟩
theorem StrSl.nil (W : World) (base : Nat) : StrSl W base (.slice none 0 0) [] := ⟨none, 0, rfl, Nat.le_refl _, .inl rfl⟩
theorem StrSl.other {W : World} {base : Nat} {v : Value} {xs : List ByteArray} (h : StrSl W base v xs) {b : Nat} {cs : Array Value} {t : TypeId} (hb : W.heap[b]? = some (.cells cs t (0, 0))) (ht : t ≠ 9) (j : Nat) (u : Value) : StrSl (W.setCell ⟨b, j, none⟩ u) base v xs := by
  obtain ⟨A, c, h1, h2, h3⟩ := h
  refine ⟨A, c, h1, h2, ?_⟩
  rcases h3 with h3 | ⟨g, off, cs', h4, h5, h6, h7⟩
  · exact .inl h3
  · refine .inr ⟨g, off, cs', h4, h5, ?_, h7⟩
    rw [Below.heap_setCell _ _ _ _ (by intro e; simp at e; subst e; rw [hb] at h6; cases h6; exact ht rfl)]
    exact h6
def bar : ByteArray := ⟨#[124]⟩
def halvesL : List ByteArray → List ByteArray × List ByteArray
  | [] => ([], [])
  | x :: l => if (x.toList == [124]) = true then ([], l) else (x :: (halvesL l).1, (halvesL l).2)
theorem halves_bar : ∀ (xs : List ByteArray) (k : Nat) (x : ByteArray), xs[k]? = some x → (x.toList == [124]) = true → (∀ j y, j < k → xs[j]? = some y → (y.toList == [124]) = false) → halvesL xs = (xs.take k, xs.drop (k + 1))
  | [], k, x, h, _, _ => by simp at h
  | y :: l, 0, x, h, hx, _ => by
    have : y = x := by simpa using h
    subst this
    rw [halvesL, if_pos hx]; rfl
  | y :: l, k + 1, x, h, hx, hb => by
    have ih := halves_bar l k x (by simpa using h) hx (fun j z hj hz => hb (j + 1) z (by omega) (by simpa using hz))
    have h0 := hb 0 y (by omega) (by simp)
    rw [halvesL, if_neg (by rw [h0]; simp), ih]
    simp
theorem halves_none : ∀ (xs : List ByteArray), (∀ (j : Nat) y, xs[j]? = some y → (y.toList == [124]) = false) → halvesL xs = (xs, [])
  | [], _ => rfl
  | y :: l, hb => by
    have ih := halves_none l (fun j z hz => hb (j + 1) z (by simpa using hz))
    have h0 := hb 0 y (by simp)
    rw [halvesL, if_neg (by rw [h0]; simp), ih]
theorem StrSl.take {W : World} {base : Nat} {A : Option Addr} {n c : Nat} {xs : List ByteArray} (h : StrSl W base (.slice A n c) xs) (k : Nat) (hk : k ≤ n) : StrSl W base (.slice A k k) (xs.take k) := by
  obtain ⟨A', c', h1, h2, h3⟩ := h
  cases h1
  refine ⟨A, k, by rw [List.length_take, Nat.min_eq_left hk], by rw [List.length_take]; omega, ?_⟩
  rcases h3 with rfl | ⟨g, off, cs, rfl, h5, h6, h7⟩
  · left; simp
  · right
    refine ⟨g, off, cs, rfl, h5, h6, fun j x hj => h7 j x ?_⟩
    rw [List.getElem?_take] at hj
    split at hj
    · exact hj
    · cases hj
theorem StrSl.drop {W : World} {base : Nat} {g off n c : Nat} {xs : List ByteArray} (h : StrSl W base (.slice (some ⟨g, off, none⟩) n c) xs) (k : Nat) (hk : k ≤ n) :
    StrSl W base (.slice (some (if c = k then ⟨g, off, none⟩ else ⟨g, off + k, none⟩)) (n - k) (c - k)) (xs.drop k) := by
  obtain ⟨A', c', h1, h2, h3⟩ := h
  cases h1
  refine ⟨_, c - k, by rw [List.length_drop], by rw [List.length_drop]; omega, ?_⟩
  rcases h3 with rfl | ⟨g', off', cs, he, h5, h6, h7⟩
  · left; simp
  · cases he
    by_cases hkn : k = xs.length
    · left; rw [hkn]; simp
    · right
      refine ⟨g, off + k, cs, by rw [if_neg (by omega)], h5, h6, fun j x hj => ?_⟩
      rw [List.getElem?_drop] at hj
      rw [Nat.add_assoc]; exact h7 _ x hj

set_option maxRecDepth 100000 in
set_option maxHeartbeats 2000000 in
theorem halves_any (w : World) (base : Nat) (v : Value) (xs : List ByteArray) (h : StrSl w base v xs) (hx : xs.length ≤ 1000000000) :
    Calls Tryd.prog 48 #[v] w fun e W' => ∃ v1 v2, e = .returned (.tuple #[v1, v2]) ∧ StrSl W' base v1 (halvesL xs).1 ∧ StrSl W' base v2 (halvesL xs).2 ∧ Below w.heap.size w W' := by
  obtain ⟨A, c, rfl, hc, _⟩ := id h
  obtain ⟨_, _, hat⟩ := h.at_
  obtain ⟨N, hN⟩ : ∃ N, xs.length = N := ⟨_, rfl⟩
  rw [hN] at hx hc h ⊢
  have HN := Lib.hid hN
  have HH := Lib.hid h
  have HAT := Lib.hid hat
  clear hN h hat
  go_enter Tryd.func48, Tryd.ntmps48
  go_wp2
  go_loopw [4] (fun iv wi => ∃ k : Nat, iv = .int .i64 k ∧ k ≤ N ∧ wi = w ∧ Hid (∀ j y, j < k → xs[j]? = some y → (y.toList == [124]) = false)) (fun iv _ => N - (intOf iv).toNat)
  case atStart => exact ⟨0, rfl, Nat.zero_le _, rfl, fun j y h => absurd h (Nat.not_lt_zero _)⟩
  case round =>
    obtain ⟨k, rfl, hk, hwr, hno⟩ := hrel
    obtain rfl : w = wr := hwr.symm
    by_cases hlt : k < N
    · obtain ⟨x, hx1⟩ : ∃ x, xs[k]? = some x := ⟨_, List.getElem?_eq_getElem (by have := HN.out; omega)⟩
      obtain ⟨g, off, rfl, kx⟩ := HAT.out k x hx1
      have q1 : (k : Int) < N := by omega
      cases hb : (x.toList == [124])
      · have HNO : Hid (∀ j y, j < k + 1 → xs[j]? = some y → (y.toList == [124]) = false) := fun j y hj hy => by
          by_cases hjk : j = k
          · subst hjk; rw [hx1] at hy; cases hy; exact hb
          · exact hno.out j y (by omega) hy
        clear hno hx1
        go_wp2
        exact ⟨⟨k + 1, by go_num, by omega, by trivial, HNO⟩, by simp [intOf]; omega⟩
      · have HE := Lib.hid (halves_bar xs k x hx1 hb hno.out)
        have HT := Lib.hid (HH.out.take k (by omega))
        have HD := Lib.hid (HH.out.drop (k + 1) (by omega))
        have q2 : (k : Int) ≤ N := by omega
        have q3 : (k : Int) ≤ c := by omega
        have q4 : IntKind.i64.wrap ((k : Int) + 1) = ((k + 1 : Nat) : Int) := by rw [IntWalk.i64_in _ (by omega)]; omega
        have q5 : ((k + 1 : Nat) : Int) ≤ N := by omega
        have q5' : (k : Int) + 1 ≤ N := by omega
        have q6 : (N : Int) ≤ c := by omega
        clear hno hx1
        by_cases hck : c = k + 1
        · have h9 := HD.out
          rw [if_pos hck] at h9
          have H9 := Lib.hid h9
          clear h9 HD
          subst hck
          rw [Nat.sub_self, show N - (k + 1) = 0 by omega] at H9
          go_wp2
          go_quiet (fail)
          go_wp2
          go_ret2
          exact ⟨_, _, rfl, by rw [HE.out]; exact HT.out, by rw [HE.out]; exact H9.out, below_drewN (Below.refl _ w) _⟩
        · have h9 := HD.out
          rw [if_neg hck] at h9
          have H9 := Lib.hid h9
          clear h9 HD
          go_wp2
          go_quiet (fail)
          go_wp2
          go_ret2
          exact ⟨_, _, rfl, by rw [HE.out]; exact HT.out, by rw [HE.out]; exact H9.out, below_drewN (Below.refl _ w) _⟩
    · obtain rfl : k = N := by omega
      have HE := Lib.hid (halves_none xs (fun j y hy => hno.out j y (by have := (List.getElem?_eq_some_iff.1 hy).1; have := HN.out; omega) hy))
      clear hno
      go_wp2
      go_ret2
      exact ⟨_, _, rfl, by rw [HE.out]; exact HH.out, by rw [HE.out]; exact StrSl.nil _ _, Below.refl _ w⟩

theorem load2 {W : World} {b : Nat} {a0 a1 : Value} (h : W.heap[b]? = some (.cells #[a0, a1] 71 (0, 0))) : (loadVar 71 ⟨b, 0, none⟩).run Tryd.prog W = .ok (.agg #[a0, a1]) W := by
  refine run_loadVar_mid W b 0 71 [a0, a1] _ (fun j v hv => ?_) Tryd.underlying71 rfl (by kernel_rfl)
  rw [Nat.zero_add, cell_of_row W b j _ 71 (0, 0) h]
  simpa using hv
theorem set2 {w : World} {b : Nat} {z0 z1 : Value} {t : TypeId} (h : w.heap[b]? = some (.cells #[z0, z1] t (0, 0))) (a0 a1 : Value) :
    ((w.setCell ⟨b, 0, none⟩ a0).setCell ⟨b, 1, none⟩ a1).heap[b]? = some (.cells #[a0, a1] t (0, 0)) := by
  have h0 := heap_setCell_same w b 0 _ t a0 h
  have h1 := heap_setCell_same _ b 1 _ t a1 h0
  simpa using h1
theorem StrSl.set2 {W : World} {base : Nat} {v : Value} {xs : List ByteArray} (h : StrSl W base v xs) {b : Nat} {z0 z1 : Value} (hb : W.heap[b]? = some (.cells #[z0, z1] 71 (0, 0))) (a0 a1 : Value) : StrSl ((W.setCell ⟨b, 0, none⟩ a0).setCell ⟨b, 1, none⟩ a1) base v xs :=
  (h.other hb (by decide) 0 a0).other (heap_setCell_same W b 0 _ 71 a0 hb) (by decide) 1 a1
theorem fin2 {fn : Func} {tmps : Array Value} {tm : Tmp} {w W : World} {Q : Ending → World → Prop} (hr : fn.results = #[.cell tm 71]) (hp : tmps.getD tm undef = .pointer (some ⟨w.heap.size, 0, none⟩)) (a0 a1 : Value)
    (hz : W.heap[w.heap.size]? = some (.cells #[a0, a1] 71 (0, 0))) (hQ : Q (.returned (.agg #[a0, a1])) W) : bodyPost Tryd.prog fn Q Exit.ret { tmps := tmps, defers := [] } W :=
  bodyPost_ret (results_cell hr hp (load2 hz)) rfl hQ
theorem StrSl.past {W : World} {base : Nat} {v : Value} {xs : List ByteArray} (h : StrSl W base v xs) (o : Obj) : StrSl (W.alloc o) base v xs := h.below ((Below.refl _ W).alloc (Nat.le_refl _) o)

set_option maxRecDepth 100000 in
set_option maxHeartbeats 2000000 in
theorem split_any (w : World) (base : Nat) (v : Value) (xs : List ByteArray) (h : StrSl w base v xs) (hx : xs.length ≤ 1000000000) :
    Calls Tryd.prog 76 #[v] w fun e W' => ∃ v1 v2, e = .returned (.agg #[v1, v2]) ∧ StrSl W' base v1 (halvesL xs).1 ∧ StrSl W' base v2 (halvesL xs).2 ∧ Below w.heap.size w W' := by
  obtain ⟨A, c, rfl, hc, _⟩ := id h
  obtain ⟨_, _, hat⟩ := h.at_
  obtain ⟨N, hN⟩ : ∃ N, xs.length = N := ⟨_, rfl⟩
  rw [hN] at hx hc h ⊢
  have HN := Lib.hid hN
  have HH := Lib.hid h
  have HAT := Lib.hid hat
  clear hN h hat
  go_enter Tryd.func76, Tryd.ntmps76
  go_wp2
  obtain ⟨w0, hw0⟩ : ∃ w0, w.alloc (.cells #[.slice none 0 0, .slice none 0 0] 71) = w0 := ⟨_, rfl⟩
  rw [hw0]
  have hr0 : w0.heap[w.heap.size]? = some (.cells #[.slice none 0 0, .slice none 0 0] 71 (0, 0)) := by rw [← hw0]; exact World.alloc_heap_new w _
  have hB0 : Below w.heap.size w w0 := by rw [← hw0]; exact (Below.refl _ w).alloc (Nat.le_refl _) _
  have HR0 := Lib.hid hr0
  have HB0 := Lib.hid hB0
  have HWE := Lib.hid hw0
  have c0 : w0.cell? ⟨w.heap.size, 0, none⟩ = some (.slice none 0 0) := by rw [cell_of_row w0 _ 0 _ 71 (0, 0) hr0]; rfl
  have c1 : w0.cell? ⟨w.heap.size, 1, none⟩ = some (.slice none 0 0) := by rw [cell_of_row w0 _ 1 _ 71 (0, 0) hr0]; rfl
  have f0 : w0.frozen? ⟨w.heap.size, 0, none⟩ = false := frozen_of_row w0 _ _ _ _ hr0
  have f1 : w0.frozen? ⟨w.heap.size, 1, none⟩ = false := frozen_of_row w0 _ _ _ _ hr0
  clear hr0 hB0 hw0
  go_loopw [3, 4, 7] (fun _ _ iv wi => ∃ k : Nat, iv = .int .i64 k ∧ k ≤ N ∧ wi = w0 ∧ Hid (∀ j y, j < k → xs[j]? = some y → (y.toList == [124]) = false)) (fun _ _ iv _ => N - (intOf iv).toNat)
  case atStart => exact ⟨0, rfl, Nat.zero_le _, rfl, fun j y h => absurd h (Nat.not_lt_zero _)⟩
  case round =>
    obtain ⟨k, rfl, hk, hwr, hno⟩ := hrel
    obtain rfl : w0 = wr := hwr.symm
    by_cases hlt : k < N
    · obtain ⟨x, hx1⟩ : ∃ x, xs[k]? = some x := ⟨_, List.getElem?_eq_getElem (by have := HN.out; omega)⟩
      obtain ⟨g, off, rfl, kx0⟩ := HAT.out k x hx1
      have kx : w0.cell? ⟨g, off + k, none⟩ = some (.string x) := by
        rw [HB0.out.cell (p := ⟨g, off + k, none⟩) (World.block_lt_of_cell? _ _ kx0)]; exact kx0
      have q1 : (k : Int) < N := by omega
      cases hb : (x.toList == [124])
      · have HNO : Hid (∀ j y, j < k + 1 → xs[j]? = some y → (y.toList == [124]) = false) := fun j y hj hy => by
          by_cases hjk : j = k
          · subst hjk; rw [hx1] at hy; cases hy; exact hb
          · exact hno.out j y (by omega) hy
        clear hno hx1 kx0
        go_wp2
        exact ⟨⟨k + 1, by go_num, by omega, by trivial, HNO⟩, by simp [intOf]; omega⟩
      · have HE := Lib.hid (halves_bar xs k x hx1 hb hno.out)
        have HT := Lib.hid ((HH.out.take k (by omega)).below (HWE.out ▸ (Below.refl _ w).alloc (Nat.le_refl _) _))
        have HD := Lib.hid ((HH.out.drop (k + 1) (by omega)).below (HWE.out ▸ (Below.refl _ w).alloc (Nat.le_refl _) _))
        have q2 : (k : Int) ≤ N := by omega
        have q3 : (k : Int) ≤ c := by omega
        have q4 : IntKind.i64.wrap ((k : Int) + 1) = ((k + 1 : Nat) : Int) := by rw [IntWalk.i64_in _ (by omega)]; omega
        have q5 : ((k + 1 : Nat) : Int) ≤ N := by omega
        have q5' : (k : Int) + 1 ≤ N := by omega
        have q6 : (N : Int) ≤ c := by omega
        clear hno hx1 kx0
        by_cases hck : c = k + 1
        · have h9 := HD.out
          rw [if_pos hck] at h9
          have H9 := Lib.hid h9
          clear h9 HD
          subst hck
          rw [Nat.sub_self, show N - (k + 1) = 0 by omega] at H9
          go_wp2
          go_region
          all_goals go_wp2
          exact fin2 (tm := 2) (w := w) (by kernel_rfl) rfl _ _ (set2 HR0.out (.slice (some ⟨g, off, none⟩) k k) (.slice (some ⟨g, off, none⟩) 0 0)) ⟨_, _, rfl, by rw [HE.out]; exact HT.out.set2 HR0.out _ _, by rw [HE.out]; exact H9.out.set2 HR0.out _ _, ((HB0.out.setCell (p := ⟨w.heap.size, 0, none⟩) (Nat.le_refl _) _).setCell (p := ⟨w.heap.size, 1, none⟩) (Nat.le_refl _) _).drew⟩
        · have h9 := HD.out
          rw [if_neg hck] at h9
          have H9 := Lib.hid h9
          clear h9 HD
          go_wp2
          go_region
          all_goals go_wp2
          exact fin2 (tm := 2) (w := w) (by kernel_rfl) rfl _ _ (set2 HR0.out (.slice (some ⟨g, off, none⟩) k k) (.slice (some ⟨g, off + (k + 1), none⟩) (N - (k + 1)) (c - (k + 1)))) ⟨_, _, rfl, by rw [HE.out]; exact HT.out.set2 HR0.out _ _, by rw [HE.out]; exact H9.out.set2 HR0.out _ _, ((HB0.out.setCell (p := ⟨w.heap.size, 0, none⟩) (Nat.le_refl _) _).setCell (p := ⟨w.heap.size, 1, none⟩) (Nat.le_refl _) _).drew⟩
    · obtain rfl : k = N := by omega
      have HE := Lib.hid (halves_none xs (fun j y hy => hno.out j y (by have := (List.getElem?_eq_some_iff.1 hy).1; have := HN.out; omega) hy))
      have HT := Lib.hid (HH.out.below (HWE.out ▸ (Below.refl _ w).alloc (Nat.le_refl _) _))
      clear hno
      go_wp2
      exact fin2 (tm := 2) (w := w) (by kernel_rfl) rfl _ _ (set2 HR0.out (.slice A k c) (.slice none 0 0)) ⟨_, _, rfl, by rw [HE.out]; exact HT.out.set2 HR0.out _ _, by rw [HE.out]; exact StrSl.nil _ _, (HB0.out.setCell (p := ⟨w.heap.size, 0, none⟩) (Nat.le_refl _) _).setCell (p := ⟨w.heap.size, 1, none⟩) (Nat.le_refl _) _⟩
end Go.Proofs.YtmcemaphhlcjfaaDoor
