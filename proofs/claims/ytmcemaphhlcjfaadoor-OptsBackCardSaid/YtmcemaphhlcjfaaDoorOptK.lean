/- the reference's Join on lists of texts; conditions: lists that lie in memory, of at most 20,000 bytes. -/
import Derived.Test.YtmcemaphhlcjfaaDoorLent
import Derived.Test.YtmcemaphhlcjfaaDoorNumJ
import Derived.Laws.BytesArg
import Derived.Laws.IdiomStrings
import Derived.OwnWalk
import Derived.Maps.AppendAt
namespace Go.Proofs.YtmcemaphhlcjfaaDoor
open Go.RowKit

def restJ (f : Bool) : List ByteArray → List UInt8
  | [] => []
  | x :: l => (if f then [] else [32]) ++ x.data.toList ++ restJ false l
theorem restJ_tail : ∀ l : List ByteArray, restJ false l = Lib.joinTail [32] (l.map (·.data.toList))
  | [] => rfl
  | x :: l => by rw [restJ, restJ_tail l]; simp [Lib.joinTail]
theorem restJ_join (l : List ByteArray) : restJ true l = Lib.join (l.map (·.data.toList)) [32] := by
  cases l with
  | nil => rfl
  | cons x l => rw [restJ, restJ_tail, List.map_cons, Lib.join_cons]; simp
theorem restJ_len : ∀ (l : List ByteArray) f, (restJ f l).length ≤ totL l
  | [], _ => by simp [restJ, totL]
  | x :: l, f => by
    have := restJ_len l false
    rw [restJ, totL]
    cases f <;> simp <;> omega
theorem conv_own {W : World} {base : Nat} {v : Value} {bs : List UInt8} (h : W.ownsRow base 5 1 v bs.length (Lib.byteCells bs)) : (convert 79 9 v).run Tryd.prog W = .ok (.string ⟨bs.toArray⟩) W := by
  have hg := OwnG.of h
  rcases hg.2 with ⟨rfl, h0⟩ | ⟨g, cap, cur, rfl, hb, _⟩
  · have e : bs = [] := List.eq_nil_of_length_eq_zero h0
    subst e
    exact run_convert_bytes_nil W 79 5 Tryd.underlying79 Tryd.underlying5 0 0 9 Tryd.underlying9
  · refine run_convert_bytes_back W 79 9 5 ⟨g, 0, none⟩ cap bs Tryd.underlying79 Tryd.underlying5 Tryd.underlying9 fun j hj => ?_
    have e2 : Addr.add ⟨g, 0, none⟩ j = ⟨g, j, none⟩ := by
      simp only [Addr.add]
      split
      · subst_vars; rfl
      · simp
    rw [e2]
    exact hg.cells j _ (by simp [Lib.byteCells, hj])

theorem Tryd.info5 : (Tryd.prog.info? 5).map (fun i => (i.zero, i.size, i.bytes)) = some (some (.int .u8 0), 1, 1) := by kernel_rfl

theorem totL_drop (xs : List ByteArray) (k : Nat) (x : ByteArray) (h : xs[k]? = some x) : totL (xs.drop k) = 1 + x.size + totL (xs.drop (k + 1)) := by
  have hlt := (List.getElem?_eq_some_iff.1 h).1
  rw [List.drop_eq_getElem_cons hlt, (List.getElem?_eq_some_iff.1 h).2, totL]
theorem restJ_drop (f : Bool) (xs : List ByteArray) (k : Nat) (x : ByteArray) (h : xs[k]? = some x) : restJ f (xs.drop k) = (if f then [] else [32]) ++ x.data.toList ++ restJ false (xs.drop (k + 1)) := by
  have hlt := (List.getElem?_eq_some_iff.1 h).1
  rw [List.drop_eq_getElem_cons hlt, (List.getElem?_eq_some_iff.1 h).2, restJ]

set_option maxRecDepth 100000 in
set_option maxHeartbeats 2000000 in
theorem JoinR_any (w : World) (A : Option Addr) (ca : Nat) (xs : List ByteArray) (ha : StrsAt w A xs) (ht : totL xs ≤ 20000) (hx : xs.length ≤ 20000) :
    Calls Tryd.prog 59 #[.slice A xs.length ca] w fun e w' => e = .returned (.string (joinB xs)) ∧ Below w.heap.size w w' := by
  obtain ⟨i0, hi, hz0, hz1, hz2⟩ := info_parts Tryd.info5
  have hR : Hid (joinB xs = mk (restJ true xs)) := by unfold Hid joinB; rw [restJ_join]
  have hRl := restJ_len xs true
  obtain ⟨R, hRR⟩ : ∃ R, restJ true xs = R := ⟨_, rfl⟩
  rw [hRR] at hR hRl
  rw [hR.out]
  have HT := Lib.hid ht
  have HRR := Lib.hid hRR
  have HRl : R.length ≤ 20000 := by omega
  clear ht hRR hR hRl
  obtain ⟨N, hN⟩ : ∃ N, xs.length = N := ⟨_, rfl⟩
  have HN := Lib.hid hN
  rw [hN] at hx ⊢
  clear hN
  go_enter Tryd.func59, Tryd.ntmps59
  go_wp2
  go_loopw [3, 4] (fun n i wi => ∃ (k m : Nat), i = .int .i64 k ∧ n = .int .i64 m ∧ k ≤ N ∧ m ≤ 20000 ∧ Hid (m + totL (xs.drop k) ≤ 20000) ∧ wi = w) (fun _ i _ => N - (intOf i).toNat)
  case atStart => exact ⟨0, 0, rfl, rfl, Nat.zero_le _, by omega, by unfold Hid; have := HT.out; rw [List.drop_zero]; omega, rfl⟩
  case round =>
    obtain ⟨k, m, rfl, rfl, hk, hm, hrel, hwr⟩ := hrel
    obtain rfl : w = wr := hwr.symm
    by_cases hlt : k < N
    · obtain ⟨x, hx1⟩ : ∃ x, xs[k]? = some x := ⟨_, List.getElem?_eq_getElem (by rw [HN.out]; exact hlt)⟩
      have hd := hrel.out
      rw [totL_drop xs k x hx1] at hd
      obtain ⟨b, o, rfl, hcx⟩ := ha k x hx1
      have q1 : (k : Int) < N := by omega
      have q2 : IntKind.i64.wrap ((m : Int) + x.size) = (m : Int) + x.size := IntWalk.i64_in _ (by omega)
      have q3 : IntKind.i64.wrap ((m : Int) + x.size + 1) = ((m + x.size + 1 : Nat) : Int) := by rw [IntWalk.i64_in _ (by omega)]; omega
      have HD := Lib.hid hd
      have HX := Lib.hid hx1
      have hm2 : m + x.size + 1 ≤ 20000 := by omega
      clear hx1 hd
      go_wp2
      exact ⟨⟨k + 1, m + x.size + 1, by go_num, rfl, by omega, hm2, by unfold Hid; have := HD.out; omega, by trivial⟩, by simp [intOf]; omega⟩
    · have q1 : ¬ (k : Int) < N := by omega
      go_wp2_with (at_make; refine wpList_make_own _ rfl _ _ 79 rfl w.heap.size 5 i0 (.int .u8 0) 1 Tryd.underlying79 hi hz0 hz1 .i64 .i64 m m rfl rfl rfl (by rw [hz2]; omega) (by unfold maxLen; omega) (Nat.le_refl _) ?_; intro w1 hown0 hg0)
      have hB0 : Below w.heap.size w w1 := (Below.refl _ w).grown hg0 (Nat.le_refl _) (fun j hj => by cases hj)
      go_loopw [5, 6] (fun v i wi => ∃ (k : Nat) (bs : List UInt8), i = .int .i64 k ∧ k ≤ N ∧ Hid (wi.ownsRow w.heap.size 5 1 v bs.length (Lib.byteCells bs)) ∧ Hid (R = bs ++ restJ (decide (k = 0)) (xs.drop k)) ∧ Below w.heap.size w wi) (fun _ i _ => N - (intOf i).toNat)
      case atStart => exact ⟨0, [], rfl, Nat.zero_le _, hown0, by unfold Hid; rw [HRR.out.symm]; rfl, hB0⟩
      case round =>
        obtain ⟨k2, bs, rfl, hk2, hown, hrel2, hbel⟩ := hrel
        have hbl : bs.length ≤ 20000 := by have := congrArg List.length hrel2.out; simp at this; omega
        by_cases hlt2 : k2 < N
        · obtain ⟨x, hx1⟩ : ∃ x, xs[k2]? = some x := ⟨_, List.getElem?_eq_getElem (by rw [HN.out]; exact hlt2)⟩
          obtain ⟨b, o, rfl, hcx0⟩ := ha k2 x hx1
          have hcx : wr.cell? ⟨b, o + k2, none⟩ = some (.string x) := by rw [hbel.cell (p := ⟨b, o + k2, none⟩) (World.block_lt_of_cell? _ _ hcx0)]; exact hcx0
          have q1 : (k2 : Int) < N := by omega
          have hst := restJ_drop (decide (k2 = 0)) xs k2 x hx1
          by_cases h0 : k2 = 0
          · subst h0
            have HREL : Hid (R = (bs ++ x.data.toList) ++ restJ false (xs.drop 1)) := by unfold Hid; rw [hrel2.out, hst]; simp
            have hxl : bs.length + x.size ≤ 20000 := by have := congrArg List.length HREL.out; simp at this; omega
            rw [Nat.add_zero] at hcx
            have q1 : (0 : Int) < N := by omega
            clear hst hrel2 hx1
            go_wp2_with (at_builtin; refine Lib.wpList_append_own_string _ rfl _ _ 79 9 rfl w.heap.size 5 i0 Tryd.underlying79 Tryd.underlying9 hi hz0 hz1 hz2 u5 _ _ rfl hown.out x rfl (by unfold maxLen; omega) (by omega) hbel.size ?_; intro v' w2 hown' hgrow _; obtain ⟨A', c', rfl, _, _⟩ := (OwnG.of hown').form)
            have hb1 : Below w.heap.size w w2 := hbel.grown hgrow hbel.size (fun j hj => (hown.out.lt j hj).1)
            refine ⟨⟨1, bs ++ x.data.toList, by go_num, by omega, ?_, HREL, hb1⟩, by simp [intOf]; omega⟩
            have e : Lib.byteCells (bs ++ x.data.toList) = Lib.byteCells bs ++ Lib.strCells x := by simp [Lib.byteCells, Lib.strCells]
            unfold Hid
            rw [e, List.length_append]
            exact hown'
          · have hd0 : decide (k2 = 0) = false := by simpa using h0
            have HREL : Hid (R = ((bs ++ [32]) ++ x.data.toList) ++ restJ (decide (k2 + 1 = 0)) (xs.drop (k2 + 1))) := by unfold Hid; rw [hrel2.out, hst, hd0]; simp
            have hxl : bs.length + 1 + x.size ≤ 20000 := by have := congrArg List.length HREL.out; simp at this; omega
            have q4 : (0 : Int) < (k2 : Int) := by omega
            clear hst hrel2 hx1 hd0
            go_wp2_with (first
              | (at_builtin; refine wpList_append_own_at _ rfl _ _ 79 rfl w.heap.size 5 i0 (.int .u8 0) 1 1 Tryd.underlying79 hi hz0 hz1 hz2 rfl (by decide) u5 bs.length (Lib.byteCells bs) rfl (hown.out.alloc _) ⟨_, 0, none⟩ 1 1 [.int .u8 32] rfl rfl (cell_one_new _ _ _) (by simp [Value.oneCell']) (by unfold maxLen; omega) (by omega) (by have := hbel.size; simp; omega) ?_; intro v2 w2 hown2 hgrow2 _ _; have hB2 : Below w.heap.size w w2 := (hbel.alloc hbel.size _).grown hgrow2 (by have := hbel.size; simp; omega) (fun j hj => (hown.out.lt j hj).1); have hcx2 : w2.cell? ⟨b, o + k2, none⟩ = some (.string x) := by rw [hB2.cell (p := ⟨b, o + k2, none⟩) (World.block_lt_of_cell? _ _ hcx0)]; exact hcx0)
              | (at_builtin; refine Lib.wpList_append_own_string _ rfl _ _ 79 9 rfl w.heap.size 5 i0 Tryd.underlying79 Tryd.underlying9 hi hz0 hz1 hz2 v2 _ _ rfl hown2 x rfl (by unfold maxLen; omega) (by omega) hB2.size ?_; intro v' w3 hown' hgrow _; obtain ⟨A', c', rfl, _, _⟩ := (OwnG.of hown').form))
            have hb1 : Below w.heap.size w w3 := hB2.grown hgrow hB2.size (fun j hj => (hown2.lt j hj).1)
            refine ⟨⟨k2 + 1, (bs ++ [32]) ++ x.data.toList, by go_num, by omega, ?_, HREL, hb1⟩, by simp [intOf]; omega⟩
            have e : Lib.byteCells ((bs ++ [32]) ++ x.data.toList) = (Lib.byteCells bs ++ [.int .u8 32]) ++ Lib.strCells x := by simp [Lib.byteCells, Lib.strCells]
            unfold Hid
            rw [e, List.length_append, List.length_append]
            exact hown'
        · have hfin : R = bs := by
            have := hrel2.out
            rw [List.drop_eq_nil_of_le (by have := HN.out; omega)] at this
            simpa [restJ] using this
          have hcv := conv_own hown.out
          have HF := Lib.hid hfin
          clear hfin hrel2
          go_wp2
          go_ret
          exact ⟨by rw [HF.out]; rfl, hbel⟩
end Go.Proofs.YtmcemaphhlcjfaaDoor
