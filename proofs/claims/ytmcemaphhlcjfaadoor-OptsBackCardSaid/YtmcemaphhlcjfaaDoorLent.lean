/- Big, Lent, Stays on lists of texts; conditions: lists that lie in memory. -/
import Derived.Test.YtmcemaphhlcjfaaDoorLists
import Derived.Test.YtmcemaphhlcjfaaDoorSplit
namespace Go.Proofs.YtmcemaphhlcjfaaDoor
open Go.RowKit

def bigF : List ByteArray → Nat → Nat
  | [], n => n
  | x :: l, n => if n ≤ 20000 then bigF l (n + 1 + x.size) else n
def totL : List ByteArray → Nat
  | [] => 0
  | x :: l => 1 + x.size + totL l
theorem bigF_tot : ∀ l n, bigF l n ≤ 20000 → n + totL l ≤ 20000
  | [], n, h => by simpa [bigF, totL] using h
  | x :: l, n, h => by
    rw [bigF] at h
    split at h
    · have := bigF_tot l _ h
      simp [totL]; omega
    · omega

set_option maxRecDepth 100000 in
set_option maxHeartbeats 1000000 in
theorem Big_any (w : World) (A : Option Addr) (ca : Nat) (xs : List ByteArray) (ha : StrsAt w A xs) (hx : xs.length ≤ 140737488351232) (hz : ∀ x ∈ xs, x.size ≤ 140737488351232) :
    Calls Tryd.prog 19 #[.slice A xs.length ca] w fun e w' => e = .returned (.bool (decide (20000 < bigF xs 0))) ∧ w' = w := by
  obtain ⟨R, hR⟩ : ∃ R, bigF xs 0 = R := ⟨_, rfl⟩
  rw [hR]
  have HR := Lib.hid hR
  clear hR
  go_enter Tryd.func19, Tryd.ntmps19
  go_wp2
  go_loopw [3, 4] (fun n i wi => ∃ (k m : Nat), i = .int .i64 k ∧ n = .int .i64 m ∧ k ≤ xs.length ∧ m ≤ 140737488400000 ∧ Hid (bigF (xs.drop k) m = R) ∧ wi = w) (fun _ i _ => xs.length - (intOf i).toNat)
  case atStart => exact ⟨0, 0, rfl, rfl, Nat.zero_le _, by omega, HR, rfl⟩
  case round =>
    obtain ⟨k, m, rfl, rfl, hk, hm, hrel, rfl⟩ := hrel
    by_cases hlt : k < xs.length
    · obtain ⟨x, hx1⟩ : ∃ x, xs[k]? = some x := ⟨_, List.getElem?_eq_getElem hlt⟩
      have hzx : x.size ≤ 140737488351232 := hz x (List.mem_of_getElem? hx1)
      obtain ⟨b, o, rfl, hcx⟩ := ha k x hx1
      have dx : xs.drop k = x :: xs.drop (k + 1) := by rw [List.drop_eq_getElem_cons hlt]; congr 1; rw [List.getElem?_eq_getElem hlt] at hx1; exact Option.some.inj hx1
      have hd := hrel.out
      rw [dx, bigF] at hd
      have q1 : (k : Int) < xs.length := by omega
      clear dx hx1 hrel
      by_cases hm2 : m ≤ 20000
      · rw [if_pos hm2] at hd
        have HD := Lib.hid hd
        have q2 : (m : Int) ≤ 20000 := by omega
        have w1 : IntKind.i64.wrap ((m : Int) + 1) = (m : Int) + 1 := IntWalk.i64_in _ (by omega)
        have w2 : IntKind.i64.wrap ((m : Int) + 1 + x.size) = ((m + 1 + x.size : Nat) : Int) := by rw [IntWalk.i64_in _ (by omega)]; omega
        clear hd
        go_wp2
        exact ⟨⟨k + 1, m + 1 + x.size, by go_num, rfl, by omega, by omega, HD, by trivial⟩, by simp [intOf]; omega⟩
      · rw [if_neg hm2] at hd
        subst hd
        have q2 : ¬ (m : Int) ≤ 20000 := by omega
        go_wp2
        go_ret
        exact ⟨ret_bool (by simp; omega), rfl⟩
    · have e : m = R := by
        have := hrel.out
        rw [List.drop_eq_nil_of_le (by omega)] at this
        exact this
      subst e
      go_wp2
      go_ret
      exact ⟨ret_bool (by simp only [decide_eq_decide]; omega), rfl⟩
def lentX : ByteArray := ⟨#[45, 55, 49]⟩
set_option maxRecDepth 100000 in
set_option maxHeartbeats 1000000 in
theorem Lent_any (w : World) (A : Option Addr) (ca : Nat) (xs : List ByteArray) (ha : StrsAt w A xs) (hx : xs.length ≤ 20000) :
    Calls Tryd.prog 22 #[.slice A xs.length ca] w fun e w' => ∃ g cap, e = .returned (.slice (some ⟨g, 0, none⟩) xs.length cap) ∧ OwnG w' w.heap.size 9 1 (.slice (some ⟨g, 0, none⟩) (xs.length + 1) cap) (xs.length + 1) ((xs ++ [lentX]).map Value.string) ∧ Below w.heap.size w w' := by
  obtain ⟨i0, hi, hz0, hz1, hz2⟩ := info_parts Tryd.info9
  cases xs with
  | nil =>
    have hr0 := World.ownsRow_nil w w.heap.size 9 1
    cases A
    all_goals
      go_enter Tryd.func22, Tryd.ntmps22
      go_wp2_with (at_builtin; refine wpList_append_own_at _ rfl _ _ 27 rfl w.heap.size 9 i0 (.string ⟨#[]⟩) 1 16 Tryd.underlying27 hi hz0 hz1 hz2 rfl (by decide) (.slice none 0 0) 0 [] rfl (hr0.alloc _) ⟨_, 0, none⟩ 1 1 [.string lentX] rfl rfl (cell_one_new _ _ _) (by simp [Value.oneCell']) (by decide) (by omega) (by simp) ?_; intro v' w1 hown' hgrow _ _; obtain ⟨g, cap, rfl⟩ := ownsRow_succ hown')
      have hb1 : Below w.heap.size w w1 := ((Below.refl _ w).alloc (Nat.le_refl _) _).grown hgrow (by simp) (fun j hj => by simp [Value.ownBlock] at hj)
      go_ret
      exact ⟨g, cap, rfl, OwnG.of hown', hb1⟩
  | cons x l =>
    obtain ⟨b, o, rfl, _⟩ := ha 0 x rfl
    have hr0 := World.ownsRow_nil w w.heap.size 9 1
    have hcs : ∀ j u, ((x :: l).map Value.string)[j]? = some u → w.cell? (Addr.add ⟨b, o, none⟩ j) = some u := by
      intro j u hj
      rw [List.getElem?_map] at hj
      obtain ⟨y, hy, rfl⟩ := Option.map_eq_some_iff.1 hj
      obtain ⟨b2, o2, e, hc⟩ := ha j y hy
      cases e
      have e2 : Addr.add ⟨b, o, none⟩ j = ⟨b, o + j, none⟩ := by
        simp only [Addr.add]
        split
        · subst_vars; rfl
        · simp
      rw [e2]; exact hc
    obtain ⟨N, hN⟩ : ∃ N, (x :: l).length = N := ⟨_, rfl⟩
    have hl1 : ((x :: l).map Value.string).length = N * 1 := by rw [List.length_map]; omega
    have hone : ∀ u ∈ (x :: l).map Value.string, u.oneCell' = true := by
      intro u hu; obtain ⟨y, _, rfl⟩ := List.mem_map.1 hu; rfl
    have hNpos : 1 ≤ N := by simp at hN; omega
    rw [hN] at hx
    rw [List.map_append]
    generalize (x :: l).map Value.string = news at *
    rw [hN]
    clear hN ha
    go_enter Tryd.func22, Tryd.ntmps22
    go_wp2_with (first | (at_builtin; refine wpList_append_own_at _ rfl _ _ 27 rfl w.heap.size 9 i0 (.string ⟨#[]⟩) 1 16 Tryd.underlying27 hi hz0 hz1 hz2 rfl (by decide) (.slice none 0 0) 0 [] rfl hr0 ⟨b, o, none⟩ N ca news rfl hl1 hcs hone (by unfold maxLen; omega) (by omega) (Nat.le_refl _) ?_; intro v1 w1 hown1 hgrow1 _ _; have hB1 : Below w.heap.size w w1 := (Below.refl _ w).grown hgrow1 (Nat.le_refl _) (fun j hj => by simp [Value.ownBlock] at hj)) | (at_builtin; refine wpList_append_own_at _ rfl _ _ 27 rfl w.heap.size 9 i0 (.string ⟨#[]⟩) 1 16 Tryd.underlying27 hi hz0 hz1 hz2 rfl (by decide) v1 (0 + N) ([] ++ news) rfl (hown1.alloc _) ⟨_, 0, none⟩ 1 1 [.string lentX] rfl rfl (cell_one_new _ _ _) (by simp [Value.oneCell']) (by unfold maxLen; omega) (by omega) (by have := hB1.size; simp; omega) ?_; intro v2 w2 hown2 hgrow2 _ _; obtain ⟨g, cap, rfl⟩ := ownsRow_succ hown2; have hNc : N ≤ cap := by obtain ⟨A', c', e, h1, _⟩ := (OwnG.of hown2).form; cases e; omega))
    have hB2 : Below w.heap.size w w2 := (hB1.alloc hB1.size _).grown hgrow2 (by have := hB1.size; simp; omega) (fun j hj => (hown1.lt j hj).1)
    go_ret
    exact ⟨g, cap, rfl, by simpa using OwnG.of hown2, hB2⟩
end Go.Proofs.YtmcemaphhlcjfaaDoor
