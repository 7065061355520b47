/- What package text's Sort and the reference's Has answer; conditions: lists that lie in memory. -/
import Derived.Test.YtndoloohdloflabSortLaw
import Derived.Test.YtndoloohdloflabJoin
import Derived.Sort.OwnSorted
import Derived.Sort.Grow
import Derived.Lib.OwnBridge
import Derived.Lib.RowBridge
namespace Go.Proofs.Ytndoloohdloflab
open Go.RowKit Go.Sort

def hasB (xs : List ByteArray) (s : ByteArray) : Bool := xs.any fun x => x.toList == s.toList
theorem hasB_iff (xs : List ByteArray) (s : ByteArray) : hasB xs s = true ↔ s ∈ xs := by
  rw [hasB, List.any_eq_true]
  refine ⟨fun ⟨x, h, e⟩ => ?_, fun h => ⟨s, h, by simp⟩⟩
  have : x = s := ba_ext (by rw [← ba_toList, ← ba_toList]; simpa using e)
  rw [← this]; exact h
theorem has_drop (xs : List ByteArray) (k : Nat) (x s : ByteArray) (h : xs[k]? = some x) : hasB (xs.drop k) s = ((x.toList == s.toList) || hasB (xs.drop (k + 1)) s) := by
  have hlt := (List.getElem?_eq_some_iff.1 h).1
  rw [List.drop_eq_getElem_cons hlt, (List.getElem?_eq_some_iff.1 h).2]; rfl

set_option maxRecDepth 100000 in
set_option maxHeartbeats 1000000 in
theorem Has_any (w : World) (A : Option Addr) (ca : Nat) (xs : List ByteArray) (s : ByteArray) (ha : StrsAt w A xs) (hx : xs.length ≤ 20000) :
    Calls Try.prog 35 #[.slice A xs.length ca, .string s] w fun e w' => e = .returned (.bool (hasB xs s)) ∧ w' = w := by
  obtain ⟨N, hN⟩ : ∃ N, xs.length = N := ⟨_, rfl⟩
  obtain ⟨R, hR⟩ : ∃ R, hasB xs s = R := ⟨_, rfl⟩
  rw [hN] at hx ⊢
  rw [hR]
  have HN := Lib.hid hN
  have HR := Lib.hid hR
  clear hN hR
  go_enter Try.func35, Try.ntmps35
  go_wp2
  go_loopw [5] (fun i wi => ∃ k : Nat, i = .int .i64 k ∧ k ≤ N ∧ Hid (hasB (xs.drop k) s = R) ∧ wi = w) (fun i _ => N - (intOf i).toNat)
  case atStart => exact ⟨0, rfl, Nat.zero_le _, HR, rfl⟩
  case round =>
    obtain ⟨k, rfl, hk, hrel, hwr⟩ := hrel
    obtain rfl : w = wr := hwr.symm
    by_cases hlt : k < N
    · obtain ⟨x, hx1⟩ : ∃ x, xs[k]? = some x := ⟨_, List.getElem?_eq_getElem (by rw [HN.out]; exact hlt)⟩
      obtain ⟨b, o, rfl, hcx⟩ := ha k x hx1
      have q1 : (k : Int) < N := by omega
      have hd := hrel.out
      rw [has_drop xs k x s hx1] at hd
      clear hx1 hrel
      cases hq : (x.toList == s.toList)
      · rw [hq] at hd
        have HD : Hid (hasB (xs.drop (k + 1)) s = R) := by simpa [Hid] using hd
        clear hd
        go_wp2
        exact ⟨⟨k + 1, by go_num, by omega, HD, by trivial⟩, by simp [intOf]; omega⟩
      · rw [hq] at hd
        obtain rfl : R = true := by simpa using hd.symm
        clear hd
        go_wp2
        go_ret
        exact ⟨rfl, rfl⟩
    · obtain rfl : R = false := by
        have := hrel.out
        rw [List.drop_eq_nil_of_le (by have := HN.out; omega)] at this
        exact this.symm
      go_wp2
      go_ret
      exact ⟨rfl, rfl⟩

theorem map_enc (xs : List ByteArray) : xs.map Value.string = (lst xs).map encStr := by
  rw [lst, List.map_map]; rfl

/-- from what slices.Sort and slices.Compact leave to the rising list -/
theorem sort_left {w w1 : World} {g cap n nn q : Nat} {os : Array Obj} {ss : List (List UInt8)} (hown : w1.ownsRow w.heap.size 9 1 (.slice (some ⟨g, 0, none⟩) n cap) n (ss.map encStr)) (hbel : Below w.heap.size w w1) (hbg : w.heap.size ≤ g) (hlen : ss.length = n) :
    (putRow encStr (Sort.ahead (grow (putRow encStr (Sort.ahead w1 nn) g 0 (ss.mergeSort fun x y => decide (x ≤ y)).toArray) os) q) g 0 (Lib.compact (ss.mergeSort fun x y => decide (x ≤ y)) ++ List.replicate (n - (Lib.compact (ss.mergeSort fun x y => decide (x ≤ y))).length) []).toArray).ownsRow w.heap.size 9 1 (.slice (some ⟨g, 0, none⟩) (Lib.compact (ss.mergeSort fun x y => decide (x ≤ y))).length cap) (Lib.compact (ss.mergeSort fun x y => decide (x ≤ y))).length ((Lib.compact (ss.mergeSort fun x y => decide (x ≤ y))).map encStr) ∧
    Below w.heap.size w (putRow encStr (Sort.ahead (grow (putRow encStr (Sort.ahead w1 nn) g 0 (ss.mergeSort fun x y => decide (x ≤ y)).toArray) os) q) g 0 (Lib.compact (ss.mergeSort fun x y => decide (x ≤ y)) ++ List.replicate (n - (Lib.compact (ss.mergeSort fun x y => decide (x ≤ y))).length) []).toArray) := by
  have hl2 : (ss.mergeSort fun x y => decide (x ≤ y)).length = ss.length := List.length_mergeSort ss
  have hle := Lib.compact_length_le (ss.mergeSort fun x y => decide (x ≤ y))
  subst hlen
  rcases hown.2 with ⟨h0, _⟩ | ⟨g', cap', cur, hv, hbase, hb, h1, h2, h3, h4⟩
  · cases h0
  cases hv
  have hs := ownsRow_sorted (n := nn) (os := os) (ts := ss.mergeSort fun x y => decide (x ≤ y)) hl2 hbase hb h1 h2 h3
  have hc := Lib.ownsRow_putRow (q := q) (k := (Lib.compact (ss.mergeSort fun x y => decide (x ≤ y))).length) (ys := Lib.compact (ss.mergeSort fun x y => decide (x ≤ y)) ++ List.replicate (ss.length - (Lib.compact (ss.mergeSort fun x y => decide (x ≤ y))).length) []) hs (by simp; omega) (by omega)
  rw [List.take_left] at hc
  exact ⟨hc, Lib.below_putRow (hbel.grown (grownBy_sorted _) hbel.size (fun j hj => by cases hj; exact hbase)) hbg⟩

set_option maxRecDepth 100000 in
set_option maxHeartbeats 1000000 in
theorem Sort_any (w : World) (A : Option Addr) (ca : Nat) (xs : List ByteArray) (ha : StrsAt w A xs) (hx : xs.length ≤ 20000) :
    Calls Try.prog 33 #[.slice A xs.length ca] w fun e W' => ∃ v, e = .returned v ∧ OwnG W' w.heap.size 9 1 v (sortB xs).length ((sortB xs).map Value.string) ∧ Below w.heap.size w W' := by
  obtain ⟨i0, hi, hz0, hz1, hz2⟩ := info_parts Try.info9
  cases xs with
  | nil =>
    have hS := Lib.hid fun w => Try.slices_Sort_string_none none 0 w
    have hC := Lib.hid fun w => Try.slices_Compact_string_empty none 0 w
    have e0 : sortB [] = [] := by simp [sortB, lst, sortL, Lib.compact, Lib.compactUpTo]
    rw [e0]
    cases A
    all_goals
      go_enter Try.func33, Try.ntmps33
      go_wp2_with (first | (go_at_call 58; refine (hS.out _).mono ?_; rintro e w' ⟨rfl, rfl⟩) | (go_at_call 59; refine (hC.out _).mono ?_; rintro e w' ⟨rfl, rfl⟩))
      go_ret
      exact ⟨.slice none 0 0, rfl, OwnG.nil _ _ _ _, Below.refl _ _⟩
  | cons x l =>
    obtain ⟨b, o, rfl, _⟩ := ha 0 x rfl
    have hr0 := World.ownsRow_nil w w.heap.size 9 1
    have hcs : ∀ j u, ((x :: l).map Value.string)[j]? = some u → w.cell? (Addr.add ⟨b, o, none⟩ j) = some u := by
      intro j u hj
      rw [List.getElem?_map] at hj
      obtain ⟨y, hy, rfl⟩ := Option.map_eq_some_iff.1 hj
      obtain ⟨b2, o2, e, hc⟩ := ha j y hy
      cases e
      have e2 : Addr.add ⟨b, o, none⟩ j = ⟨b, o + j, none⟩ := by
        simp only [Addr.add]
        split
        · subst_vars; rfl
        · simp
      rw [e2]; exact hc
    obtain ⟨N, hN⟩ : ∃ N, (x :: l).length = N := ⟨_, rfl⟩
    have hl1 : ((x :: l).map Value.string).length = N * 1 := by rw [List.length_map]; omega
    have hone : ∀ u ∈ (x :: l).map Value.string, u.oneCell' = true := by
      intro u hu; obtain ⟨y, _, rfl⟩ := List.mem_map.1 hu; rfl
    have hNpos : 1 ≤ N := by simp at hN; omega
    obtain ⟨ss, hss⟩ : ∃ ss, lst (x :: l) = ss := ⟨_, rfl⟩
    have hmap : (x :: l).map Value.string = ss.map encStr := by rw [map_enc, hss]
    have hssl : ss.length = N := by rw [← hss, lst, List.length_map]; exact hN
    have hout : sortB (x :: l) = (Lib.compact (ss.mergeSort fun x y => decide (x ≤ y))).map mk := by rw [sortB, sortL, hss]
    have hl3 := Lib.compact_length_le (ss.mergeSort fun x y => decide (x ≤ y))
    rw [hN] at hx
    rw [hout, List.length_map, List.map_map]
    have hcm : (Value.string ∘ mk) = encStr := rfl
    rw [hcm]
    rw [hmap] at hcs hl1 hone
    rw [hN]
    have HSL := Lib.hid hssl
    clear hN ha hmap hss hout
    obtain ⟨zs, hzs⟩ : ∃ zs, (ss.mergeSort fun x y => decide (x ≤ y)) = zs := ⟨_, rfl⟩
    rw [hzs] at hl3 ⊢
    have hl2 : zs.length = N := by rw [← hzs, List.length_mergeSort]; exact HSL.out
    have HZS := Lib.hid hzs
    clear hzs
    go_enter Try.func33, Try.ntmps33
    go_wp2_with (at_builtin; refine wpList_append_own_at _ rfl _ _ 36 rfl w.heap.size 9 i0 (.string ⟨#[]⟩) 1 16 Try.underlying36 hi hz0 hz1 hz2 rfl (by decide) (.slice none 0 0) 0 [] rfl hr0 ⟨b, o, none⟩ N ca (ss.map encStr) rfl hl1 hcs hone (by unfold maxLen; omega) (by omega) (Nat.le_refl _) ?_; intro v1 w1 hown1 hgrow1 _ _; have hB1 : Below w.heap.size w w1 := (Below.refl _ w).grown hgrow1 (Nat.le_refl _) (fun j hj => by simp [Value.ownBlock] at hj); rw [Nat.zero_add, List.nil_append] at hown1; have hnn : v1 ≠ .slice none 0 0 := (by rintro rfl; rcases hown1.2 with ⟨_, h0⟩ | ⟨_, _, _, h0, _⟩; omega; cases h0); obtain ⟨g, cap, rfl, hbg, hgl, hncap, hcm2, hlen, hH⟩ := Lib.holds_of_ownsRow hown1 hnn)
    have hsort := Try.slices_Sort_string g 0 cap ss w1 hH hgl (by omega)
    rw [hlen, HZS.out] at hsort
    have X := Lib.hid (⟨hown1, hB1, hbg, hgl, hncap, hcm2, hlen, hH⟩ : w1.ownsRow w.heap.size 9 1 (.slice (some ⟨g, 0, none⟩) N cap) N (ss.map encStr) ∧ Below w.heap.size w w1 ∧ w.heap.size ≤ g ∧ g < w1.heap.size ∧ N ≤ cap ∧ cap ≤ maxLen ∧ ss.length = N ∧ Holds encStr w1 g 0 ss.toArray)
    clear hown1 hB1 hH hnn hgrow1 hcs hone hl1
    refine hsort.mono ?_
    rintro e w2 ⟨rfl, nn, os, rfl⟩
    have hH2 : Holds encStr (grow (putRow encStr (Sort.ahead w1 nn) g 0 zs.toArray) os) g 0 zs.toArray :=
      holds_grow encStr _ os g 0 _ (by simpa [putRow, mapBlock, Sort.ahead] using X.out.2.2.2.1) (holds_putRow encStr _ g 0 _ _ (holds_ahead encStr w1 nn g 0 _ X.out.2.2.2.2.2.2.2) (by simp [hl2, HSL.out]))
    have hcomp := Try.slices_Compact_string g 0 cap zs _ hH2 (by omega) (by omega)
    rw [hl2] at hcomp
    clear hH2 hsort
    have hend := Lib.hid fun q => sort_left (nn := nn) (q := q) (os := os) X.out.1 X.out.2.1 X.out.2.2.1 X.out.2.2.2.2.2.2.1
    rw [HZS.out] at hend
    clear X
    generalize grow (putRow encStr (Sort.ahead w1 nn) g 0 zs.toArray) os = w2 at *
    go_wp2_with fail
    refine hcomp.mono ?_
    rintro e w3 ⟨rfl, q, rfl⟩
    have he := Lib.hid (hend.out q)
    go_wp2
    go_ret
    exact ⟨_, rfl, OwnG.of he.out.1, he.out.2⟩
end Go.Proofs.Ytndoloohdloflab
