/- How many backslashes stand at a text's end, whether a text is blank, and a line without its comment; condition: texts that lie in memory. -/
import Derived.Test.YtndoloohdloflabDoorTrim
import Derived.Test.YtndoloohdloflabDoorBuilder
import Derived.Maps.AppendAt
import Derived.OwnWalk
import Derived.Deep.AppendLies
namespace Go.Proofs.YtndoloohdloflabDoor
open Go.RowKit

theorem slice_succ {w : World} {B : Nat} {e : TypeId} {v : Value} {n : Nat} {xs : List Value} (h : w.ownsRow B e 1 v (n + 1) xs) : ∃ A k, v = .slice A (n + 1) k := by
  rcases h.2 with ⟨_, h0⟩ | ⟨g, cap, cur, hv, _⟩
  · omega
  · exact ⟨_, _, hv⟩

set_option maxHeartbeats 2000000 in
set_option maxRecDepth 100000 in
theorem WriteByte_any (B b : Nat) (bs : List Value) (c : Int) (w : World) (h : Lib.IsBuilder 45 5 B b bs w) (hlen : bs.length ≤ 140737488300000) (hBw : B ≤ w.heap.size) :
    Calls Tryd.prog 24 #[.pointer (some ⟨b, 0, none⟩), .int .u8 c] w fun e w' => e = .returned .nilIface ∧ (Lib.BuilderAt 45 5 B b (.pointer (some ⟨b, 0, none⟩)) (bs ++ [.int .u8 c]) w' ∧ Below B w w') := by
  obtain ⟨i0, hi, hz0, hz1, hz2⟩ := info_parts (show (Tryd.prog.info? 5).map (fun i => (i.zero, i.size, i.bytes)) = some (some (.int .u8 0), 1, 1) by kernel_rfl)
  go_enter Tryd.func24, Tryd.ntmps24
  go_wp2_with (go_at_call 39; refine (copyCheck_any B b bs _ h).mono ?_)
  rintro e w1 ⟨rfl, h1, hb1⟩
  obtain ⟨hB, v, hbk, hown, hne⟩ := h1
  obtain ⟨A, k, rfl⟩ : ∃ A k, v = .slice A bs.length k := by
    rcases hown.2 with ⟨hv, h0⟩ | ⟨g, cap, cur, hv, _⟩
    · exact ⟨none, 0, by rw [hv, h0]⟩
    · exact ⟨_, _, hv⟩
  have hlt : b < w1.heap.size := by
    rcases Nat.lt_or_ge b w1.heap.size with h' | h'
    · exact h'
    · simp [Array.getElem?_eq_none h'] at hbk
  have c0 : w1.cell? ⟨b, 0, none⟩ = some (.pointer (some ⟨b, 0, none⟩)) := by rw [Lib.cell_of_heap hbk]; rfl
  have c1 : w1.cell? ⟨b, 1, none⟩ = some (.slice A bs.length k) := by rw [Lib.cell_of_heap hbk]; rfl
  have HO := Lib.hid hown
  have HNE := Lib.hid hne
  have HBK := Lib.hid hbk
  clear hown hbk hne
  have hs1 := hb1.size
  go_wp2_with (at_builtin; refine wpList_append_own_at _ rfl _ _ 43 rfl B 5 i0 (.int .u8 0) 1 1 Tryd.underlying43 hi hz0 hz1 hz2 rfl (by decide) (.slice A bs.length k) bs.length bs rfl (HO.out.alloc _) ⟨_, 0, none⟩ 1 1 [.int .u8 c] rfl rfl (cell_one_new _ _ _) (by simp [Value.oneCell']) (by unfold maxLen; omega) (by omega) (by simp; omega) ?_; intro v' w2 hown' hgrow _ _; obtain ⟨A', k', rfl⟩ := slice_succ hown'; have hlt2 : b < (w1.alloc (.cells #[.int .u8 c] 5)).heap.size := (by simp; omega); have hb2 : w2.heap[b]? = some (.cells #[.pointer (some ⟨b, 0, none⟩), .slice A bs.length k] 45 (0, 0)) := (by rw [hgrow.block b hlt2 (fun e => HNE.out e.symm), Below.heap_alloc _ _ _ hlt]; exact HBK.out); have d0 : w2.cell? ⟨b, 0, none⟩ = some (.pointer (some ⟨b, 0, none⟩)) := (by rw [Lib.cell_of_heap hb2]; rfl); have d1 : w2.cell? ⟨b, 1, none⟩ = some (.slice A bs.length k) := (by rw [Lib.cell_of_heap hb2]; rfl); have f1 : w2.frozen? ⟨b, 1, none⟩ = false := Lib.frozen_of_heap hb2 1; have HO2 := Lib.hid hown'; have HG2 := Lib.hid hgrow; have HB2 := Lib.hid hb2; clear hown' hgrow hb2)
  go_ret
  refine ⟨rfl, ?_, ?_⟩
  · exact Lib.BuilderAt.put (T := 45) (e := 5) hB HB2.out (bs' := bs ++ [.int .u8 c]) (by simpa using HO2.out) (by decide)
  · exact ((hb1.alloc (by omega) _).grown HG2.out (by simp; omega) (fun j hj => (HO.out.lt j hj).1)).setCell (p := ⟨b, 1, none⟩) hB _

/-- how many backslashes stand at the end -/
def sl (l : List UInt8) : Nat := (l.reverse.takeWhile (· == 92)).length
theorem sl_snoc (l : List UInt8) (x : UInt8) : sl (l ++ [x]) = if x == 92 then sl l + 1 else 0 := by
  unfold sl
  rw [List.reverse_append, List.reverse_singleton, List.singleton_append, List.takeWhile_cons]
  split <;> simp
theorem sl_le (l : List UInt8) : sl l ≤ l.length := by
  unfold sl
  have := (List.takeWhile_sublist (l := l.reverse) (· == 92)).length_le
  simpa using this

set_option maxRecDepth 100000 in
theorem slashes_any (s : ByteArray) (w : World) (hs : s.size ≤ 140737488351232) :
    Calls Tryd.prog 15 #[.string s] w fun e w' => e = .returned (.int .i64 (sl s.data.toList)) ∧ w' = w := by
  obtain ⟨R, hR⟩ : ∃ R, sl s.data.toList = R := ⟨_, rfl⟩
  rw [hR]
  have HR := Lib.hid hR
  have hRb : R ≤ s.size := by rw [← hR]; simpa using sl_le s.data.toList
  clear hR
  go_enter Tryd.func15, Tryd.ntmps15
  go_wp2
  go_step3
  go_wp2
  go_step3
  go_wp2
  go_loopw [3, 4] (fun n i wi => ∃ k : Nat, i = .int .i64 ((k : Int) - 1) ∧ n = .int .i64 ((s.size - k : Nat) : Int) ∧ k ≤ s.size ∧ Hid (sl (s.data.toList.take k) + (s.size - k) = R) ∧ wi = w) (fun _ i _ => (intOf i + 1).toNat)
  case atStart => exact ⟨s.size, rfl, by simp, Nat.le_refl _, by unfold Hid; rw [List.take_of_length_le (by simp), HR.out]; omega, rfl⟩
  case round =>
    obtain ⟨k, rfl, rfl, hk, hr, rfl⟩ := hrel
    cases k with
    | zero =>
      have hR2 : (((s.size - 0 : Nat)) : Int) = (R : Int) := by
        have := hr.out
        rw [List.take_zero] at this
        simp only [sl, List.reverse_nil, List.takeWhile_nil, List.length_nil] at this
        omega
      rw [hR2]
      have e : ((0 : Nat) : Int) - 1 = -1 := by omega
      rw [e]
      clear hr hR2 e
      go_wp2
      rw [Exit.noGoto_ret]
      go_ret
      exact ⟨rfl, rfl⟩
    | succ j =>
      have e : ((j + 1 : Nat) : Int) - 1 = (j : Int) := by omega
      rw [e]
      obtain ⟨x, hx⟩ : ∃ x, s[j]'(by omega) = x := ⟨_, rfl⟩
      obtain ⟨nv, hnv⟩ : ∃ nv, s.size - (j + 1) = nv := ⟨_, rfl⟩
      have hsn : sl (s.data.toList.take (j + 1)) = if x == 92 then sl (s.data.toList.take j) + 1 else 0 := by
        rw [take_snoc s j (by omega), hx, sl_snoc]
      rw [hnv]
      have q1 : (0 : Int) ≤ j := by omega
      have q2 : (j : Int) < s.size := by omega
      have q3 : j < s.size := by omega
      by_cases h92 : x = 92
      · have hb : ((x.toNat : Int) != 92) = false := by rw [h92]; rfl
        rw [if_pos (by rw [h92]; rfl)] at hsn
        have hr2 : Hid (sl (s.data.toList.take j) + (s.size - j) = R) := by unfold Hid; have := hr.out; omega
        have hnv2 : s.size - j = nv + 1 := by omega
        clear hsn hr e
        go_wp2
        exact ⟨⟨j, rfl, by rw [hnv2]; rfl, by omega, hr2, trivial⟩, by simp [intOf]⟩
      · have hb : ((x.toNat : Int) != 92) = true := by rw [bne_iff_ne]; intro h; exact h92 (UInt8.toNat_inj.1 (by show x.toNat = 92; omega))
        rw [if_neg (by simpa using h92)] at hsn
        have hR2 : (nv : Int) = (R : Int) := by have := hr.out; omega
        rw [hR2]
        clear hsn hr e hR2
        go_wp2
        rw [Exit.noGoto_ret]
        go_ret
        exact ⟨rfl, rfl⟩
end Go.Proofs.YtndoloohdloflabDoor
