/- text.Decimal and the reference's: the same digits of every number; no condition but that the number is an int. -/
import Derived.Test.YtndoloohdloflabNum
import Derived.Laws.IdiomStrings
import Derived.Lib.SlBytesRow
namespace Go.Proofs.Ytndoloohdloflab
open Go.RowKit

/-- the digits of a number -/
def decL (u : Nat) : List UInt8 := if u < 10 then [UInt8.ofNat (48 + u)] else decL (u / 10) ++ [UInt8.ofNat (48 + u % 10)]
decreasing_by omega
def decB (n : Int) : ByteArray := if n < 0 then mk (45 :: decL n.natAbs) else mk (decL n.natAbs)
theorem decL_step (u : Nat) : decL u = (if u / 10 = 0 then [] else decL (u / 10)) ++ [UInt8.ofNat (48 + u % 10)] := by
  rw [decL]
  by_cases h : u < 10
  · rw [if_pos h, if_pos (by omega), show u % 10 = u by omega]; rfl
  · rw [if_neg h, if_neg (by omega)]

def arrV (at_ : Nat) (ds : List UInt8) : List Value := List.replicate at_ (.int .u8 0) ++ ds.map fun b => .int .u8 b.toNat
theorem arrV_len (at_ : Nat) (ds : List UInt8) : (arrV at_ ds).length = at_ + ds.length := by simp [arrV]
theorem arrV_set (at_ : Nat) (ds : List UInt8) (b : UInt8) : (arrV (at_ + 1) ds).toArray.setIfInBounds at_ (.int .u8 b.toNat) = (arrV at_ (b :: ds)).toArray := by
  simp only [List.setIfInBounds_toArray]
  congr 1
  simp [arrV, List.replicate_succ']
theorem zero68 (w : World) : (zeroValue 68).run Try.prog w = .ok (.agg (arrV 20 []).toArray) w := by kernel_rfl

theorem und68 : Try.prog.underlying 68 = some (.array (Try.prog.arrayLen 68) (Try.prog.elem 68)) := by kernel_rfl
theorem len68 : Try.prog.arrayLen 68 = 20 := by kernel_rfl
theorem el68 : Try.prog.elem 68 = 5 := by kernel_rfl
theorem size5 (w : World) : (sizeOf 5).run Try.prog w = .ok 1 w := by kernel_rfl

theorem dec_slice (W : World) (B k : Nat) (hk : k < 20) : (Instr.sliceAt 68 (.pointer (some ⟨B, 0, none⟩)) (some (.int .i64 k)) none none).run Try.prog W = .ok (.slice (some ⟨B, k, none⟩) (20 - k) (20 - k)) W := by
  rw [run_sliceAt_array_l W 68 _ und68 .i64 k (by omega) (by rw [len68]; omega), el68, size5, len68]
  have e : (if 20 = (k : Int).toNat then (⟨B, 0, none⟩ : Addr) else Addr.add ⟨B, 0, none⟩ ((k : Int).toNat * 1)) = ⟨B, k, none⟩ := by
    rw [if_neg (by simp; omega)]
    simp only [Addr.add, Int.toNat_natCast, Nat.mul_one]
    split
    · subst_vars; rfl
    · simp
  simp only [Result.andThen, slicedAt, e]
  simp
theorem dec_conv (W : World) (B k : Nat) (l : List UInt8) (hlen : k + l.length = 20) (hb : W.heap[B]? = some (.cells (arrV k l).toArray 68 (0, 0))) :
    (convert 55 9 (.slice (some ⟨B, k, none⟩) (20 - k) (20 - k))).run Try.prog W = .ok (.string ⟨l.toArray⟩) W := by
  have e : 20 - k = l.length := by omega
  rw [e]
  refine run_convert_bytes_back W 55 9 5 ⟨B, k, none⟩ l.length l Try.underlying55 Try.underlying5 Try.underlying9 fun j hj => ?_
  have e2 : Addr.add ⟨B, k, none⟩ j = ⟨B, k + j, none⟩ := by
    simp only [Addr.add]
    split
    · subst_vars; rfl
    · simp
  rw [e2]
  simp [World.cell?, hb, arrV, List.getElem?_append, hj]

set_option maxRecDepth 100000 in
theorem Decimal_any (n : Int) (hn : -9223372036854775808 ≤ n ∧ n ≤ 9223372036854775807) (w : World) :
    Calls Try.prog 15 #[.int .i64 n] w fun e w' => e = .returned (.string (decB n)) ∧ Below w.heap.size w w' := by
  by_cases h0 : n < 0
  · have hw : IntKind.u64.wrap n = n + 18446744073709551616 := by rw [IntKind.wrap_u64]; omega
    have hw2 : IntKind.u64.wrap (-(n + 18446744073709551616)) = -n := by rw [IntKind.wrap_u64]; omega
    have hB0 : (w.alloc (.cells (arrV 20 []).toArray 68)).heap[w.heap.size]? = some (.cells (arrV 20 []).toArray 68 (0, 0)) := World.alloc_heap_new _ _
    go_enter Try.func15, Try.ntmps15
    go_wp2
    go_loopw [4, 5] (fun a u wi => ∃ (j m : Nat) (ds : List UInt8), a = .int .i64 ((j : Int) + 1) ∧ u = .int .u64 m ∧ j + 1 + ds.length = 20 ∧ 1 ≤ j ∧ m < 10 ^ j ∧ Hid (decL n.natAbs = decL m ++ ds) ∧ wi.heap[w.heap.size]? = some (.cells (arrV (j + 1) ds).toArray 68 (0, 0)) ∧ Below w.heap.size w wi) (fun a _ _ => (intOf a).toNat)
    case atStart => exact ⟨19, n.natAbs, [], rfl, by rw [show (n.natAbs : Int) = -n by omega], rfl, by omega, by omega, by simp [Hid], hB0, (Below.refl _ w).alloc (Nat.le_refl _) _⟩
    case round =>
      obtain ⟨j, m, ds, rfl, rfl, hlen, hj, hm, hd, hb, hbel⟩ := hrel
      have hlt : w.heap.size < wr.heap.size := (Array.getElem?_eq_some_iff.1 hb).1
      have wk : IntKind.i64.wrap ((j : Int) + 1 - 1) = j := by rw [IntWalk.i64_in _ (by omega)]; omega
      have hc : wr.cell? ⟨w.heap.size, j, none⟩ = some (.int .u8 0) := by
        simp [World.cell?, hb, arrV, List.getElem?_append]
      have hf : wr.frozen? ⟨w.heap.size, j, none⟩ = false := frozen_of_row wr _ _ _ _ hb
      have p1 : ¬ ((j : Int) + 1 - 1 < 0) := by omega
      have p2 : (j : Int) < 20 := by omega
      have hm19 : m < 10000000000000000000 := Nat.lt_of_lt_of_le hm (by have := Nat.pow_le_pow_right (show 0 < 10 by decide) (show j ≤ 19 by omega); simpa using this)
      have wu : IntKind.u64.wrap ((m : Int) / 10) = (m : Int) / 10 := by rw [IntKind.wrap_u64]; omega
      obtain ⟨dg, hdg⟩ : ∃ dg : UInt8, UInt8.ofNat (48 + m % 10) = dg := ⟨_, rfl⟩
      have hst := decL_step m
      have hd8 : ((UInt8.ofNat (48 + m % 10)).toNat : Int) = 48 + (m : Int) % 10 := by
        rw [UInt8.toNat_ofNat']; omega
      rw [hdg] at hst hd8
      clear hdg
      have hb1 : (wr.setCell ⟨w.heap.size, j, none⟩ (.int .u8 (48 + (m : Int) % 10))).heap[w.heap.size]? = some (.cells (arrV j (dg :: ds)).toArray 68 (0, 0)) := by
        rw [heap_setCell_same wr _ _ _ _ _ hb, ← hd8, arrV_set]
      have hbel1 := hbel.setCell (p := ⟨w.heap.size, j, none⟩) (Nat.le_refl _) (.int .u8 (48 + (m : Int) % 10))
      have HS := Lib.hid hst
      have HB1 := Lib.hid hb1
      have HL := Lib.hid hbel1
      have HM := Lib.hid hm
      clear hst hb1 hbel1 hd8 hm
      by_cases hz : m / 10 = 0
      · have hz2 : ((m : Int) / 10 == 0) = true := by simp; omega
        obtain ⟨i, rfl⟩ : ∃ i, j = i + 1 := ⟨j - 1, by omega⟩
        have hsl := fun W => dec_slice W w.heap.size i (by omega)
        have wk2 : IntKind.i64.wrap (((i + 1 : Nat) : Int) - 1) = i := by rw [IntWalk.i64_in _ (by omega)]; omega
        have hc2 : (wr.setCell ⟨w.heap.size, i + 1, none⟩ (.int .u8 (48 + (m : Int) % 10))).cell? ⟨w.heap.size, i, none⟩ = some (.int .u8 0) := by
          simp [World.cell?, HB1.out, arrV, List.getElem?_append]
        have hf2 : (wr.setCell ⟨w.heap.size, i + 1, none⟩ (.int .u8 (48 + (m : Int) % 10))).frozen? ⟨w.heap.size, i, none⟩ = false := frozen_of_row _ _ _ _ _ HB1.out
        have hb2 : ((wr.setCell ⟨w.heap.size, i + 1, none⟩ (.int .u8 (48 + (m : Int) % 10))).setCell ⟨w.heap.size, i, none⟩ (.int .u8 45)).heap[w.heap.size]? = some (.cells (arrV i (45 :: dg :: ds)).toArray 68 (0, 0)) := by
          rw [heap_setCell_same _ _ _ _ _ _ HB1.out, show (45 : Int) = ((45 : UInt8).toNat : Int) from rfl, arrV_set]
        have hcv := dec_conv _ _ _ _ (by simp; omega) hb2
        have hbel2 := Lib.hid (HL.out.setCell (p := ⟨w.heap.size, i, none⟩) (Nat.le_refl _) (.int .u8 45))
        have p3 : (i : Int) < 20 := by omega
        have hfin : (⟨(45 :: dg :: ds).toArray⟩ : ByteArray) = decB n := by
          unfold decB
          rw [if_pos (by omega), hd.out, HS.out, if_pos hz]
          rfl
        clear hb2
        go_wp2
        go_ret
        exact ⟨rfl, hbel2.out⟩
      · have hz2 : ((m : Int) / 10 == 0) = false := by simp; omega
        go_wp2
        refine ⟨⟨j - 1, m / 10, dg :: ds, by congr 1; omega, by congr 1, by simp; omega, ?_, ?_, ?_, ?_, HL.out⟩, by simp [intOf]⟩
        · have := HM.out
          rcases Nat.lt_or_ge 1 j with h | h
          · omega
          · rw [show j = 1 by omega] at this; omega
        · have := HM.out
          obtain ⟨i, rfl⟩ : ∃ i, j = i + 1 := ⟨j - 1, by omega⟩
          rw [Nat.pow_succ] at this
          simp only [Nat.add_sub_cancel]
          omega
        · unfold Hid
          rw [hd.out, HS.out, if_neg hz]
          simp
        · rw [show j - 1 + 1 = j by omega]
          exact HB1.out
  · have hw : IntKind.u64.wrap n = n := by rw [IntKind.wrap_u64]; omega
    have hB0 : (w.alloc (.cells (arrV 20 []).toArray 68)).heap[w.heap.size]? = some (.cells (arrV 20 []).toArray 68 (0, 0)) := World.alloc_heap_new _ _
    go_enter Try.func15, Try.ntmps15
    go_wp2
    go_loopw [4, 5] (fun a u wi => ∃ (j m : Nat) (ds : List UInt8), a = .int .i64 ((j : Int) + 1) ∧ u = .int .u64 m ∧ j + 1 + ds.length = 20 ∧ 1 ≤ j ∧ m < 10 ^ j ∧ Hid (decL n.natAbs = decL m ++ ds) ∧ wi.heap[w.heap.size]? = some (.cells (arrV (j + 1) ds).toArray 68 (0, 0)) ∧ Below w.heap.size w wi) (fun a _ _ => (intOf a).toNat)
    case atStart => exact ⟨19, n.natAbs, [], rfl, by rw [show (n.natAbs : Int) = n by omega], rfl, by omega, by omega, by simp [Hid], hB0, (Below.refl _ w).alloc (Nat.le_refl _) _⟩
    case round =>
      obtain ⟨j, m, ds, rfl, rfl, hlen, hj, hm, hd, hb, hbel⟩ := hrel
      have hlt : w.heap.size < wr.heap.size := (Array.getElem?_eq_some_iff.1 hb).1
      have wk : IntKind.i64.wrap ((j : Int) + 1 - 1) = j := by rw [IntWalk.i64_in _ (by omega)]; omega
      have hc : wr.cell? ⟨w.heap.size, j, none⟩ = some (.int .u8 0) := by
        simp [World.cell?, hb, arrV, List.getElem?_append]
      have hf : wr.frozen? ⟨w.heap.size, j, none⟩ = false := frozen_of_row wr _ _ _ _ hb
      have p1 : ¬ ((j : Int) + 1 - 1 < 0) := by omega
      have p2 : (j : Int) < 20 := by omega
      have hm19 : m < 10000000000000000000 := Nat.lt_of_lt_of_le hm (by have := Nat.pow_le_pow_right (show 0 < 10 by decide) (show j ≤ 19 by omega); simpa using this)
      have wu : IntKind.u64.wrap ((m : Int) / 10) = (m : Int) / 10 := by rw [IntKind.wrap_u64]; omega
      obtain ⟨dg, hdg⟩ : ∃ dg : UInt8, UInt8.ofNat (48 + m % 10) = dg := ⟨_, rfl⟩
      have hst := decL_step m
      have hd8 : ((UInt8.ofNat (48 + m % 10)).toNat : Int) = 48 + (m : Int) % 10 := by
        rw [UInt8.toNat_ofNat']; omega
      rw [hdg] at hst hd8
      clear hdg
      have hb1 : (wr.setCell ⟨w.heap.size, j, none⟩ (.int .u8 (48 + (m : Int) % 10))).heap[w.heap.size]? = some (.cells (arrV j (dg :: ds)).toArray 68 (0, 0)) := by
        rw [heap_setCell_same wr _ _ _ _ _ hb, ← hd8, arrV_set]
      have hbel1 := hbel.setCell (p := ⟨w.heap.size, j, none⟩) (Nat.le_refl _) (.int .u8 (48 + (m : Int) % 10))
      have HS := Lib.hid hst
      have HB1 := Lib.hid hb1
      have HL := Lib.hid hbel1
      have HM := Lib.hid hm
      clear hst hb1 hbel1 hd8 hm
      by_cases hz : m / 10 = 0
      · have hz2 : ((m : Int) / 10 == 0) = true := by simp; omega
        have hsl := fun W => dec_slice W w.heap.size j (by omega)
        have hcv := dec_conv _ _ _ _ (by simp; omega) HB1.out
        have hfin : (⟨(dg :: ds).toArray⟩ : ByteArray) = decB n := by
          unfold decB
          rw [if_neg (by omega), hd.out, HS.out, if_pos hz]
          rfl
        go_wp2
        go_ret
        exact ⟨rfl, HL.out⟩
      · have hz2 : ((m : Int) / 10 == 0) = false := by simp; omega
        go_wp2
        refine ⟨⟨j - 1, m / 10, dg :: ds, by congr 1; omega, by congr 1, by simp; omega, ?_, ?_, ?_, ?_, HL.out⟩, by simp [intOf]⟩
        · have := HM.out
          rcases Nat.lt_or_ge 1 j with h | h
          · omega
          · rw [show j = 1 by omega] at this; omega
        · have := HM.out
          obtain ⟨i, rfl⟩ : ∃ i, j = i + 1 := ⟨j - 1, by omega⟩
          rw [Nat.pow_succ] at this
          simp only [Nat.add_sub_cancel]
          omega
        · unfold Hid
          rw [hd.out, HS.out, if_neg hz]
          simp
        · rw [show j - 1 + 1 = j by omega]
          exact HB1.out
end Go.Proofs.Ytndoloohdloflab
