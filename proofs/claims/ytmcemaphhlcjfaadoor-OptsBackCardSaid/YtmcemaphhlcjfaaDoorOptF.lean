/- Flags of options, the program's and the reference's; conditions: lists that lie in memory, of at most 20,000 bytes. -/
import Derived.Test.YtmcemaphhlcjfaaDoorOptK
import Derived.Test.YtmcemaphhlcjfaaDoorOptS
import Derived.Test.YtmcemaphhlcjfaaDoorOptT
import Derived.Lib.SlBytesConst
namespace Go.Proofs.YtmcemaphhlcjfaaDoor
open Go.RowKit Go.Maps

def L9 : List UInt8 := [66, 101, 105, 107, 110, 113, 114, 115, 116]
def ltr (bs : Nat → Bool) (k : Nat) : List UInt8 := (L9.take k).filter (fun c => bs (plN c))
/-- what Flags tells -/
def flagsL (bs : Nat → Bool) (vs : List ByteArray) : List UInt8 :=
  if vs.length = 0 then ltr bs 9 else (if ltr bs 9 = [] then [] else ltr bs 9 ++ [32]) ++ [45, 45, 32] ++ (joinB vs).data.toList
theorem l9_at {k : Nat} (h : k < 9) : ∃ c n, L9[k]? = some c ∧ plN c = n ∧ n ≠ 0 ∧ n < 10 := by
  have : k = 0 ∨ k = 1 ∨ k = 2 ∨ k = 3 ∨ k = 4 ∨ k = 5 ∨ k = 6 ∨ k = 7 ∨ k = 8 := by omega
  rcases this with rfl | rfl | rfl | rfl | rfl | rfl | rfl | rfl | rfl <;> exact ⟨_, _, rfl, rfl, by decide, by decide⟩
theorem ltr_step {bs : Nat → Bool} {k : Nat} {c : UInt8} (h : L9[k]? = some c) : ltr bs (k + 1) = ltr bs k ++ (if bs (plN c) then [c] else []) := by
  unfold ltr
  obtain ⟨hk, he⟩ := List.getElem?_eq_some_iff.1 h
  rw [List.take_succ_eq_append_getElem hk, List.filter_append, he]
  cases hb : bs (plN c) <;> simp [hb]
theorem ltr_nine (bs : Nat → Bool) {k : Nat} (h : 9 ≤ k) : ltr bs k = ltr bs 9 := by
  unfold ltr; rw [List.take_of_length_le (by simpa [L9] using h), List.take_of_length_le (by simp [L9])]
theorem conv_one (W : World) (c : UInt8) : (convert 79 9 (.slice (some ⟨W.heap.size, 0, none⟩) 1 1)).run Tryd.prog (W.alloc (.cells #[.int .u8 c.toNat] 5)) = .ok (.string ⟨#[c]⟩) (W.alloc (.cells #[.int .u8 c.toNat] 5)) := by
  refine run_convert_bytes_back _ 79 9 5 ⟨W.heap.size, 0, none⟩ 1 [c] Tryd.underlying79 Tryd.underlying5 Tryd.underlying9 fun j hj => ?_
  have hj0 : j = 0 := by simpa using hj
  subst hj0
  show World.cell? _ ⟨W.heap.size, 0, none⟩ = _
  rw [cell_of_row _ _ _ _ _ _ (heap_alloc_last W _)]
  rfl
theorem ba_snoc (s : ByteArray) (t : List UInt8) : (s ++ (⟨t.toArray⟩ : ByteArray)).data.toList = s.data.toList ++ t := by simp
theorem str_ne_nil (s : ByteArray) (b : Bool) (h : decide (s.data.toList = []) = b) : (s.toList == []) = b := by
  rw [ba_toList, ← h]
  by_cases q : s.data.toList = []
  · rw [decide_eq_true q, q]; rfl
  · rw [decide_eq_false q, beq_eq_false_iff_ne]; exact q
theorem opRow_bs (j : Int) (bs : Nat → Bool) (nv : Bool) (vf vg vv : Value) (n : Nat) (h0 : n ≠ 0) (h : n < 10) : (opRow j bs nv vf vg vv)[n]? = some (.bool (bs n)) := by
  have : n = 1 ∨ n = 2 ∨ n = 3 ∨ n = 4 ∨ n = 5 ∨ n = 6 ∨ n = 7 ∨ n = 8 ∨ n = 9 := by omega
  rcases this with rfl | rfl | rfl | rfl | rfl | rfl | rfl | rfl | rfl <;> rfl
/-- the rounds of Flags -/
def FRel (bs : Nat → Bool) (w0 : World) (s i : Value) (wi : World) : Prop := ∃ (k : Nat) (S : ByteArray), i = .int .i64 k ∧ s = .string S ∧ k ≤ 9 ∧ S.data.toList = ltr bs k ∧ Below w0.heap.size w0 wi
theorem FRel.next0 {bs : Nat → Bool} {w0 wi : World} {k : Nat} {S : ByteArray} {c : UInt8} (hk : k < 9) (hc : L9[k]? = some c) (hb : bs (plN c) = false) (hs : S.data.toList = ltr bs k) (hw : Below w0.heap.size w0 wi) :
    FRel bs w0 (.string S) (.int .i64 ((k : Int) + 1)) wi := ⟨k + 1, S, rfl, rfl, hk, by rw [ltr_step hc, hb, hs]; simp, hw⟩
theorem FRel.next1 {bs : Nat → Bool} {w0 wi : World} {k : Nat} {S : ByteArray} {c : UInt8} (hk : k < 9) (hc : L9[k]? = some c) (hb : bs (plN c) = true) (hs : S.data.toList = ltr bs k) (hw : Below w0.heap.size w0 wi) :
    FRel bs w0 (.string (S ++ ⟨#[c]⟩)) (.int .i64 ((k : Int) + 1)) wi := ⟨k + 1, _, rfl, rfl, hk, by rw [ltr_step hc, hb, if_pos rfl, ← hs]; exact ba_snoc S [c], hw⟩

theorem ltr_size {bs : Nat → Bool} {k : Nat} {S : ByteArray} (h : S.data.toList = ltr bs k) : S.size ≤ 9 := by
  have h1 : S.size = S.data.toList.length := (Array.length_toList ..).symm
  have h2 : (ltr bs k).length ≤ 9 := by
    unfold ltr
    refine Nat.le_trans (List.length_filter_le ..) ?_
    rw [List.length_take]; exact Nat.min_le_right _ _
  rw [h1, h]; exact h2
theorem join_size (xs : List ByteArray) : (joinB xs).size ≤ totL xs := by
  unfold joinB; rw [← restJ_join]
  have := restJ_len xs true
  simpa [mk, ByteArray.size] using this
theorem u8_at {k : Nat} {c : UInt8} (h : k < 9) (hc : L9[k]? = some c) : (#[Value.int .u8 66, .int .u8 101, .int .u8 105, .int .u8 107, .int .u8 110, .int .u8 113, .int .u8 114, .int .u8 115, .int .u8 116] : Array Value)[k]? = some (.int .u8 c.toNat) := by
  have : k = 0 ∨ k = 1 ∨ k = 2 ∨ k = 3 ∨ k = 4 ∨ k = 5 ∨ k = 6 ∨ k = 7 ∨ k = 8 := by omega
  rcases this with rfl | rfl | rfl | rfl | rfl | rfl | rfl | rfl | rfl <;> (cases hc; rfl)
theorem bl_at {bs : Nat → Bool} {k : Nat} {c : UInt8} (h : k < 9) (hc : L9[k]? = some c) : (#[Value.bool (bs 9), .bool (bs 7), .bool (bs 6), .bool (bs 1), .bool (bs 2), .bool (bs 4), .bool (bs 8), .bool (bs 5), .bool (bs 3)] : Array Value)[k]? = some (.bool (bs (plN c))) := by
  have : k = 0 ∨ k = 1 ∨ k = 2 ∨ k = 3 ∨ k = 4 ∨ k = 5 ∨ k = 6 ∨ k = 7 ∨ k = 8 := by omega
  rcases this with rfl | rfl | rfl | rfl | rfl | rfl | rfl | rfl | rfl <;> (cases hc; rfl)
theorem l9_ext {k : Nat} {c : UInt8} (h : k < 9) (hc : L9[k]? = some c) : (⟨#[66, 101, 105, 107, 110, 113, 114, 115, 116]⟩ : ByteArray).extract k (k + 1) = ⟨#[c]⟩ := by
  have : k = 0 ∨ k = 1 ∨ k = 2 ∨ k = 3 ∨ k = 4 ∨ k = 5 ∨ k = 6 ∨ k = 7 ∨ k = 8 := by omega
  rcases this with rfl | rfl | rfl | rfl | rfl | rfl | rfl | rfl | rfl <;> (cases hc; rfl)

set_option maxRecDepth 100000 in
set_option maxHeartbeats 4000000 in
theorem Flags_any (w : World) (j : Int) (bs : Nat → Bool) (nv : Bool) (vf vg : Value) (A : Option Addr) (ca : Nat) (vs : List ByteArray) (hA : StrsAt w A vs) (hca : vs.length ≤ ca) (hN : vs.length ≤ 1000) (hlen : (joinB vs).size ≤ 1000000) :
    Calls Tryd.prog 27 #[.agg (opRow j bs nv vf vg (.slice A vs.length ca))] w fun e w' => e = .returned (.string (mk (flagsL bs vs))) ∧ Below w.heap.size w w' := by
  obtain ⟨R, hR⟩ : ∃ R, mk (flagsL bs vs) = R := ⟨_, rfl⟩
  rw [hR]
  have hfl : ∀ T : ByteArray, T.data.toList = flagsL bs vs → T = R := fun T h => by rw [← hR, ← h]; rfl
  have HFL := Lib.hid hfl
  have HJ := Lib.hid fun (wi : World) (hb : Below w.heap.size w wi) => Join54_any wi A ca vs (fun j x hj => by
    obtain ⟨b, o, hA2, hc⟩ := hA j x hj
    exact ⟨b, o, hA2, (hb.cell (p := ⟨b, o + j, none⟩) (World.block_lt_of_cell? _ _ hc)).trans hc⟩) hca (by omega) (by omega)
  obtain ⟨J, hJ⟩ : ∃ J, joinB vs = J := ⟨_, rfl⟩
  have hJz : J.size ≤ 1000000 := by rw [← hJ]; exact hlen
  have HFLE : Hid (flagsL bs vs = if vs.length = 0 then ltr bs 9 else (if ltr bs 9 = [] then [] else ltr bs 9 ++ [32]) ++ [45, 45, 32] ++ J.data.toList) := by unfold Hid flagsL; rw [hJ]
  obtain ⟨N, hNN⟩ : ∃ N, vs.length = N := ⟨_, rfl⟩
  rw [hNN, hJ] at HJ
  rw [hNN] at hN hca HFLE ⊢
  clear hR hfl hJ hNN hA hlen
  have hrow := heap_alloc_last w (.cells (opRow j bs nv vf vg (.slice A N ca)) 47)
  have hb1 : Below w.heap.size w (w.alloc (.cells (opRow j bs nv vf vg (.slice A N ca)) 47)) := (Below.refl _ w).alloc (Nat.le_refl _) _
  have hs1 : (w.alloc (.cells (opRow j bs nv vf vg (.slice A N ca)) 47)).heap.size = w.heap.size + 1 := World.size_alloc ..
  obtain ⟨w1, hw1⟩ : ∃ w1, w.alloc (.cells (opRow j bs nv vf vg (.slice A N ca)) 47) = w1 := ⟨_, rfl⟩
  rw [hw1] at hrow hb1 hs1
  obtain ⟨ob, hob⟩ : ∃ ob, w.heap.size = ob := ⟨_, rfl⟩
  have HOB := Lib.hid hob
  have HB1 := Lib.hid hb1
  have HS1 := Lib.hid hs1
  unfold opRow at hw1 ⊢
  go_enter Tryd.func27, Tryd.ntmps27
  go_upto_region 2 with fail
  try rw [hw1]
  try rw [hob]
  rw [hob] at hrow

  have hcv9 : (convert 79 79 (.slice (some ⟨w1.heap.size, 0, none⟩) 9 9)).run Tryd.prog (w1.alloc (.cells #[.int .u8 66, .int .u8 101, .int .u8 105, .int .u8 107, .int .u8 110, .int .u8 113, .int .u8 114, .int .u8 115, .int .u8 116] 5)) = .ok (.slice (some ⟨w1.heap.size, 0, none⟩) 9 9) (w1.alloc (.cells #[.int .u8 66, .int .u8 101, .int .u8 105, .int .u8 107, .int .u8 110, .int .u8 113, .int .u8 114, .int .u8 115, .int .u8 116] 5 (9, 10))) := Lib.run_convert_bytes_const w1 79 5 #[.int .u8 66, .int .u8 101, .int .u8 105, .int .u8 107, .int .u8 110, .int .u8 113, .int .u8 114, .int .u8 115, .int .u8 116] 9 9 Tryd.underlying79 Tryd.underlying5
  have HROW := Lib.hid hrow
  clear hw1 hob hb1 hs1 hrow
  go_wp2
  obtain ⟨lb, hlb⟩ : ∃ lb, w1.heap.size = lb := ⟨_, rfl⟩
  rw [hlb]
  have hl2 := heap_alloc_last w1 (.cells #[.int .u8 66, .int .u8 101, .int .u8 105, .int .u8 107, .int .u8 110, .int .u8 113, .int .u8 114, .int .u8 115, .int .u8 116] 5 (9, 10))
  have hb2 : Below w.heap.size w (w1.alloc (.cells #[.int .u8 66, .int .u8 101, .int .u8 105, .int .u8 107, .int .u8 110, .int .u8 113, .int .u8 114, .int .u8 115, .int .u8 116] 5 (9, 10))) := HB1.out.alloc HB1.out.size _
  have hr2 : (w1.alloc (.cells #[.int .u8 66, .int .u8 101, .int .u8 105, .int .u8 107, .int .u8 110, .int .u8 113, .int .u8 114, .int .u8 115, .int .u8 116] 5 (9, 10))).heap[ob]? = some (.cells (opRow j bs nv vf vg (.slice A N ca)) 47 (0, 0)) := by
    rw [Below.heap_alloc _ _ _ (by rw [← HOB.out]; have := HS1.out; omega)]; exact HROW.out
  obtain ⟨w2, hw2⟩ : ∃ w2, w1.alloc (.cells #[.int .u8 66, .int .u8 101, .int .u8 105, .int .u8 107, .int .u8 110, .int .u8 113, .int .u8 114, .int .u8 115, .int .u8 116] 5 (9, 10)) = w2 := ⟨_, rfl⟩
  rw [hw2] at hl2 hb2 hr2 ⊢
  rw [hlb] at hl2
  have HL2 := Lib.hid hl2
  have HR2 := Lib.hid hr2
  have HB2 := Lib.hid hb2
  clear hcv9 hl2 hr2 hb2 hw2 hlb HROW HB1 HS1
  go_loopw [3, 9] (fun s i wi => Hid (FRel bs w2 s i wi)) (fun _ i _ => 9 - (intOf i).toNat)
  case atStart => exact ⟨0, ⟨#[]⟩, rfl, rfl, Nat.zero_le _, rfl, Below.refl _ _⟩
  case round =>
    obtain ⟨k, S, rfl, rfl, hk, hs, hb⟩ := hrel.out
    clear hrel
    have hS9 : S.size ≤ 9 := ltr_size hs
    have k32 : (⟨#[32]⟩ : ByteArray).size = 1 := rfl
    have k45 : (⟨#[45, 45, 32]⟩ : ByteArray).size = 3 := rfl
    have HS := Lib.hid hs
    have HB := Lib.hid hb
    have hrw := (hb.block ob (lt_of_block HR2.out)).trans HR2.out
    have hlw := (hb.block lb (lt_of_block HL2.out)).trans HL2.out
    by_cases hlt : k < 9
    · obtain ⟨c, n, hc, hn, hn0, hn9⟩ := l9_at hlt
      have hcl : wr.cell? ⟨lb, k, none⟩ = some (.int .u8 c.toNat) := by
        rw [cell_of_row _ _ _ _ _ _ hlw]
        exact u8_at hlt hc
      have hcn := (rowo hrw (opRow_bs j bs nv vf vg (.slice A N ca) n hn0 hn9)).1
      have HPC := Lib.hid (show Calls Tryd.prog 53 #[.pointer (some ⟨ob, 0, none⟩), .int .u8 c.toNat] wr fun e w' => e = .returned (.pointer (some ⟨ob, n, none⟩)) ∧ w' = wr from by
        have := place_any ob c wr
        rw [hn] at this
        unfold plV at this
        rwa [if_neg hn0] at this)
      have HC := Lib.hid hc
      have kc1 : (⟨#[c]⟩ : ByteArray).size = 1 := rfl
      have HN := Lib.hid hn
      have q1 : (k : Int) < 9 := by omega
      have wk : IntKind.i64.wrap ((k : Int) + 1) = (k : Int) + 1 := IntWalk.i64_in _ (by omega)
      cases hbn : bs n
      · rw [hbn] at hcn
        have HX := Lib.hid (FRel.next0 hlt hc (by rw [hn]; exact hbn) hs hb)
        clear hs hb hrw hlw hc hn hbn hn0 hn9
        go_wp2_with fail
        refine HPC.out.mono ?_
        rintro e w' ⟨rfl, hw'⟩
        obtain rfl := hw'.symm
        go_wp2
        exact ⟨HX, by simp [intOf]; omega⟩
      · rw [hbn] at hcn
        have hcv := conv_one wr c
        have HX := Lib.hid (FRel.next1 hlt hc (by rw [hn]; exact hbn) hs (hb.alloc hb.size (.cells #[.int .u8 c.toNat] 5)))
        clear hs hb hrw hlw hc hn hbn hn0 hn9
        go_wp2_with fail
        refine HPC.out.mono ?_
        rintro e w' ⟨rfl, hw'⟩
        obtain rfl := hw'.symm
        go_wp2
        exact ⟨HX, by simp [intOf]; omega⟩
    · have q1 : ¬ (k : Int) < 9 := by omega
      obtain rfl : k = 9 := by omega
      have h13 := (rowo hrw (j := 13) (v := .slice A N ca) rfl).1
      have HBW := Lib.hid (HB2.out.trans (hb.mono HB2.out.size))
      by_cases h0 : N = 0
      · have n0 : ((N : Int) == 0) = true := by rw [h0]; rfl
        have HT := Lib.hid (HFL.out S (by rw [HFLE.out, if_pos h0]; exact hs))
        clear hs hb hrw hlw h0 HFL
        go_wp2
        go_ret
        exact ⟨congrArg (fun T => Ending.returned (.string T)) HT.out, HBW.out⟩
      · have n0 : ((N : Int) == 0) = false := beq_eq_false_iff_ne.2 (by omega)
        by_cases he : S.data.toList = []
        · have e1 := str_ne_nil S true (decide_eq_true he)
          have e2 : (S.toList != []) = false := by rw [bne, e1]; rfl
          obtain ⟨S2, hs2⟩ : ∃ S2, S ++ ⟨#[45, 45, 32]⟩ = S2 := ⟨_, rfl⟩
          have hz2 : S2.size ≤ 12 := by rw [← hs2, ByteArray.size_append, k45]; omega
          have HT := Lib.hid (HFL.out (S2 ++ J) (by rw [HFLE.out, if_neg h0, if_pos (by rw [← hs]; exact he), ← hs2]; simp [he]))
          clear hs hb hrw hlw h0 he HFL
          go_wp2_with fail
          refine (HJ.out _ HBW.out).mono ?_
          rintro e w3 ⟨rfl, hb3⟩
          go_wp2
          go_ret
          exact ⟨congrArg (fun T => Ending.returned (.string T)) HT.out, HBW.out.trans (hb3.mono HBW.out.size)⟩
        · have e1 := str_ne_nil S false (decide_eq_false he)
          have e2 : (S.toList != []) = true := by rw [bne, e1]; rfl
          obtain ⟨S1, hs1⟩ : ∃ S1, S ++ ⟨#[32]⟩ = S1 := ⟨_, rfl⟩
          obtain ⟨S2, hs2⟩ : ∃ S2, S1 ++ ⟨#[45, 45, 32]⟩ = S2 := ⟨_, rfl⟩
          have hz1 : S1.size ≤ 10 := by rw [← hs1, ByteArray.size_append, k32]; omega
          have hz2 : S2.size ≤ 13 := by rw [← hs2, ByteArray.size_append, k45]; omega
          have HT := Lib.hid (HFL.out (S2 ++ J) (by rw [HFLE.out, if_neg h0, if_neg (by rw [← hs]; exact he), ← hs, ← hs2, ← hs1]; simp))
          clear hs hb hrw hlw h0 he HFL
          go_wp2_with fail
          refine (HJ.out _ HBW.out).mono ?_
          rintro e w3 ⟨rfl, hb3⟩
          go_wp2
          go_ret
          exact ⟨congrArg (fun T => Ending.returned (.string T)) HT.out, HBW.out.trans (hb3.mono HBW.out.size)⟩

set_option maxRecDepth 100000 in
set_option maxHeartbeats 4000000 in
theorem FlagsR_any (w : World) (j : Int) (bs : Nat → Bool) (nv : Bool) (vf vg : Value) (A : Option Addr) (ca : Nat) (vs : List ByteArray) (hA : StrsAt w A vs) (hca : vs.length ≤ ca) (hN : vs.length ≤ 1000) (hlen : totL vs ≤ 20000) :
    Calls Tryd.prog 31 #[.agg (opRow j bs nv vf vg (.slice A vs.length ca))] w fun e w' => e = .returned (.string (mk (flagsL bs vs))) ∧ Below w.heap.size w w' := by
  obtain ⟨R, hR⟩ : ∃ R, mk (flagsL bs vs) = R := ⟨_, rfl⟩
  rw [hR]
  have hfl : ∀ T : ByteArray, T.data.toList = flagsL bs vs → T = R := fun T h => by rw [← hR, ← h]; rfl
  have HFL := Lib.hid hfl
  have HJ := Lib.hid fun (wi : World) (hb : Below w.heap.size w wi) => JoinR_any wi A ca vs (fun j x hj => by
    obtain ⟨b, o, hA2, hc⟩ := hA j x hj
    exact ⟨b, o, hA2, (hb.cell (p := ⟨b, o + j, none⟩) (World.block_lt_of_cell? _ _ hc)).trans hc⟩) hlen (by omega)
  obtain ⟨J, hJ⟩ : ∃ J, joinB vs = J := ⟨_, rfl⟩
  have hJz : J.size ≤ 1000000 := by rw [← hJ]; exact Nat.le_trans (join_size vs) (by omega)
  have HFLE : Hid (flagsL bs vs = if vs.length = 0 then ltr bs 9 else (if ltr bs 9 = [] then [] else ltr bs 9 ++ [32]) ++ [45, 45, 32] ++ J.data.toList) := by unfold Hid flagsL; rw [hJ]
  obtain ⟨N, hNN⟩ : ∃ N, vs.length = N := ⟨_, rfl⟩
  rw [hNN, hJ] at HJ
  rw [hNN] at hN hca HFLE ⊢
  clear hR hfl hJ hNN hA hlen
  have hrow := heap_alloc_last w (.cells (opRow j bs nv vf vg (.slice A N ca)) 47)
  have hb1 : Below w.heap.size w (w.alloc (.cells (opRow j bs nv vf vg (.slice A N ca)) 47)) := (Below.refl _ w).alloc (Nat.le_refl _) _
  have hs1 : (w.alloc (.cells (opRow j bs nv vf vg (.slice A N ca)) 47)).heap.size = w.heap.size + 1 := World.size_alloc ..
  obtain ⟨w1, hw1⟩ : ∃ w1, w.alloc (.cells (opRow j bs nv vf vg (.slice A N ca)) 47) = w1 := ⟨_, rfl⟩
  rw [hw1] at hrow hb1 hs1
  obtain ⟨ob, hob⟩ : ∃ ob, w.heap.size = ob := ⟨_, rfl⟩
  have HOB := Lib.hid hob
  have HB1 := Lib.hid hb1
  have HS1 := Lib.hid hs1
  unfold opRow at hw1 ⊢
  go_enter Tryd.func31, Tryd.ntmps31
  go_upto_region 2 with fail
  try rw [hw1]
  try rw [hob]
  rw [hob] at hrow
  have c1 := (rowo hrow (j := 1) (v := .bool (bs 1)) rfl).1
  have c2 := (rowo hrow (j := 2) (v := .bool (bs 2)) rfl).1
  have c3 := (rowo hrow (j := 3) (v := .bool (bs 3)) rfl).1
  have c4 := (rowo hrow (j := 4) (v := .bool (bs 4)) rfl).1
  have c5 := (rowo hrow (j := 5) (v := .bool (bs 5)) rfl).1
  have c6 := (rowo hrow (j := 6) (v := .bool (bs 6)) rfl).1
  have c7 := (rowo hrow (j := 7) (v := .bool (bs 7)) rfl).1
  have c8 := (rowo hrow (j := 8) (v := .bool (bs 8)) rfl).1
  have c9 := (rowo hrow (j := 9) (v := .bool (bs 9)) rfl).1
  have HROW := Lib.hid hrow
  clear hw1 hob hb1 hs1 hrow
  go_wp2
  obtain ⟨lb, hlb⟩ : ∃ lb, w1.heap.size = lb := ⟨_, rfl⟩
  rw [hlb]
  have hl2 := heap_alloc_last w1 (.cells #[.bool (bs 9), .bool (bs 7), .bool (bs 6), .bool (bs 1), .bool (bs 2), .bool (bs 4), .bool (bs 8), .bool (bs 5), .bool (bs 3)] 4)
  have hb2 : Below w.heap.size w (w1.alloc (.cells #[.bool (bs 9), .bool (bs 7), .bool (bs 6), .bool (bs 1), .bool (bs 2), .bool (bs 4), .bool (bs 8), .bool (bs 5), .bool (bs 3)] 4)) := HB1.out.alloc HB1.out.size _
  have hr2 : (w1.alloc (.cells #[.bool (bs 9), .bool (bs 7), .bool (bs 6), .bool (bs 1), .bool (bs 2), .bool (bs 4), .bool (bs 8), .bool (bs 5), .bool (bs 3)] 4)).heap[ob]? = some (.cells (opRow j bs nv vf vg (.slice A N ca)) 47 (0, 0)) := by
    rw [Below.heap_alloc _ _ _ (by rw [← HOB.out]; have := HS1.out; omega)]; exact HROW.out
  obtain ⟨w2, hw2⟩ : ∃ w2, w1.alloc (.cells #[.bool (bs 9), .bool (bs 7), .bool (bs 6), .bool (bs 1), .bool (bs 2), .bool (bs 4), .bool (bs 8), .bool (bs 5), .bool (bs 3)] 4) = w2 := ⟨_, rfl⟩
  rw [hw2] at hl2 hb2 hr2 ⊢
  rw [hlb] at hl2
  have HL2 := Lib.hid hl2
  have HR2 := Lib.hid hr2
  have HB2 := Lib.hid hb2
  clear hl2 hr2 hb2 hw2 hlb HROW HB1 HS1
  go_loopw [3, 5] (fun s i wi => Hid (FRel bs w2 s i wi)) (fun _ i _ => 9 - (intOf i).toNat)
  case atStart => exact ⟨0, ⟨#[]⟩, rfl, rfl, Nat.zero_le _, rfl, Below.refl _ _⟩
  case round =>
    obtain ⟨k, S, rfl, rfl, hk, hs, hb⟩ := hrel.out
    clear hrel
    have hS9 : S.size ≤ 9 := ltr_size hs
    have k32 : (⟨#[32]⟩ : ByteArray).size = 1 := rfl
    have k45 : (⟨#[45, 45, 32]⟩ : ByteArray).size = 3 := rfl
    have HS := Lib.hid hs
    have HB := Lib.hid hb
    have hrw := (hb.block ob (lt_of_block HR2.out)).trans HR2.out
    have hlw := (hb.block lb (lt_of_block HL2.out)).trans HL2.out
    by_cases hlt : k < 9
    · obtain ⟨c, n, hc, hn, hn0, hn9⟩ := l9_at hlt
      have hcn : wr.cell? ⟨lb, k, none⟩ = some (.bool (bs n)) := by
        rw [cell_of_row _ _ _ _ _ _ hlw, ← hn]
        exact bl_at hlt hc
      have hxt : (⟨#[66, 101, 105, 107, 110, 113, 114, 115, 116]⟩ : ByteArray).extract k (k + 1) = ⟨#[c]⟩ := l9_ext hlt hc
      have HC := Lib.hid hc
      have kc1 : (⟨#[c]⟩ : ByteArray).size = 1 := rfl
      have HN := Lib.hid hn
      have q1 : (k : Int) < 9 := by omega
      have wk : IntKind.i64.wrap ((k : Int) + 1) = (k : Int) + 1 := IntWalk.i64_in _ (by omega)
      cases hbn : bs n
      · rw [hbn] at hcn
        have HX := Lib.hid (FRel.next0 hlt hc (by rw [hn]; exact hbn) hs hb)
        clear hs hb hrw hlw hc hn hbn hn0 hn9
        go_wp2
        exact ⟨HX, by simp [intOf]; omega⟩
      · rw [hbn] at hcn
        have HX := Lib.hid (FRel.next1 hlt hc (by rw [hn]; exact hbn) hs hb)
        clear hs hb hrw hlw hc hn hbn hn0 hn9
        go_wp2
        exact ⟨HX, by simp [intOf]; omega⟩
    · have q1 : ¬ (k : Int) < 9 := by omega
      obtain rfl : k = 9 := by omega
      have h13 := (rowo hrw (j := 13) (v := .slice A N ca) rfl).1
      have HBW := Lib.hid (HB2.out.trans (hb.mono HB2.out.size))
      by_cases h0 : N = 0
      · have n0 : ((N : Int) == 0) = true := by rw [h0]; rfl
        have HT := Lib.hid (HFL.out S (by rw [HFLE.out, if_pos h0]; exact hs))
        clear hs hb hrw hlw h0 HFL
        go_wp2
        go_ret
        exact ⟨congrArg (fun T => Ending.returned (.string T)) HT.out, HBW.out⟩
      · have n0 : ((N : Int) == 0) = false := beq_eq_false_iff_ne.2 (by omega)
        by_cases he : S.data.toList = []
        · have e1 := str_ne_nil S true (decide_eq_true he)
          have e2 : (S.toList != []) = false := by rw [bne, e1]; rfl
          obtain ⟨S2, hs2⟩ : ∃ S2, S ++ ⟨#[45, 45, 32]⟩ = S2 := ⟨_, rfl⟩
          have hz2 : S2.size ≤ 12 := by rw [← hs2, ByteArray.size_append, k45]; omega
          have HT := Lib.hid (HFL.out (S2 ++ J) (by rw [HFLE.out, if_neg h0, if_pos (by rw [← hs]; exact he), ← hs2]; simp [he]))
          clear hs hb hrw hlw h0 he HFL
          go_wp2_with fail
          refine (HJ.out _ HBW.out).mono ?_
          rintro e w3 ⟨rfl, hb3⟩
          go_wp2
          go_ret
          exact ⟨congrArg (fun T => Ending.returned (.string T)) HT.out, HBW.out.trans (hb3.mono HBW.out.size)⟩
        · have e1 := str_ne_nil S false (decide_eq_false he)
          have e2 : (S.toList != []) = true := by rw [bne, e1]; rfl
          obtain ⟨S1, hs1⟩ : ∃ S1, S ++ ⟨#[32]⟩ = S1 := ⟨_, rfl⟩
          obtain ⟨S2, hs2⟩ : ∃ S2, S1 ++ ⟨#[45, 45, 32]⟩ = S2 := ⟨_, rfl⟩
          have hz1 : S1.size ≤ 10 := by rw [← hs1, ByteArray.size_append, k32]; omega
          have hz2 : S2.size ≤ 13 := by rw [← hs2, ByteArray.size_append, k45]; omega
          have HT := Lib.hid (HFL.out (S2 ++ J) (by rw [HFLE.out, if_neg h0, if_neg (by rw [← hs]; exact he), ← hs, ← hs2, ← hs1]; simp))
          clear hs hb hrw hlw h0 he HFL
          go_wp2_with fail
          refine (HJ.out _ HBW.out).mono ?_
          rintro e w3 ⟨rfl, hb3⟩
          go_wp2
          go_ret
          exact ⟨congrArg (fun T => Ending.returned (.string T)) HT.out, HBW.out.trans (hb3.mono HBW.out.size)⟩
end Go.Proofs.YtmcemaphhlcjfaaDoor
