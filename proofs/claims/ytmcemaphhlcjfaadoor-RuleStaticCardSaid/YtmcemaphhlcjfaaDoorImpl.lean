/- implicit and static: patterns among targets; conditions: lists and texts that lie in memory. -/
import Derived.Test.YtmcemaphhlcjfaaDoorErr
import Derived.Test.YtmcemaphhlcjfaaDoorPat
namespace Go.Proofs.YtmcemaphhlcjfaaDoor
open Go.RowKit

def cntP (xs : List ByteArray) : Nat := xs.countP popen
def implR (xs : List ByteArray) : Bool × Value := if 0 < cntP xs ∧ cntP xs < xs.length then (false, errV (xAt xs 0) 55) else (decide (0 < cntP xs), .nilIface)
theorem cnt_take (xs : List ByteArray) (k : Nat) (x : ByteArray) (h : xs[k]? = some x) : cntP (xs.take (k + 1)) = cntP (xs.take k) + (if popen x then 1 else 0) := by
  obtain ⟨h1, h2⟩ := List.getElem?_eq_some_iff.1 h
  unfold cntP
  rw [List.take_succ_eq_append_getElem h1, List.countP_append, h2]
  simp [List.countP_cons]
theorem cnt_le (xs : List ByteArray) : cntP xs ≤ xs.length := List.countP_le_length

set_option maxRecDepth 100000 in
set_option maxHeartbeats 2000000 in
theorem implicit_any (w : World) (base : Nat) (v : Value) (xs : List ByteArray) (h : StrSl w base v xs) (hx : xs.length ≤ 1000000000) :
    Calls Tryd.prog 75 #[v] w fun e W' => e = .returned (.tuple #[.bool (implR xs).1, (implR xs).2]) ∧ Below w.heap.size w W' := by
  obtain ⟨A, c, rfl, hc, _⟩ := id h
  obtain ⟨_, _, hat⟩ := h.at_
  obtain ⟨N, hN⟩ : ∃ N, xs.length = N := ⟨_, rfl⟩
  rw [hN] at hx hc h ⊢
  have HN := Lib.hid hN
  have HAT := Lib.hid hat
  have HI : Hid (∀ n, n = cntP xs → implR xs = if 0 < n ∧ n < N then (false, errV (xAt xs 0) 55) else (decide (0 < n), .nilIface)) := fun n e => by subst e; unfold implR; rw [hN]
  clear hN h hat
  obtain ⟨RB, RV, hRR⟩ : ∃ a b, implR xs = (a, b) := ⟨_, _, rfl⟩
  rw [hRR]
  simp only [hRR] at HI
  clear hRR
  go_enter Tryd.func75, Tryd.ntmps75
  go_wp2
  go_loopw [4, 6, 9] (fun nv _ iv wi => ∃ k n : Nat, iv = .int .i64 k ∧ nv = .int .i64 n ∧ k ≤ N ∧ n ≤ k ∧ wi = w ∧ Hid (n = cntP (xs.take k))) (fun _ _ iv _ => N - (intOf iv).toNat)
  case atStart => exact ⟨0, 0, rfl, rfl, Nat.zero_le _, Nat.le_refl _, rfl, rfl⟩
  case round =>
    obtain ⟨k, n, rfl, rfl, hk, hnk, hwr, hn⟩ := hrel
    obtain rfl : w = wr := hwr.symm
    by_cases hlt : k < N
    · obtain ⟨x, hx1⟩ : ∃ x, xs[k]? = some x := ⟨_, List.getElem?_eq_getElem (by have := HN.out; omega)⟩
      obtain ⟨g, off, rfl, kx⟩ := HAT.out k x hx1
      have q1 : (k : Int) < N := by omega
      have HHas := Lib.hid fun w => Has_any x w
      have hct := cnt_take xs k x hx1
      rw [← hn.out] at hct
      cases hp : popen x
      · rw [hp] at HHas hct
        have HC : Hid (n = cntP (xs.take (k + 1))) := by unfold Hid; rw [hct]; simp
        clear hct hp hx1 hn
        go_wp2_with fail
        refine (HHas.out _).mono ?_
        rintro e w' ⟨rfl, hw'⟩
        obtain rfl : w = w' := hw'.symm
        go_wp2
        exact ⟨⟨k + 1, n, by go_num, rfl, by omega, by omega, by trivial, HC⟩, by simp [intOf]; omega⟩
      · rw [hp] at HHas hct
        have HC : Hid (n + 1 = cntP (xs.take (k + 1))) := by unfold Hid; rw [hct]; simp
        clear hct hp hx1 hn
        go_wp2_with fail
        refine (HHas.out _).mono ?_
        rintro e w' ⟨rfl, hw'⟩
        obtain rfl : w = w' := hw'.symm
        go_wp2
        exact ⟨⟨k + 1, n + 1, by go_num, by go_num, by omega, by omega, by trivial, HC⟩, by simp [intOf]; omega⟩
    · obtain rfl : k = N := by omega
      have hn2 : n = cntP xs := by have := hn.out; rwa [List.take_of_length_le (by have := HN.out; omega)] at this
      have hI := HI.out n hn2
      clear hn2 hn HI
      by_cases h0 : 0 < n
      · have q2 : (0 : Int) < n := by omega
        by_cases h1 : n < k
        · have q3 : (n : Int) < k := by omega
          rw [if_pos ⟨h0, h1⟩] at hI
          obtain ⟨x, hx1⟩ : ∃ x, xs[0]? = some x := ⟨_, List.getElem?_eq_getElem (by have := HN.out; omega)⟩
          obtain ⟨g, off, rfl, kx⟩ := HAT.out 0 x hx1
          rw [xAt_some hx1] at hI
          obtain ⟨hB, hV⟩ := Prod.mk.inj hI
          have HBV : Hid (RB = false ∧ RV = .iface 99 (.agg #[.string x, .iface 30 (.int .i64 55)])) := ⟨hB, hV⟩
          rw [Nat.add_zero] at kx
          have q4 : (0 : Int) < k := by omega
          clear hI hx1 hB hV
          go_wp2
          go_quiet (fail)
          go_wp2
          go_ret2
          exact ⟨by rw [HBV.out.1, HBV.out.2]; rfl, below_drewN (Below.refl _ w) _⟩
        · have q3 : ¬ (n : Int) < k := by omega
          rw [if_neg (fun h => h1 h.2)] at hI
          obtain ⟨hB, hV⟩ := Prod.mk.inj hI
          rw [decide_eq_true h0] at hB
          have HBV : Hid (RB = true ∧ RV = .nilIface) := ⟨hB, hV⟩
          clear hI hB hV
          go_wp2
          go_ret2
          exact ⟨by rw [HBV.out.1, HBV.out.2]; rfl, Below.refl _ w⟩
      · have q2 : ¬ (0 : Int) < n := by omega
        rw [if_neg (fun h => h0 h.1)] at hI
        obtain ⟨hB, hV⟩ := Prod.mk.inj hI
        rw [decide_eq_false h0] at hB
        have HBV : Hid (RB = false ∧ RV = .nilIface) := ⟨hB, hV⟩
        clear hI hB hV
        go_wp2
        go_ret2
        exact ⟨by rw [HBV.out.1, HBV.out.2]; rfl, Below.refl _ w⟩

/-- the first target that is itself a pattern, or does not match -/
def badT (p : ByteArray) : List ByteArray → Option ByteArray
  | [] => none
  | t :: l => if (!Mok p t || popen t) = true then some t else badT p l
noncomputable def statE (pat : ByteArray) (ts : List ByteArray) : Value :=
  if (namesB pat).length ≠ 1 ∨ popen (xAt (namesB pat) 0) = false then errV pat 56
  else match badT (xAt (namesB pat) 0) ts with
    | some t => errV t 55
    | none => .nilIface
noncomputable def statC (pat : ByteArray) (cs : Array Value) : Array Value :=
  if (namesB pat).length ≠ 1 ∨ popen (xAt (namesB pat) 0) = false then cs else cs.setIfInBounds 6 (.string (xAt (namesB pat) 0))

set_option maxRecDepth 100000 in
set_option maxHeartbeats 4000000 in
theorem static_any (w : World) (bb : Nat) (cs : Array Value) (pat : ByteArray) (base : Nat) (v : Value) (ts : List ByteArray) (hrow : w.heap[bb]? = some (.cells cs 73 (0, 0))) (hcs : cs.size = 13)
    (h : StrSl w base v ts) (hx : ts.length ≤ 1000000000) (hz : ∀ t ∈ ts, t.size ≤ 140737488351232) (hp : pat.size ≤ 1000000) :
    Calls Tryd.prog 74 #[.pointer (some ⟨bb, 0, none⟩), .string pat, v] w fun e W' => e = .returned (statE pat ts) ∧ Below bb w W' ∧ (∀ k, k < w.heap.size → k ≠ bb → W'.heap[k]? = w.heap[k]?) ∧ W'.heap[bb]? = some (.cells (statC pat cs) 73 (0, 0)) := by
  have hbb : bb < w.heap.size := lt_of_block hrow
  obtain ⟨A, c, rfl, hc, _⟩ := id h
  obtain ⟨_, _, hat⟩ := h.at_
  obtain ⟨N, hN⟩ : ∃ N, ts.length = N := ⟨_, rfl⟩
  rw [hN] at hx hc h ⊢
  have HNm := Lib.hid fun w => Names_any pat hp w
  have HZ := Lib.hid hz
  have HN := Lib.hid hN
  have HST := Lib.hid h
  have hSE : Hid (∀ l, namesB pat = l → statE pat ts = if l.length ≠ 1 ∨ popen (xAt l 0) = false then errV pat 56 else match badT (xAt l 0) ts with | some t => errV t 55 | none => .nilIface) := fun l e => by subst e; rfl
  have hSC : Hid (∀ l, namesB pat = l → statC pat cs = if l.length ≠ 1 ∨ popen (xAt l 0) = false then cs else cs.setIfInBounds 6 (.string (xAt l 0))) := fun l e => by subst e; rfl
  have hnsz := names_sz pat
  obtain ⟨E, hE⟩ : ∃ E, statE pat ts = E := ⟨_, rfl⟩
  obtain ⟨C, hC⟩ : ∃ C, statC pat cs = C := ⟨_, rfl⟩
  rw [hE, hC]
  simp only [hE, hC] at hSE hSC
  obtain ⟨l, hl⟩ : ∃ l, namesB pat = l := ⟨_, rfl⟩
  have hSE2 := hSE.out l hl
  have hSC2 := hSC.out l hl
  rw [hl] at HNm hnsz
  have HROW := Lib.hid hrow
  obtain ⟨M, hM⟩ : ∃ M, l.length = M := ⟨_, rfl⟩
  rw [hM] at HNm hSE2 hSC2
  have HM := Lib.hid hM
  clear hE hC hSE hSC hl hN h hat hz hM hrow
  by_cases hM1 : M = 1
  · obtain ⟨p0, rfl⟩ : ∃ p0, l = [p0] := by
      have := HM.out
      match l, this with
      | [p0], _ => exact ⟨p0, rfl⟩
      | [], h => simp at h; omega
      | _ :: _ :: _, h => simp at h; omega
    subst hM1
    have e0 : xAt [p0] 0 = p0 := rfl
    rw [e0] at hSE2 hSC2
    have hp0z : p0.size ≤ 140737488351232 := by have := hnsz p0 (by simp); omega
    have HHas := Lib.hid fun w => Has_any p0 w
    cases hpo : popen p0
    · rw [hpo] at HHas hSE2 hSC2
      rw [if_pos (Or.inr rfl)] at hSE2 hSC2
      subst hSE2 hSC2
      clear hpo
      unfold errV
      go_enter Tryd.func74, Tryd.ntmps74
      go_wp2_with fail
      refine (HNm.out _).mono ?_
      rintro e w1 ⟨v1, rfl, ho1, hb1⟩
      obtain ⟨A1, c1, rfl, hc1, _⟩ := ho1.form
      obtain ⟨g1, o1, rfl, kx⟩ := ho1.strsAt 0 p0 rfl
      rw [Nat.add_zero] at kx
      have HB1 := Lib.hid hb1
      clear hb1 ho1
      go_wp2_with fail
      refine (HHas.out _).mono ?_
      rintro e w' ⟨rfl, hw'⟩
      obtain rfl : w1 = w' := hw'.symm
      go_wp2
      go_ret
      exact ⟨rfl, HB1.out.mono (Nat.le_of_lt hbb), fun k hk _ => HB1.out.block k hk, (HB1.out.block bb hbb).trans HROW.out⟩
    · rw [hpo] at HHas hSE2 hSC2
      rw [if_neg (by simp)] at hSE2 hSC2
      clear hpo
      have HSE := Lib.hid hSE2
      have HSC := Lib.hid hSC2
      clear hSE2 hSC2
      go_enter Tryd.func74, Tryd.ntmps74
      go_wp2_with fail
      refine (HNm.out _).mono ?_
      rintro e w1 ⟨v1, rfl, ho1, hb1⟩
      obtain ⟨A1, c1, rfl, hc1, _⟩ := ho1.form
      obtain ⟨g1, o1, rfl, kx⟩ := ho1.strsAt 0 p0 rfl
      rw [Nat.add_zero] at kx
      have hr1 := (hb1.block bb hbb).trans HROW.out
      obtain ⟨z6, hz6⟩ : ∃ z, cs[6]? = some z := ⟨cs[6]'(by omega), by simp⟩
      have k6 : w1.cell? ⟨bb, 6, none⟩ = some z6 := by rw [cell_of_row w1 bb 6 cs 73 (0, 0) hr1]; exact hz6
      have f6 : w1.frozen? ⟨bb, 6, none⟩ = false := frozen_of_row w1 _ _ _ _ hr1
      have HB1 := Lib.hid hb1
      have HR1 := Lib.hid hr1
      have hg1 : w.heap.size ≤ g1 := (ho1.block_lt g1 (by rcases ho1.2 with ⟨h0, _⟩ | ⟨g, cap, cur, h0, _⟩; cases h0; cases h0; rfl)).1
      clear hb1 ho1 hr1 hz6
      go_wp2_with fail
      refine (HHas.out _).mono ?_
      rintro e w' ⟨rfl, hw'⟩
      obtain rfl : w1 = w' := hw'.symm
      have HST1 := Lib.hid ((HST.out.below HB1.out).other HR1.out (by decide) 6 (.string p0))
      go_wp2
      obtain ⟨w2, hw2⟩ : ∃ w2, w1.setCell ⟨bb, 6, none⟩ (.string p0) = w2 := ⟨_, rfl⟩
      rw [hw2] at HST1 ⊢
      have hr2 : w2.heap[bb]? = some (.cells (cs.setIfInBounds 6 (.string p0)) 73 (0, 0)) := by rw [← hw2]; exact heap_setCell_same w1 bb 6 cs 73 (.string p0) HR1.out
      have hb2 : Below bb w w2 := by rw [← hw2]; exact (HB1.out.mono (Nat.le_of_lt hbb)).setCell (p := ⟨bb, 6, none⟩) (Nat.le_refl _) _
      have hk2 : ∀ k, k < w.heap.size → k ≠ bb → w2.heap[k]? = w.heap[k]? := fun k hk hne => by rw [← hw2, Below.heap_setCell _ _ _ _ hne]; exact HB1.out.block k hk
      have k62 : w2.cell? ⟨bb, 6, none⟩ = some (.string p0) := by rw [cell_of_row w2 bb 6 _ 73 (0, 0) hr2, Array.getElem?_setIfInBounds]; simp [hcs]
      have hsz2 : w.heap.size ≤ w2.heap.size := by rw [← hw2]; simpa using HB1.out.size
      have HAT := Lib.hid HST1.out.at_.2.2
      have HR2 := Lib.hid hr2
      have HB2 := Lib.hid hb2
      have HK2 := Lib.hid hk2
      clear hw2 hr2 hb2 hk2 k6 f6 kx HR1 HB1 HST1 HST HROW
      go_loopw [9, 10, 11, 37] (fun _ _ _ iv wi => ∃ k : Nat, iv = .int .i64 k ∧ k ≤ N ∧ Below w2.heap.size w2 wi ∧ Hid (badT p0 ts = badT p0 (ts.drop k))) (fun _ _ _ iv _ => N - (intOf iv).toNat)
      case atStart => exact ⟨0, rfl, Nat.zero_le _, Below.refl _ _, rfl⟩
      case round =>
        obtain ⟨k, rfl, hk, hbw, hbad⟩ := hrel
        have HFIN : Hid (∀ W', Below w2.heap.size w2 W' → Below bb w W' ∧ (∀ k, k < w.heap.size → k ≠ bb → W'.heap[k]? = w.heap[k]?) ∧ W'.heap[bb]? = some (.cells C 73 (0, 0))) := fun W' hW =>
          ⟨HB2.out.trans (hW.mono (by omega)), fun k hk hne => (hW.block k (by omega)).trans (HK2.out k hk hne), by rw [HSC.out]; exact (hW.block bb (by omega)).trans HR2.out⟩
        by_cases hlt : k < N
        · obtain ⟨x, hx1⟩ : ∃ x, ts[k]? = some x := ⟨_, List.getElem?_eq_getElem (by have := HN.out; omega)⟩
          have hxz : x.size ≤ 140737488351232 := HZ.out x (List.mem_of_getElem? hx1)
          obtain ⟨g, off, rfl, kx0⟩ := HAT.out k x hx1
          have kx : wr.cell? ⟨g, off + k, none⟩ = some (.string x) := by
            rw [hbw.cell (p := ⟨g, off + k, none⟩) (World.block_lt_of_cell? _ _ kx0)]; exact kx0
          have k6r : wr.cell? ⟨bb, 6, none⟩ = some (.string p0) := by
            rw [hbw.cell (p := ⟨bb, 6, none⟩) (World.block_lt_of_cell? _ _ k62)]; exact k62
          have q1 : (k : Int) < N := by omega
          have HMt := Lib.hid fun w => Match_any p0 x w hp0z hxz
          have HHx := Lib.hid fun w => Has_any x w
          have hbd := hbad.out
          have hdr : ts.drop k = x :: ts.drop (k + 1) := by
            obtain ⟨h1, h2⟩ := List.getElem?_eq_some_iff.1 hx1
            rw [List.drop_eq_getElem_cons h1, h2]
          rw [hdr, badT] at hbd
          clear hdr hx1 kx0 hbad
          cases hm : Mok p0 x
          · rw [hm] at HMt hbd
            have HE : Hid (E = .iface 99 (.agg #[.string x, .iface 30 (.int .i64 55)])) := by
              unfold Hid; rw [HSE.out, hbd]; rfl
            clear hbd hm
            go_wp2_with fail
            refine (HMt.out _).mono ?_
            rintro e w3 ⟨rfl, hb3⟩
            have hb4 := hbw.trans (hb3.mono hbw.size)
            go_wp2
            go_ret
            exact ⟨by rw [HE.out]; rfl, HFIN.out _ hb4⟩
          · rw [hm] at HMt hbd
            cases hpx : popen x
            · rw [hpx] at HHx hbd
              have HBD : Hid (badT p0 ts = badT p0 (ts.drop (k + 1))) := by unfold Hid; rw [hbd]; rfl
              clear hbd hm hpx
              go_wp2_with fail
              refine (HMt.out _).mono ?_
              rintro e w3 ⟨rfl, hb3⟩
              have hb4 := hbw.trans (hb3.mono hbw.size)
              go_wp2_with fail
              refine (HHx.out _).mono ?_
              rintro e w' ⟨rfl, hw'⟩
              obtain rfl : w3 = w' := hw'.symm
              go_wp2
              exact ⟨⟨k + 1, by go_num, by omega, hb4, HBD⟩, by simp [intOf]; omega⟩
            · rw [hpx] at HHx hbd
              have HE : Hid (E = .iface 99 (.agg #[.string x, .iface 30 (.int .i64 55)])) := by
                unfold Hid; rw [HSE.out, hbd]; rfl
              clear hbd hm hpx
              go_wp2_with fail
              refine (HMt.out _).mono ?_
              rintro e w3 ⟨rfl, hb3⟩
              have hb4 := hbw.trans (hb3.mono hbw.size)
              go_wp2_with fail
              refine (HHx.out _).mono ?_
              rintro e w' ⟨rfl, hw'⟩
              obtain rfl : w3 = w' := hw'.symm
              go_wp2
              go_ret
              exact ⟨by rw [HE.out]; rfl, HFIN.out _ hb4⟩
        · obtain rfl : k = N := by omega
          have HE : Hid (E = .nilIface) := by
            unfold Hid; rw [HSE.out, hbad.out, List.drop_eq_nil_of_le (by have := HN.out; omega)]; rfl
          go_wp2
          go_ret
          exact ⟨by rw [HE.out]; rfl, HFIN.out _ hbw⟩
  · rw [if_pos (Or.inl hM1)] at hSE2 hSC2
    subst hSE2 hSC2
    have q1 : ((M : Int) != 1) = true := by rw [bne, beq_eq_false_iff_ne.2 (by omega)]; rfl
    unfold errV
    go_enter Tryd.func74, Tryd.ntmps74
    go_wp2_with fail
    refine (HNm.out _).mono ?_
    rintro e w1 ⟨v1, rfl, ho1, hb1⟩
    obtain ⟨A1, c1, rfl, hc1, _⟩ := ho1.form
    have HB1 := Lib.hid hb1
    clear hb1 ho1
    go_wp2
    go_ret
    exact ⟨rfl, HB1.out.mono (Nat.le_of_lt hbb), fun k hk _ => HB1.out.block k hk, (HB1.out.block bb hbb).trans HROW.out⟩
end Go.Proofs.YtmcemaphhlcjfaaDoor
