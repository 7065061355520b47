/- The reference's store: Set with the word on all other blocks; conditions: a store that lies in memory, its names rising. -/
import Derived.Test.YtndoloohdloflabVarsRef5
namespace Go.Proofs.Ytndoloohdloflab
open Go.RowKit Go.Maps

/-- the block in which the reference's list lies -/
def rowBlk (w : World) (r : Nat) : Option Nat := match w.heap[r]? with
  | some (.cells c _ _) => match c.toList with
    | [v] => v.ownBlock
    | _ => none
  | _ => none
theorem rowBlk_of {w : World} {r : Nat} {v : Value} {t : TypeId} {f : Nat × Nat} (h : w.heap[r]? = some (.cells #[v] t f)) : rowBlk w r = v.ownBlock := by
  unfold rowBlk; rw [h]
theorem rowBlk_same {w w' : World} {r : Nat} (h : w'.heap[r]? = w.heap[r]?) : rowBlk w' r = rowBlk w r := by
  unfold rowBlk; rw [h]
/-- all blocks but the store's own two are as they were, and stay aside -/
def Fr (w w' : World) (r : Nat) : Prop := w.heap.size ≤ w'.heap.size ∧ ∀ k, k < w.heap.size → k ≠ r → rowBlk w r ≠ some k → w'.heap[k]? = w.heap[k]? ∧ rowBlk w' r ≠ some k
theorem Fr.trans {a b c : World} {r : Nat} (h : Fr a b r) (k : Fr b c r) : Fr a c r := ⟨Nat.le_trans h.1 k.1, fun j h1 h2 h3 => by
  obtain ⟨e1, e2⟩ := h.2 j h1 h2 h3
  obtain ⟨e3, e4⟩ := k.2 j (Nat.lt_of_lt_of_le h1 h.1) h2 e2
  exact ⟨e3.trans e1, e4⟩⟩
theorem Fr.below {w w' : World} {r : Nat} (hb : Below w.heap.size w w') (hr : r < w.heap.size) : Fr w w' r :=
  ⟨hb.size, fun k h1 _ h3 => ⟨hb.block k h1, by rw [rowBlk_same (hb.block r hr)]; exact h3⟩⟩
theorem Fr.cell {w : World} {r g i : Nat} {x : Value} (hg : rowBlk w r = some g) (hr : r ≠ g) : Fr w (w.setCell ⟨g, i, none⟩ x) r :=
  ⟨by simp, fun k _ _ h3 => ⟨Below.heap_setCell _ _ _ _ (show k ≠ g by rintro rfl; exact h3 hg), by rw [rowBlk_same (Below.heap_setCell _ _ _ _ (show r ≠ g from hr))]; exact h3⟩⟩
theorem Fr.cell' {w0 w : World} {r g i : Nat} {x : Value} (h : Fr w0 w r) (hg : rowBlk w r = some g) (hr : r ≠ g) : Fr w0 (w.setCell ⟨g, i, none⟩ x) r ∧ rowBlk (w.setCell ⟨g, i, none⟩ x) r = some g :=
  ⟨h.trans (Fr.cell hg hr), by rw [rowBlk_same (Below.heap_setCell _ _ _ _ (show r ≠ g from hr))]; exact hg⟩
theorem step_copy_spliceM {P : Program} {ops : Array Oper} {o : Oper} {a : Act} {w : World} {K : Act → World → Prop} {Q : Exit → Act → World → Prop} {E : Prop} (hgd : o.guard = none) (d s : Operand) (dT sT : TypeId)
    (ho : o.op = .call { callee := .builtin .copy, args := #[d, s], argTypes := #[dT, sT] }) (elem : TypeId) (z : Nat) (hz : 0 < z) (hu : P.underlying dT = some (.slice elem)) (hsz : (P.info? elem).map (·.size) = some z)
    (dp sp : Option Addr) (dLen dCap sLen sCap : Nat) (hd : a.eval d = .slice dp dLen dCap) (hs : a.eval s = .slice sp sLen sCap)
    (g off : Nat) (cur : List Value) (t : TypeId) (hg : w.heap[g]? = some (.cells cur.toArray t (0, 0))) (cs : List Value) (n : Nat) (hm : Nat.min sLen dLen = n) (hn : cs.length = n * z)
    (hpos : 0 < n → dp = some ⟨g, off, none⟩ ∧ ∃ ad, sp = some ad ∧ ∀ j v, cs[j]? = some v → w.cell? (ad.add j) = some v)
    (hfit : off + cs.length ≤ cur.length) (h1 : ∀ v ∈ cs, v.oneCell' = true) (B : Nat) (w0 : World) (hb : RowKit.Below B w0 w) (hBg : B ≤ g)
    (h : ∀ w', RowKit.Hid (w'.heap[g]? = some (.cells (splice cur off cs).toArray t (0, 0))) → RowKit.Below B w0 w' → (∀ k, k ≠ g → w'.heap[k]? = w.heap[k]?) → K (a.put o.dst (goInt n)) w') :
    if Region.wanted o (yielded ops a.tmps) = true then Oper.wp P o a w K Q else E := by
  have hw : Region.wanted o (yielded ops a.tmps) = true := by simp [Region.wanted, hgd]
  rw [if_pos hw]
  by_cases h0 : n = 0
  · subst h0
    obtain rfl : cs = [] := List.eq_nil_of_length_eq_zero (by simpa using hn)
    have hrun := run_copy_noneN (P := P) w dT sT o.type elem z dp sp dLen dCap sLen sCap hu hsz hm
    unfold Oper.wp
    simp [execOp, ho, resolve, invoke, builtin, hd, hs, hrun, Result.andThen]
    exact h w (show _ = _ by simpa [splice] using hg) hb (fun _ _ => rfl)
  · obtain ⟨rfl, ad, rfl, hsrc⟩ := hpos (by omega)
    have hrun := run_copy_rowN (P := P) w dT sT o.type elem z g off dLen dCap ad sLen sCap cur.toArray t cs n hu hsz hg hm hn hsrc (by simpa using hfit) h1
    unfold Oper.wp
    simp [execOp, ho, resolve, invoke, builtin, hd, hs, hrun, Result.andThen]
    exact h _ (show _ = _ by simpa [splice] using setRow_heap w g _ _ t _ hg) (below_setRow hb hBg _) (fun k hk => setRow_other w g k _ hk)

set_option maxRecDepth 100000 in
set_option maxHeartbeats 1000000 in
theorem refSetF_any (w : World) (r : Nat) (l : List Vr) (k v : ByteArray) (f o : Int) (H : RefAt w r l) :
    Calls Try.prog 39 #[.pointer (some ⟨r, 0, none⟩), .string k, .string v, .int .i64 f, .int .i64 o] w fun e w' => e = .returned (.bool (mayV l k o)) ∧ RefAt w' r (setV l k v f o) ∧ Below r w w' ∧ Fr w w' r := by
  have HA := Lib.hid (refAt_any w r l k H)
  have H0 := Lib.hid H
  have HL := Lib.hid H.len
  have HU := Lib.hid H.up
  have HLT := Lib.hid H.lt
  clear H
  obtain ⟨i0, hi, hz0, hz1, hz2⟩ := info_parts Try.info64
  obtain ⟨M, hM⟩ : ∃ M, mayV l k o = M := ⟨_, rfl⟩
  obtain ⟨S, hS⟩ : ∃ S, setV l k v f o = S := ⟨_, rfl⟩
  rw [hM, hS]
  have HM := Lib.hid hM
  have HS := Lib.hid hS
  clear hM hS
  go_enter Try.func39, Try.ntmps39
  go_wp2_with fail
  refine HA.out.mono ?_
  rintro e w1 ⟨p, nq, rfl, hp, hw1⟩
  have hb1 : Below w.heap.size w w1 := by rw [hw1]; exact below_drewN (Below.refl _ _) nq
  have HR1 : RefAt w1 r l := H0.out.below hb1
  have HF1 : Fr w w1 r := Fr.below hb1 H0.out.lt
  have hsz1 : w.heap.size ≤ w1.heap.size := hb1.size
  have HRB : Hid (rowBlk w1 r = rowBlk w r) := rowBlk_same (hb1.block r H0.out.lt)
  have HB1 : Below r w w1 := hb1.mono (Nat.le_of_lt HLT.out)
  have HP := Lib.hid hp
  clear hw1 hb1
  cases hf : foundAt l k.data.toList p
  · have e1 := get_not HU.out hp hf
    have hmv : mayV l k o = decide (l.length < 1000) := by unfold mayV; rw [e1]
    rw [hmv] at HM
    obtain ⟨v0, hbx, hv0⟩ := HR1.own
    obtain ⟨A, c, rfl, hc1, hc2⟩ := hv0.form
    have HBX := Lib.hid hbx
    have hb : w1.cell? ⟨r, 0, none⟩ = some (.slice A l.length c) := by simp [World.cell?, hbx]
    have hrl : r < w1.heap.size := HR1.lt
    by_cases hc : l.length ≥ 1000
    · obtain rfl : false = M := by rw [← HM.out]; simp; omega
      have hSl : l = S := by rw [← HS.out]; unfold setV; rw [hmv, if_neg (by simp; omega)]
      subst hSl
      have q1 : ((l.length : Nat) : Int) ≥ 1000 := by omega
      clear hmv e1 hbx hv0 hp
      go_wp2
      go_ret
      exact ⟨rfl, HR1, HB1, HF1⟩
    · obtain rfl : true = M := by rw [← HM.out]; simp; omega
      have hSl : l.take p ++ ⟨k, v, f, o, 0⟩ :: l.drop p = S := by
        rw [← HS.out]; unfold setV
        rw [hmv, if_pos (by simp; omega), put_not _ rfl HU.out HP.out hf, e1]; rfl
      have HUS : Hid (Up S) := by unfold Hid; rw [← HS.out]; unfold setV; rw [hmv, if_pos (by simp; omega)]; exact put_up' _ HU.out
      have hple := HP.out.le
      have hS1 : S.length = l.length + 1 := by rw [← hSl]; simp; omega
      have HLS := Lib.hid hS1
      have HSL := Lib.hid hSl
      have HBK : Hid (∀ j, (Value.slice A l.length c).ownBlock = some j → r + 1 ≤ j) := fun j hj => (hv0.block_lt j hj).1
      have hO := Lib.hid fun ob => hv0.below ((Below.refl _ w1).alloc (Nat.le_refl _) ob)
      have hlr := vRows_len l
      have hld := vRows_len (l.drop p)
      have hlen1 := HL.out
      have HLR := Lib.hid hlr
      have HLD := Lib.hid hld
      obtain ⟨L, hL⟩ : ∃ L, l.length = L := ⟨_, rfl⟩
      have HLL := Lib.hid hL
      rw [hL] at hb hc1 hc hple hlen1 hO HBX HLR HLS HBK
      have q1 : ¬ (L : Int) ≥ 1000 := by omega
      clear hmv e1 hbx hv0 hp hSl hS1 hlr hld hL
      have HB2' := Lib.hid fun (ob : Obj) (w2 : World) (hg : (w1.alloc ob).grownBy w2 (Value.slice A L c).ownBlock) => ((HB1.alloc (Nat.le_of_lt hrl) ob).grown hg (by simp; omega) (fun j hj => by have := HBK.out j hj; omega) : Below r w w2)
      have HX2' : Hid (∀ (ob : Obj) (w2 : World), (w1.alloc ob).grownBy w2 (Value.slice A L c).ownBlock → w2.heap[r]? = some (.cells #[.slice A L c] 50 (0, 0))) := fun ob w2 hg => by
        rw [hg.block r (by simp; omega) (fun e => by have := HBK.out r e.symm; omega), Below.heap_alloc _ _ _ hrl]; exact HBX.out
      have HFA : Hid (∀ ob g cap w2, (w1.alloc ob).grownBy w2 (Value.slice A L c).ownBlock → ((Value.slice A L c).ownBlock = some g ∨ g = (w1.alloc ob).heap.size) → Fr w (w2.setCell ⟨r, 0, none⟩ (.slice (some ⟨g, 0, none⟩) (L + 1) cap)) r ∧ rowBlk (w2.setCell ⟨r, 0, none⟩ (.slice (some ⟨g, 0, none⟩) (L + 1) cap)) r = some g) := by
        intro ob g cap w2 hg hgn
        have e1 : (w1.alloc ob).heap.size = w1.heap.size + 1 := by simp
        have e2 := hg.size
        have hro : rowBlk w r = (Value.slice A L c).ownBlock := by rw [← HRB.out]; exact rowBlk_of HBX.out
        have hrg : rowBlk (w2.setCell ⟨r, 0, none⟩ (.slice (some ⟨g, 0, none⟩) (L + 1) cap)) r = some g := rowBlk_of (heap_setCell_same w2 r 0 _ 50 (.slice (some ⟨g, 0, none⟩) (L + 1) cap) (HX2'.out ob w2 hg))
        refine ⟨⟨by simp; omega, fun k h1 h2 h3 => ⟨?_, ?_⟩⟩, hrg⟩
        · rw [Below.heap_setCell _ _ _ _ (show k ≠ r from h2), hg.block k (by omega) (fun e => h3 (hro.trans e.symm)), Below.heap_alloc _ _ _ (by omega)]
          exact (HF1.2 k h1 h2 h3).1
        · rw [hrg]
          intro e; cases e
          rcases hgn with h | h
          · exact h3 (hro.trans h)
          · omega
      go_wp2_with (at_builtin; refine wpList_append_G _ rfl _ _ 48 rfl (r + 1) 64 i0 (.agg #[.string ⟨#[]⟩, .string ⟨#[]⟩, .int .i64 0, .int .i64 0, .int .i64 0]) 5 56 Try.underlying48 hi hz0 hz1 hz2 rfl (.slice A L c) L (vRows l) rfl (hO.out _) ⟨w1.heap.size, 0, none⟩ 1 1 (vr0.cells) rfl rfl (World.news_of_block (heap_alloc_last w1 _)) (by simp [Value.oneCell', Vr.cells]) (by decide) (by unfold maxLen; omega) (by omega) (by simp; omega) ?_; intro g cap w2 hown2 hgrow2 hgn hgl2; obtain ⟨hF3, hG3⟩ := HFA.out _ g cap w2 hgrow2 hgn; have HF3 := Lib.hid hF3; have HG3 := Lib.hid hG3; clear hgn hgl2 hF3 hG3; have HB2 := HB2'.out _ _ hgrow2; have hbx2 := HX2'.out _ _ hgrow2; have hb2 : w2.cell? ⟨r, 0, none⟩ = some (.slice A L c) := (by simp [World.cell?, hbx2]); have hf2 : w2.frozen? ⟨r, 0, none⟩ = false := frozen_of_row w2 _ _ _ _ hbx2; have HX3 := Lib.hid (heap_setCell_same w2 r 0 _ 50 (.slice (some ⟨g, 0, none⟩) (L + 1) cap) hbx2); have HOW := Lib.hid hown2; clear hown2 hgrow2 hbx2)
      have HRG : Hid (r ≠ g) := by
        intro e; have := (HOW.out.block_lt g (by simp [Value.ownBlock])).1; omega
      have HOW3 : OwnG (w2.setCell ⟨r, 0, none⟩ (.slice (some ⟨g, 0, none⟩) (L + 1) cap)) (r + 1) 64 5 (.slice (some ⟨g, 0, none⟩) (L + 1) cap) (L + 1) (vRows l ++ vr0.cells) := HOW.out.move fun j hj => by
        have := (HOW.out.block_lt j hj).1
        exact Below.heap_setCell _ _ _ _ (show j ≠ r by omega)
      have HB3 := HB2.setCell (p := ⟨r, 0, none⟩) (Nat.le_refl r) (.slice (some ⟨g, 0, none⟩) (L + 1) cap)
      have hbx3 := HX3.out
      simp only [show (#[Value.slice A L c].setIfInBounds 0 (Value.slice (some ⟨g, 0, none⟩) (L + 1) cap)) = #[Value.slice (some ⟨g, 0, none⟩) (L + 1) cap] from rfl] at hbx3
      obtain ⟨w3, hw3⟩ : ∃ w3, w2.setCell ⟨r, 0, none⟩ (.slice (some ⟨g, 0, none⟩) (L + 1) cap) = w3 := ⟨_, rfl⟩
      rw [hw3] at HOW3 HB3 hbx3 HF3 HG3 ⊢
      have hb3 : w3.cell? ⟨r, 0, none⟩ = some (.slice (some ⟨g, 0, none⟩) (L + 1) cap) := by simp [World.cell?, hbx3]
      clear hw3 HX3 HOW hb2 hf2 HB2 HX2' HB2' hO hb HBX HBK hc1 hc2 HB1 HR1 hrl HA H0 HS
      rcases HOW3.2 with ⟨h0, _⟩ | ⟨g', cap', cur, hv, hbase, hbk, h1, h2, h3, h4⟩
      · cases h0
      cases hv
      have hldl : (vRows (l.drop p)).length = (L - p) * 5 := by rw [HLD.out, List.length_drop, HLL.out]
      have hcs : ∀ j v, (vRows (l.drop p))[j]? = some v → w3.cell? ⟨g, p * 5 + j, none⟩ = some v := by
        intro j v hj
        refine HOW3.cells (p * 5 + j) v ?_
        have e : vRows l = vRows (l.take p) ++ vRows (l.drop p) := by rw [← vRows_app, List.take_append_drop]
        have e2 : (vRows (l.take p)).length = p * 5 := by rw [vRows_len, List.length_take, HLL.out, Nat.min_eq_left hple]
        rw [e, List.append_assoc, List.getElem?_append_right (by omega), e2, Nat.add_sub_cancel_left, List.getElem?_append_left (List.getElem?_eq_some_iff.1 hj).1]
        exact hj
      have hone : ∀ v ∈ vRows (l.drop p), v.oneCell' = true := vRows_one _
      have hi1 : (Try.prog.info? 64).map (·.size) = some 5 := by rw [hi]; simp [hz1]
      have hbk2 : w3.drew.heap[g]? = some (.cells cur.toList.toArray 64 (0, 0)) := by rw [Array.toArray_toList]; exact hbk
      have hb3d : Below (r + 1) w3 w3.drew := (Below.refl _ w3).drew
      have hfit : (p + 1) * 5 + (vRows (l.drop p)).length ≤ cur.toList.length := by rw [hldl]; simp; omega
      have hcsd : ∀ j v, (vRows (l.drop p))[j]? = some v → w3.drew.cell? (Addr.add ⟨g, p * 5, none⟩ j) = some v := by
        intro j v hj
        have e2 : Addr.add ⟨g, p * 5, none⟩ j = ⟨g, p * 5 + j, none⟩ := by
          simp only [Addr.add]
          split
          · subst_vars; rfl
          · simp
        rw [e2]; exact hcs j v hj
      have hins := ins_rows cur.toList vr0.cells l ⟨k, v, f, o, 0⟩ p L HLL.out hple rfl h4
      rw [HSL.out] at hins
      have HINS := Lib.hid hins
      obtain ⟨cs, hcsE⟩ : ∃ cs, vRows (l.drop p) = cs := ⟨_, rfl⟩
      rw [hcsE] at hcs hldl hone hfit hcsd
      have HCS := Lib.hid hcsE
      have q7 : IntKind.i64.wrap ((p : Int) + 1) = ((p + 1 : Nat) : Int) := by rw [IntWalk.i64_in _ (by omega)]; omega
      have q8 : p + 1 ≤ L + 1 := by omega
      have q10 : (0 : Int) ≤ (p : Int) + 1 := by omega
      have q12 : (p : Int) ≤ (L : Int) + 1 := by omega
      have q11 : (p : Int) + 1 ≤ (L : Int) + 1 := by omega
      have q9 : p ≤ L + 1 := by omega
      clear hcsE hins
      (go_region_law (refine step_copy_spliceM rfl (.tmp 76) (.tmp 82) 48 48 rfl 64 5 (by decide) Try.underlying48 hi1 (if cap = p + 1 then some ⟨g, 0, none⟩ else some ⟨g, (p + 1) * 5, none⟩) (if cap = p then some ⟨g, 0, none⟩ else some ⟨g, p * 5, none⟩) (L - p) (cap - (p + 1)) (L + 1 - p) (cap - p) (by simp [go_sem]) (by simp [go_sem]) g ((p + 1) * 5) cur.toList 64 hbk2 cs (L - p) ?hm ?hn ?hp hfit hone (r + 1) w3 hb3d hbase ?_; (case hm => (show min _ _ = _; omega)); (case hn => (exact hldl)); (case hp => (exact fun hp => ⟨if_neg (by omega), ⟨g, p * 5, none⟩, if_neg (by omega), hcsd⟩)); intro w4 hg4 hb4 hfr4))
      all_goals
        have hg5 := hg4.out
        have hbx4 : w4.heap[r]? = some (.cells #[.slice (some ⟨g, 0, none⟩) (L + 1) cap] 50 (0, 0)) := (hb4.block r (by omega)).trans hbx3
        have hb5 : w4.cell? ⟨r, 0, none⟩ = some (.slice (some ⟨g, 0, none⟩) (L + 1) cap) := by simp [World.cell?, hbx4]
        have HB4 : Below r w w4 := HB3.trans (hb4.mono (by omega))
        have HO4 : OwnG w4 (r + 1) 64 5 (.slice (some ⟨g, 0, none⟩) (L + 1) cap) (L + 1) ((splice cur.toList ((p + 1) * 5) cs).take ((L + 1) * 5)) := by
          have hz := length_splice cur.toList ((p + 1) * 5) cs hfit
          refine ⟨?_, .inr ⟨g, cap, _, rfl, hbase, hg5, h1, h2, ?_, rfl⟩⟩
          · rw [List.length_take, hz, Nat.min_eq_left]; simp; omega
          · show cap * 5 ≤ (splice cur.toList ((p + 1) * 5) cs).toArray.size
            rw [List.size_toArray, hz]; simpa using h3
        obtain ⟨u0, z0⟩ := HO4.cellEx (p * 5) (by omega)
        obtain ⟨u1, z1⟩ := HO4.cellEx (p * 5 + 1) (by omega)
        obtain ⟨u2, z2⟩ := HO4.cellEx (p * 5 + 2) (by omega)
        obtain ⟨u3, z3⟩ := HO4.cellEx (p * 5 + 3) (by omega)
        obtain ⟨u4, z4⟩ := HO4.cellEx (p * 5 + 4) (by omega)
        have i0 := HO4.ice (p * 5)
        have i1 := HO4.ice (p * 5 + 1)
        have i2 := HO4.ice (p * 5 + 2)
        have i3 := HO4.ice (p * 5 + 3)
        have i4 := HO4.ice (p * 5 + 4)
        have X5 := Lib.hid (((((HO4.setAt (p * 5) (.string k)).setAt (p * 5 + 1) (.string v)).setAt (p * 5 + 2) (.int .i64 f)).setAt (p * 5 + 3) (.int .i64 o)).setAt (p * 5 + 4) (.int .i64 0))
        have HB5 := Lib.hid ((((((HB4.setCell (p := ⟨g, p * 5, none⟩) (show r ≤ g by omega) (.string k)).setCell (p := ⟨g, p * 5 + 1, none⟩) (show r ≤ g by omega) (.string v)).setCell (p := ⟨g, p * 5 + 2, none⟩) (show r ≤ g by omega) (.int .i64 f)).setCell (p := ⟨g, p * 5 + 3, none⟩) (show r ≤ g by omega) (.int .i64 o)).setCell (p := ⟨g, p * 5 + 4, none⟩) (show r ≤ g by omega) (.int .i64 0)))
        have HX4 := Lib.hid hbx4
        have hF4 : Fr w w4 r := HF3.out.trans ⟨hb4.size, fun k _ _ h3 => ⟨hfr4 k (by rintro rfl; exact h3 HG3.out), by rw [rowBlk_same (hfr4 r HRG.out)]; exact h3⟩⟩
        have hG4 : rowBlk w4 r = some g := by rw [rowBlk_same (hfr4 r HRG.out)]; exact HG3.out
        obtain ⟨s1, t1⟩ := hF4.cell' hG4 HRG.out (i := p * 5) (x := .string k)
        obtain ⟨s2, t2⟩ := s1.cell' t1 HRG.out (i := p * 5 + 1) (x := .string v)
        obtain ⟨s3, t3⟩ := s2.cell' t2 HRG.out (i := p * 5 + 2) (x := .int .i64 f)
        obtain ⟨s4, t4⟩ := s3.cell' t3 HRG.out (i := p * 5 + 3) (x := .int .i64 o)
        obtain ⟨s5, t5⟩ := s4.cell' t4 HRG.out (i := p * 5 + 4) (x := .int .i64 0)
        have HF5 := Lib.hid s5
        clear hF4 hG4 s1 t1 s2 t2 s3 t3 s4 t4 s5 t5 hfr4
        have q1' : (p : Int) < (L : Int) + 1 := by omega
        clear hg4 hg5 hb4 hbx4 hbx3 HB3 HOW3 hb3 h4 hbk h3 hbk2 hb3d hcsd hfit hone hldl hcs HB4 HO4 hi1
        go_wp2
        all_goals
          go_ret
          refine ⟨rfl, ⟨⟨.slice (some ⟨g, 0, none⟩) (L + 1) cap, ?_, ?_⟩, HUS.out, by rw [HLS.out]; omega⟩, HB5.out, HF5.out⟩
          · rw [Below.heap_setCell _ _ _ _ (show r ≠ g by omega), Below.heap_setCell _ _ _ _ (show r ≠ g by omega), Below.heap_setCell _ _ _ _ (show r ≠ g by omega), Below.heap_setCell _ _ _ _ (show r ≠ g by omega), Below.heap_setCell _ _ _ _ (show r ≠ g by omega)]
            exact HX4.out
          · have e := HINS.out
            rw [HCS.out] at e
            rw [HLS.out, ← e]
            exact X5.out
  · have e1 := get_found HU.out hp hf
    obtain ⟨y, hy, hyk⟩ := found_ex hf
    rw [hy] at e1
    obtain ⟨g, c, d1, d2, d3, d4, d5, d6, d7, d8, d9, d10, d11⟩ := HR1.row hy
    have D11 := Lib.hid d11
    clear d11
    have q1 : (p : Int) < l.length := by have := (List.getElem?_eq_some_iff.1 hy).1; omega
    have HY := Lib.hid hy
    have hmv : mayV l k o = decide (y.origin ≤ o) := by unfold mayV; rw [e1]
    rw [hmv] at HM
    clear hp
    by_cases hc : y.origin > o
    · obtain rfl : false = M := by rw [← HM.out]; simp; omega
      have hSl : l = S := by rw [← HS.out]; unfold setV; rw [hmv, if_neg (by simp; omega)]
      subst hSl
      obtain ⟨y1, y2, y3, y4, y5⟩ := y
      simp only at d5 d6 d7 d8 d9 hc
      clear hmv e1 hyk hy d10
      go_wp2
      go_ret
      exact ⟨rfl, HR1, HB1, HF1⟩
    · obtain rfl : true = M := by rw [← HM.out]; simp; omega
      have hSl : l.take p ++ ⟨y.name, v, f, o, y.export_⟩ :: l.drop (p + 1) = S := by
        rw [← HS.out]; unfold setV
        rw [hmv, if_pos (by simp; omega), put_found _ rfl HU.out HP.out hf, e1]
        congr 2
        show Vr.mk _ _ _ _ _ = Vr.mk _ _ _ _ _
        rw [show y.name = k from ba_ext hyk]; rfl
      have HUS : Hid (Up S) := by unfold Hid; rw [← HS.out]; unfold setV; rw [hmv, if_pos (by simp; omega)]; exact put_up' _ HU.out
      obtain ⟨pt, pl⟩ := place_take hy
      have hrows := vRows_set (l.take p) (l.drop (p + 1)) y v f o
      rw [← pt, pl, hSl] at hrows
      have HRW := Lib.hid hrows
      have g0 := d10.ice (p * 5 + 1)
      have x1 := d10.setAt (p * 5 + 1) (.string v)
      have x2 := x1.setAt (p * 5 + 2) (.int .i64 f)
      have x3 := x2.setAt (p * 5 + 3) (.int .i64 o)
      have hgr : g ≠ r := by omega
      have X3 := Lib.hid x3
      have hG1 : rowBlk w1 r = some g := rowBlk_of D11.out
      obtain ⟨s1, t1⟩ := HF1.cell' hG1 hgr.symm (i := p * 5 + 1) (x := .string v)
      obtain ⟨s2, t2⟩ := s1.cell' t1 hgr.symm (i := p * 5 + 2) (x := .int .i64 f)
      obtain ⟨s3, t3⟩ := s2.cell' t2 hgr.symm (i := p * 5 + 3) (x := .int .i64 o)
      have HF4 := Lib.hid s3
      clear hG1 s1 t1 s2 t2 s3 t3
      have g1 := d10.ice (p * 5 + 2)
      have g2 := d10.ice (p * 5 + 3)
      have hS1 : S.length = l.length := by rw [← hSl]; conv => rhs; rw [pt]
                                           simp
      have HLS := Lib.hid hS1
      obtain ⟨y1, y2, y3, y4, y5⟩ := y
      simp only at d5 d6 d7 d8 d9 hc
      clear hmv e1 hyk hy hSl hrows pt pl x1 x2 x3 d10 hS1
      go_wp2
      go_ret
      refine ⟨rfl, ⟨⟨_, ?_, by rw [HLS.out, ← HRW.out]; exact X3.out⟩, HUS.out, by rw [HLS.out]; exact HL.out⟩, ((HB1.setCell (p := ⟨g, p * 5 + 1, none⟩) (show r ≤ g by omega) _).setCell (p := ⟨g, p * 5 + 2, none⟩) (show r ≤ g by omega) _).setCell (p := ⟨g, p * 5 + 3, none⟩) (show r ≤ g by omega) _, HF4.out⟩
      rw [Below.heap_setCell _ _ _ _ (show r ≠ g by omega), Below.heap_setCell _ _ _ _ (show r ≠ g by omega), Below.heap_setCell _ _ _ _ (show r ≠ g by omega)]
      exact D11.out
end Go.Proofs.Ytndoloohdloflab
