/- What package pat's Filter answers; conditions: lists that lie in memory. -/
import Derived.Test.YtndoloohdloflaaPatFil
import Derived.RegionIn
import Derived.Deep.AppendLies
import Derived.Deep.RegionLaw
namespace Go.Proofs.Ytndoloohdloflaa
open Go.RowKit Go.Shelf
attribute [local go_sem] Oper.semAt_some
theorem below_grown {W W' : World} (h : Below W.heap.size W W') : W.grownBy W' none := by
  obtain ⟨a, b, c, d, e⟩ := h
  exact ⟨a, b, c, d, fun k hk _ => e k hk⟩
theorem Try.info67 : (Try.prog.info? 67).map (fun i => (i.zero, i.size, i.bytes)) = some (some .nilFunc, 1, 8) := by kernel_rfl

theorem StrsAt.below {w w' : World} {B : Nat} {A : Option Addr} {xs : List ByteArray} (h : StrsAt w A xs) (hB : w.heap.size ≤ B) (hb : Below B w w') : StrsAt w' A xs := by
  intro j x hj
  obtain ⟨b, o, e, hc⟩ := h j x hj
  have hlt := World.block_lt_of_cell? _ _ hc
  exact ⟨b, o, e, by rw [hb.cell (p := ⟨b, o + j, none⟩) (Nat.lt_of_lt_of_le hlt hB)]; exact hc⟩

theorem lent_at {w : World} {base g cap : Nat} {xs : List ByteArray} (h : OwnG w base 9 1 (.slice (some ⟨g, 0, none⟩) (xs.length + 1) cap) (xs.length + 1) ((xs ++ [lentX]).map Value.string)) :
    StrsAt w (some ⟨g, 0, none⟩) xs ∧ w.cell? ⟨g, xs.length, none⟩ = some (.string lentX) ∧ xs.length + 1 ≤ cap := by
  have hc := h.cells
  refine ⟨fun j x hj => ⟨g, 0, rfl, ?_⟩, ?_, ?_⟩
  · have hlt := (List.getElem?_eq_some_iff.1 hj).1
    rw [Nat.zero_add]
    refine hc j _ ?_
    rw [List.getElem?_map, List.getElem?_append_left hlt, hj]; rfl
  · refine hc _ _ ?_
    rw [List.getElem?_map, List.getElem?_append_right (Nat.le_refl _)]; simp
  · obtain ⟨A', c', e, h1, _⟩ := h.form
    cases e; exact h1

set_option maxRecDepth 100000 in
set_option maxHeartbeats 1000000 in
theorem Stays_any (w : World) (g cap : Nat) (A : Option Addr) (ca : Nat) (xs : List ByteArray) (h1 : StrsAt w (some ⟨g, 0, none⟩) xs) (hx : w.cell? ⟨g, xs.length, none⟩ = some (.string lentX)) (hcap : xs.length + 1 ≤ cap) (_ : cap ≤ 9223372036854775807) (h2 : StrsAt w A xs) (hz : xs.length ≤ 20000) :
    Calls Try.prog 28 #[.slice (some ⟨g, 0, none⟩) xs.length cap, .slice A xs.length ca] w fun e w' => e = .returned (.bool true) ∧ Below w.heap.size w w' := by
  have HS := Lib.hid fun (n : Nat) => Same_any (w.drewN n) (some ⟨g, 0, none⟩) A cap ca xs xs (h1.below (Nat.le_refl _) (below_drewN (Below.refl _ w) n)) (h2.below (Nat.le_refl _) (below_drewN (Below.refl _ w) n)) (by omega)
  rw [sameL_self] at HS
  have hgl := World.block_lt_of_cell? _ _ hx
  obtain ⟨N, hN⟩ : ∃ N, xs.length = N := ⟨_, rfl⟩
  rw [hN] at hx hcap hz HS ⊢
  have q1 : (N : Int) + 1 ≤ cap := by omega
  have q2 : IntKind.i64.wrap ((N : Int) + 1) = ((N + 1 : Nat) : Int) := by rw [IntWalk.i64_in _ (by omega)]; omega
  clear h1 h2 hN
  have hlx : lentX.toList = [45, 55, 49] := by decide +kernel
  go_enter Try.func28, Try.ntmps28
  go_wp2_with (go_at_call 29; refine (HS.out 0).mono ?_; rintro e w' ⟨rfl, hb⟩)
  go_ret
  exact ⟨rfl, hb⟩

theorem cell_same {W W0 : World} {b : Nat} (h : W.heap[b]? = W0.heap[b]?) (o : Nat) : W.cell? ⟨b, o, none⟩ = W0.cell? ⟨b, o, none⟩ := by simp [World.cell?, h]
theorem ownFrom_size {β : Type} (B c : Nat) : OwnFrom B (fun (_ : β) (W : World) => c ≤ W.heap.size) := fun _ _ _ _ h hg _ => by
  obtain ⟨_, _, _, d, _⟩ := hg
  exact Nat.le_trans h d
theorem keepAll_b {bl c : Nat} (W : World) (l : Nat) (o' : Obj) (hc : c ≤ l) : KeepAll bl c W (W.putObj l o') := ⟨by simp, fun k hk _ => World.putObj_heap_other (by omega)⟩
theorem chosen_any (A : Option Addr) (N c : Nat) (g : Fn) (cs : Array Value) (w : World) : Calls Try.prog 73 #[.slice A N c, .func g #[] cs] w fun e w' => e = .returned (.func (.func 95) #[] #[.pointer (some ⟨w.heap.size, 0, none⟩), .pointer (some ⟨w.heap.size + 1, 0, none⟩)]) ∧ w' = (w.alloc (.cells #[.slice A N c] 30)).alloc (.cells #[.func g #[] cs] 29) := by
  go_enter Try.func73, Try.ntmps73
  go_wp2
  go_ret
  exact ⟨by simp, rfl⟩
set_option maxRecDepth 100000 in
theorem chosen_stops (bl c wb sb M mb ob : Nat) (xs : List ByteArray) (B : Option Addr) (cb : Nat) (f : ByteArray → Bool) (W0 : World) (hM : xs.length = M) (hl2 : M ≤ 20000) (hc : W0.heap.size = c)
    (HF : ∀ W, KeepAll bl c W0 W → W.cell? ⟨wb, 0, none⟩ = some (.slice B M cb) ∧ W.cell? ⟨sb, 0, none⟩ = some (.func (.func 72) #[] #[.pointer (some ⟨mb, 0, none⟩), .pointer (some ⟨ob, 0, none⟩)]) ∧ StrsAt W B xs ∧
      ∀ x ∈ xs, Calls Try.prog 72 #[.string x, .pointer (some ⟨mb, 0, none⟩), .pointer (some ⟨ob, 0, none⟩)] W fun e w' => e = .returned (.bool (f x)) ∧ Below W.heap.size W w') :
    SeqStopsK Fence.wide 11 Try.prog 95 #[.pointer (some ⟨wb, 0, none⟩), .pointer (some ⟨sb, 0, none⟩)] (fun x : ByteArray => #[Value.string x]) (KeepAll bl c) (fun ys => ys = xs.filter f) (fun _ => True) (M + 1) W0 := fun l J Jx W hW hJ _ hY h0 =>
  chosen1_in l bl c wb sb M mb ob xs B cb f W0 hM hl2 HF J Jx (fun s A A' hs hb => hJ s A A' none hs (below_grown hb) (fun r e => by cases e)) hY W (KeepAll.of_below hW (by omega)) (by omega) h0

set_option maxRecDepth 100000 in
set_option maxHeartbeats 2000000 in
theorem Filter_in (w : World) (A B : Option Addr) (ca cb : Nat) (ps xs : List ByteArray) (out : Bool) (ha : StrsAt w A ps) (hb : StrsAt w B xs) (hN : ps.length ≤ 20000) (hM : xs.length ≤ 20000)
    (hps : ∀ p ∈ ps, p.size ≤ 140737488351232) (hxs : ∀ x ∈ xs, x.size ≤ 140737488351232) :
    CallsIn Fence.wide 12 Try.prog 27 #[.slice A ps.length ca, .slice B xs.length cb, .bool out] w fun e W' => ∃ v, e = .returned v ∧ W'.ownsRow w.heap.size 9 1 v (filtB ps xs out).length ((filtB ps xs out).map Value.string) ∧ Below w.heap.size w W' := by
  obtain ⟨i0, hi, hz0, hz1, hz2⟩ := info_parts Try.info67
  obtain ⟨i9, hi9, hz90, hz91, hz92⟩ := info_parts Try.info9
  obtain ⟨N, hNN⟩ : ∃ N, ps.length = N := ⟨_, rfl⟩
  obtain ⟨M, hMM⟩ : ∃ M, xs.length = M := ⟨_, rfl⟩
  have HN := Lib.hid hNN
  have HM := Lib.hid hMM
  rw [hNN] at hN ⊢
  rw [hMM] at hM ⊢
  clear hNN hMM
  refine callsIn_of_wp_marks Try.func27 rfl trivial ?_ rfl
  simp only [Try.ntmps27, List.size_toArray, List.length_cons, List.length_nil, Nat.reduceAdd, Nat.reduceSub, Array.replicate_succ, Array.replicate_zero, List.push_toArray, List.append_toArray, List.nil_append, List.cons_append]
  gi_wp2
  gi_loopw [15] (fun i wi => ∃ (k : Nat) (v : Value), i = .int .i64 k ∧ k ≤ N ∧ Boxed wi w.heap.size 4 (.bool out) ∧ Boxed wi (w.heap.size + 1) 68 v ∧ wi.ownsRow w.heap.size 67 1 v k ((ps.take k).map patV) ∧ Below w.heap.size w wi) (fun i _ => N - (intOf i).toNat)
  case atStart =>
    have b0 := Boxed.new w 4 (.bool out)
    have b1 := Boxed.new (w.alloc (.cells #[.bool out] 4)) 68 (.slice none 0 0)
    rw [World.size_alloc] at b1
    exact ⟨0, _, rfl, Nat.zero_le _, b0.alloc _, b1, World.ownsRow_nil _ _ _ _, ((Below.refl _ w).alloc (Nat.le_refl _) _).alloc (by simp) _⟩
  case round =>
    obtain ⟨k, v, rfl, hk, hbo, hbm, hrow, hbel⟩ := hrel
    by_cases hlt : k < N
    · obtain ⟨p, hp1⟩ : ∃ p, ps[k]? = some p := ⟨_, List.getElem?_eq_getElem (by rw [HN.out]; exact hlt)⟩
      obtain ⟨b, o, rfl, hcx0⟩ := ha k p hp1
      have hcx : wr.cell? ⟨b, o + k, none⟩ = some (.string p) := by rw [hbel.cell (p := ⟨b, o + k, none⟩) (World.block_lt_of_cell? _ _ hcx0)]; exact hcx0
      have q1 : (k : Int) < N := by omega
      have HO := Lib.hid (of_any p wr (hps p (List.mem_of_getElem? hp1)))
      have hcm := hbm.cell
      have hfm := hbm.frozen
      gi_wp2
      have hbelD : Below w.heap.size w wr.drew := hbel.drew
      have hrowD := hrow.drew
      have hone : ∀ v : Value, v.ownBlock = none ∨ v.ownBlock ≠ none := fun v => by cases v.ownBlock <;> simp
      refine wpIn_wide.2 ?_
      first | (go_region_law (first
        | (refine step_append_lies _ rfl _ _ 68 rfl w.heap.size 67 i0 .nilFunc 1 8 Try.underlying68 hi hz0 hz1 hz2 rfl (by decide) v k _ rfl (hrow'.alloc _) ⟨_, 0, none⟩ 1 1 [patV p] rfl rfl (cell_one_new _ _ _) (by simp [Value.oneCell', patV]) (by decide) (by unfold maxLen; omega) (by omega) (by have := hb1.size; simp; omega) _ rfl ?_; intro g cap w2 hown2 hgrow2 hat hlt2; obtain ⟨hv1, hv2, hr2, _, hb2⟩ := hbm2.appended (by decide) hrow' hb1.size (by omega) hown2 hgrow2; have hbo2 : Boxed w2 w.heap.size 4 (.bool out) := (hbo1'.alloc _).kept hgrow2 (hbo1'.not_row (by decide) hrow'); have hc1 := hv1.cell; have hf1 := hv1.frozen)
        | (go_simp; go_at_call 69; refine (of_any p _ (hps p (List.mem_of_getElem? hp1))).mono ?_; rintro e w' ⟨rfl, hbo1⟩; have hb1 := hbelD.trans (hbo1.mono hbelD.size); have hrow' := hrowD.kept (below_grown hbo1) (hone v); have hbm2 : Boxed w' (w.heap.size + 1) 68 v := (show Boxed wr.drew _ _ _ from hbm).kept (below_grown hbo1) (by simp); have hbo1' : Boxed w' w.heap.size 4 (.bool out) := (show Boxed wr.drew _ _ _ from hbo).kept (below_grown hbo1) (by simp); have hcm2 := hbm2.cell; have hcm3 := fun o => (hbm2.alloc o).cell))) | fail
      all_goals
        have htk : (ps.take (k + 1)).map patV = (ps.take k).map patV ++ [patV p] := by rw [List.take_add_one, hp1]; simp
        have hfin := Lib.hid (show Boxed _ _ _ _ ∧ Boxed _ _ _ _ ∧ World.ownsRow _ _ _ _ _ _ _ ∧ Below _ _ _ from ⟨hbo2.other (B' := w.heap.size + 1) (by omega) (.slice (some ⟨g, 0, none⟩) (k + 1) cap), hv2, hr2, hb1.trans hb2⟩)
        clear hv1 hv2 hr2 hb2 hbo2 hgrow2 hown2
        gi_wp2
        exact ⟨⟨k + 1, _, by go_num, by omega, hfin.out.1, hfin.out.2.1, by rw [htk]; exact hfin.out.2.2.1, hfin.out.2.2.2⟩, by simp [intOf]; omega⟩
    · obtain rfl : k = N := by omega
      have htk : (ps.take k).map patV = ps.map patV := by rw [List.take_of_length_le (by have := HN.out; omega)]
      rw [htk] at hrow
      have hOG := OwnG.of hrow
      have hlt1 := hbm.lt
      have hsz := hbel.size
      gi_wp2_with (refine ⟨trivial, ?_⟩; gi_at_call 73; refine (callsIn_wide.2 (chosen_any _ _ _ _ _ _)).mono ?_; rintro e w' ⟨rfl, rfl⟩)
      obtain ⟨sv, hsv⟩ : ∃ sv : Value, sv = .func (.func 72) #[] #[.pointer (some ⟨w.heap.size + 1, 0, none⟩), .pointer (some ⟨w.heap.size, 0, none⟩)] := ⟨_, rfl⟩
      rw [← hsv]
      have bL := Boxed.new wr 30 (.slice none 0 0)
      have bW := Boxed.new (wr.alloc (.cells #[.slice none 0 0] 30)) 30 (.slice B M cb)
      have bS := Boxed.new ((wr.alloc (.cells #[.slice none 0 0] 30)).alloc (.cells #[.slice B M cb] 30)) 29 sv
      simp only [World.size_alloc] at bW bS
      have hB0 : Below wr.heap.size wr (((wr.alloc (.cells #[.slice none 0 0] 30)).alloc (.cells #[.slice B M cb] 30)).alloc (.cells #[sv] 29)) := (((Below.refl _ wr).alloc (Nat.le_refl _) _).alloc (by simp) _).alloc (by simp; omega) _
      have bL0 := (bL.alloc (.cells #[.slice B M cb] 30)).alloc (.cells #[sv] 29)
      have bW0 := bW.alloc (.cells #[sv] 29)
      have bM0 := hbm.kept (below_grown hB0) (by simp)
      have bO0 := hbo.kept (below_grown hB0) (by simp)
      have hO0 := hOG.below hB0
      have hS0 := (hb.below (Nat.le_refl _) hbel).below (Nat.le_refl _) hB0
      have hbS := hb
      have hc0 : (((wr.alloc (.cells #[.slice none 0 0] 30)).alloc (.cells #[.slice B M cb] 30)).alloc (.cells #[sv] 29)).heap.size = wr.heap.size + 3 := by simp
      generalize (((wr.alloc (.cells #[.slice none 0 0] 30)).alloc (.cells #[.slice B M cb] 30)).alloc (.cells #[sv] 29)) = W0 at *
      have HF : ∀ W, KeepAll wr.heap.size (wr.heap.size + 3) W0 W → W.cell? ⟨wr.heap.size + 1, 0, none⟩ = some (.slice B M cb) ∧ W.cell? ⟨wr.heap.size + 2, 0, none⟩ = some (.func (.func 72) #[] #[.pointer (some ⟨w.heap.size + 1, 0, none⟩), .pointer (some ⟨w.heap.size, 0, none⟩)]) ∧ StrsAt W B xs ∧
          ∀ x ∈ xs, Calls Try.prog 72 #[.string x, .pointer (some ⟨w.heap.size + 1, 0, none⟩), .pointer (some ⟨w.heap.size, 0, none⟩)] W fun e w' => e = .returned (.bool (hitB ps x != out)) ∧ Below W.heap.size W w' := by
        intro W hK
        have e1 := hK.2 (wr.heap.size + 1) (by omega) (by omega)
        have e2 := hK.2 (wr.heap.size + 2) (by omega) (by omega)
        have e3 := hK.2 (w.heap.size + 1) (by omega) (by omega)
        have e4 := hK.2 w.heap.size (by omega) (by omega)
        refine ⟨by rw [cell_same e1]; exact bW0.cell, by rw [cell_same e2, ← hsv]; exact bS.cell, ?_, ?_⟩
        · intro j x hj
          obtain ⟨b, o, e, hc⟩ := hS0 j x hj
          obtain ⟨b2, o2, e', hc'⟩ := hbS j x hj
          rw [e] at e'; cases e'
          have hlt3 := World.block_lt_of_cell? _ _ hc'
          exact ⟨b, o, e, by rw [cell_same (hK.2 b (by simp at hlt3; omega) (by simp at hlt3; omega))]; exact hc⟩
        · intro x hx
          refine so_any _ _ v k ps out x W w.heap.size HN.out hps (hxs x hx) hN (e3.trans bM0) (e4.trans bO0) (hO0.move fun g hg => hK.2 g ?_ ?_)
          · have := (hOG.block_lt g hg).2; omega
          · have := (hOG.block_lt g hg).2; omega
      clear hsv
      refine wpIn_rangeFunc_ownG rfl (by omega) (gf := 95) (lb := #[.pointer (some ⟨wr.heap.size + 1, 0, none⟩), .pointer (some ⟨wr.heap.size + 2, 0, none⟩)]) rfl trivial (enters_of Try.func95 (by kernel_rfl) rfl)
        (chosen_stops wr.heap.size (wr.heap.size + 3) (wr.heap.size + 1) (wr.heap.size + 2) M (w.heap.size + 1) w.heap.size xs B cb (fun x => hitB ps x != out) W0 HM.out hM hc0 HF) (fun h k => h.trans k) (fun W l o o' h _ hcl _ => keepAll_b W l o' (by omega)) (Below.refl _ _) (fun _ => rfl)
        (fun pre W => (∃ v, Boxed W wr.heap.size 30 v ∧ W.ownsRow w.heap.size 9 1 v pre.length (pre.map Value.string) ∧ ∀ g, v.ownBlock = some g → wr.heap.size + 3 ≤ g) ∧ Below w.heap.size w W ∧ wr.heap.size + 3 ≤ W.heap.size)
        (fun _ _ _ => False)
        (OwnFrom.and (Own.from (holdsRow_own w.heap.size wr.heap.size 30 9 1 (fun pre : List ByteArray => pre.length) (fun pre => pre.map Value.string) (fun _ v => ∀ g, v.ownBlock = some g → wr.heap.size + 3 ≤ g)) _) (OwnFrom.and (ownFrom_below (Nat.le_refl _) (by omega)) (ownFrom_size _ _)))
        (fun _ _ _ _ _ hs _ _ => hs)
        ⟨⟨_, bL0, World.ownsRow_nil _ _ _ _, by simp [Value.ownBlock]⟩, hbel.trans (hB0.mono hsz), by omega⟩
        (fun x => { tmps := #[.slice A k ca, .slice B M cb, .bool out, undef, undef, .pointer (some ⟨w.heap.size, 0, none⟩), .slice none 0 0, .pointer (some ⟨w.heap.size + 1, 0, none⟩), undef, u9, sv, .pointer (some ⟨wr.heap.size, 0, none⟩), .string x, .slice A k ca, .int .i64 k, .int .i64 k, .bool false, u17, u18, u19, u20, u21, u22, u23, u24, u25, sv, .slice B M cb, sv, .func (.func 95) #[] #[.pointer (some ⟨wr.heap.size + 1, 0, none⟩), .pointer (some ⟨wr.heap.size + 1 + 1, 0, none⟩)], .string x, undef, undef, undef, undef, undef], defers := [] }) ?assign ?body ?done ?stop
      case assign =>
        intro l x W K hK
        gi_wp2
        exact hK
      case body =>
        rintro l pre x W ⟨⟨v, hv, hrow2, hne⟩, hB, hcW⟩ hlt5
        have hc := hv.cell
        have HNE := Lib.hid hne
        clear hne
        gi_wp2_with (gi_at_builtin; refine wpListIn_append_own_at _ rfl _ _ 30 rfl w.heap.size 9 i9 (.string ⟨#[]⟩) 1 16 Try.underlying30 hi9 hz90 hz91 hz92 rfl (by decide) v pre.length (pre.map Value.string) rfl (hrow2.alloc _) ⟨W.heap.size, 0, none⟩ 1 1 [.string x] rfl rfl (cell_one_new _ _ _) (by simp [Value.oneCell']) (by unfold maxLen; omega) (by omega) (by have := hB.size; simp; omega) ?_; intro v' w1 hown' hgrow _ hat; obtain ⟨g', cap', rfl⟩ := ownsRow_succ hown'; have HG := Lib.hid hgrow; have HAT := Lib.hid hat; obtain ⟨hv1, hv2, hr2, hk2, hb2⟩ := hv.appended (by decide) hrow2 hB.size (by omega) hown' hgrow; have hc1 := hv1.cell; have hf1 := hv1.frozen; clear hgrow hat)
        have hlt1 := hv.lt
        refine ⟨hk2.from _, ?_, ⟨_, hv2, by simpa using hr2, ?_⟩, hB.trans hb2, ?_⟩
        · refine ⟨hb2.size, fun j hj hne => ?_⟩
          have e1 := Below.heap_setCell w1 ⟨wr.heap.size, 0, none⟩ (.slice (some ⟨g', 0, none⟩) (pre.length + 1) cap') j (by simpa using hne)
          exact e1.trans ((HG.out.block _ (by simp; omega) (fun e => by have := HNE.out j e.symm; omega)).trans (Below.heap_alloc W _ _ (by omega)))
        · intro g hg
          rcases HAT.out with h | h
          · rw [h] at hg; exact HNE.out g hg
          · rw [h] at hg; simp at hg; omega
        · exact Nat.le_trans hcW hb2.size
      case done =>
        rintro D ys W hD hys ⟨⟨v, hv, hrow, _⟩, hB, _⟩ hK
        subst hys
        have hc := hv.cell
        have hB2 := hB.trans (belowK_b (w := w) (Nat.le_refl _) W D _ (.deferred none) (by omega) hK rfl rfl)
        gi_wp2
        refine ⟨by simp, .inl ⟨_, _, rfl, run_takeDeferred hK, ?_⟩⟩
        exact ⟨_, results_tmp rfl _ _ _, v, rfl, ownsRow_putObj hrow _ hK rfl, hB2⟩
      case stop =>
        rintro D c pre W _ _ h _
        exact h.elim

theorem Filter_any (w : World) (A B : Option Addr) (ca cb : Nat) (ps xs : List ByteArray) (out : Bool) (ha : StrsAt w A ps) (hb : StrsAt w B xs) (hN : ps.length ≤ 20000) (hM : xs.length ≤ 20000)
    (hps : ∀ p ∈ ps, p.size ≤ 140737488351232) (hxs : ∀ x ∈ xs, x.size ≤ 140737488351232) :
    Calls Try.prog 27 #[.slice A ps.length ca, .slice B xs.length cb, .bool out] w fun e W' => ∃ v, e = .returned v ∧ OwnG W' w.heap.size 9 1 v (filtB ps xs out).length ((filtB ps xs out).map Value.string) ∧ Below w.heap.size w W' :=
  (callsIn_wide.1 (Filter_in w A B ca cb ps xs out ha hb hN hM hps hxs)).mono fun _ _ ⟨v, he, ho, hb⟩ => ⟨v, he, OwnG.of ho, hb⟩
end Go.Proofs.Ytndoloohdloflaa
