/- List: all variables by rising names, in a slice of the caller's; condition: the names rise in the list by which the store is told. -/
import Derived.Test.YtndoloohdloflabVarsSort
import Derived.Shelf.SlSortCmp.NoneTotal
import Derived.Maps.RangeWalk
namespace Go.Proofs.Ytndoloohdloflab
open Go.RowKit Go.Maps Go.Sort

theorem heap_last2 (w : World) (o1 o2 : Obj) : ((w.alloc o1).alloc o2).heap[w.heap.size + 1]? = some o2 := by
  have := heap_alloc_last (w.alloc o1) o2
  rwa [World.size_alloc] at this
theorem Try.isAgg64' : ∀ w, (isAgg 64).run Try.prog w = .ok true w := fun w => by kernel_rfl
theorem Try.sizeOf64' : ∀ w, (Go.sizeOf 64).run Try.prog w = .ok 5 w := fun w => by kernel_rfl

theorem heap_sortedV {w : World} {g n : Nat} {os : Array Obj} {cur : Array Value} {e : TypeId} {fr : Nat × Nat} (d : Array Value) (hb : w.heap[g]? = some (.cells cur e fr)) :
    (grow (putRow id (Sort.ahead w n) g 0 d) os).heap[g]? = some (.cells (putCells id 0 d cur) e fr) := by
  have hg : g < w.heap.size := (Array.getElem?_eq_some_iff.1 hb).1
  rw [heap_grow_old _ _ (by simpa using hg)]
  simp [putRow, mapBlock, Sort.ahead, Array.getElem?_modify, hb, onCells]
theorem grownBy_sortedV {w : World} {g n : Nat} {os : Array Obj} (d : Array Value) : w.grownBy (grow (putRow id (Sort.ahead w n) g 0 d) os) (some g) := by
  refine ⟨rfl, rfl, rfl, by simp, fun k hk hne => ?_⟩
  rw [heap_grow_old _ _ (by simpa using hk)]
  have : g ≠ k := fun e => hne (by rw [e])
  simp [putRow, mapBlock, Sort.ahead, Array.getElem?_modify, this]
theorem take_putV (cur : Array Value) (ts : List Value) (h : ts.length ≤ cur.size) : (putCells id 0 ts.toArray cur).toList.take ts.length = ts := by
  apply List.ext_getElem?
  intro j
  by_cases hj : j < ts.length
  · rw [List.getElem?_take_of_lt hj, Array.getElem?_toList]
    simp [putCells, hj, show j < cur.size by omega]
  · rw [List.getElem?_take_eq_none (by omega), List.getElem?_eq_none (by omega)]

set_option maxHeartbeats 1000000 in
theorem SortFunc_any (w : World) (base g n c : Nat) (cs l : List Vr) (hO : OwnG w base 64 5 (.slice (some ⟨g, 0, none⟩) n c) n (vRows cs)) (hlen : cs.length = n) (hup : Up l) (hmem : ∀ x, x ∈ cs ↔ x ∈ l) (hnd : cs.Pairwise fun a b => a.nm ≠ b.nm) (hn : n ≤ 100000) :
    Calls Try.prog 69 #[.slice (some ⟨g, 0, none⟩) n c, .func (.func 70) #[] #[]] w fun e w' => e = .returned (.tuple #[]) ∧ OwnG w' base 64 5 (.slice (some ⟨g, 0, none⟩) n c) n (vRows l) ∧ w.grownBy w' (some g) := by
  have eg : ∀ args w, (callFunc 70 args).run Try.prog w = .ok (.enter 70 args) w := enters_of Try.func70 (by kernel_rfl) rfl
  have hsz : cs.toArray.size = n := by simpa using hlen
  rcases hO.2 with ⟨h0, _⟩ | ⟨g', cap, cur, e, hg, hbk, hnc, hcm, hcs, ht⟩
  · cases h0
  cases e
  have hH : HoldsK Vr.cells 5 w g 0 cs.toArray := by
    intro j hj
    have hj' : j < n * 5 := by rw [size_flatK, hsz] at hj; exact hj
    refine ⟨?_, by rw [Nat.zero_add]; exact hO.ice j⟩
    rw [Nat.zero_add]
    refine hO.cells j _ ?_
    rw [← flat_rows, Array.getElem?_toList, getElem!_pos (flatK Vr.cells 5 cs.toArray) j hj]
    exact Array.getElem?_eq_getElem hj
  have hcon := AnyQ.slices_SortFunc Try.sortVr 5 Try.isAgg64' Try.sizeOf64' Vr.cells (fun _ => rfl) (fun x v hv => by simp [Vr.cells] at hv; rcases hv with rfl | rfl | rfl | rfl | rfl <;> rfl) cfV swoV 70 #[] g 0 c cs.toArray w eg (fun _ _ _ _ x y => cmpVr_any x y _) hH (Array.getElem?_eq_some_iff.1 hbk).1 (by rw [hsz]; omega)
  change Calls Try.prog 69 _ _ _ at hcon
  rw [hsz] at hcon
  refine hcon.mono ?_
  rintro e w' ⟨rfl, d', m, os, hp, hs, rfl⟩
  rw [← hsz] at hp hs
  obtain rfl := sorted_is hp hs hup hmem hnd
  have hll : l.length = n := by
    have := hp.1
    simpa [hlen] using this
  unfold sortWorldK putRowK
  rw [show flatK Vr.cells 5 l.toArray = (vRows l).toArray from by rw [← flat_rows]]
  refine ⟨rfl, ⟨by rw [vRows_len, hll], .inr ⟨g, c, _, rfl, hg, heap_sortedV _ hbk, hnc, hcm, by simp [putCells]; omega, ?_⟩⟩, grownBy_sortedV _⟩
  have := take_putV cur (vRows l) (by rw [vRows_len, hll]; have := Nat.mul_le_mul_right 5 hnc; omega)
  rwa [vRows_len, hll] at this

theorem SortAll_any (w w0 : World) (base n c : Nat) (A : Option Addr) (cs l : List Vr) (hO : OwnG w base 64 5 (.slice A n c) n (vRows cs)) (hlen : cs.length = n) (hup : Up l) (hmem : ∀ x, x ∈ cs ↔ x ∈ l) (hnd : cs.Pairwise fun a b => a.nm ≠ b.nm) (hn : n ≤ 100000) (hb : Below w0.heap.size w0 w) (hbase : w0.heap.size ≤ base) :
    Calls Try.prog 69 #[.slice A n c, .func (.func 70) #[] #[]] w fun e w' => e = .returned (.tuple #[]) ∧ OwnG w' w0.heap.size 64 5 (.slice A n c) l.length (vRows l) ∧ Below w0.heap.size w0 w' := by
  have hz := hO
  rcases hO.2 with ⟨e, rfl⟩ | ⟨g', cap, cur, e, hg, hbk, hnc, hcm, hcs, ht⟩
  · have hc : cs = [] := List.eq_nil_of_length_eq_zero hlen
    have hl : l = [] := List.eq_nil_iff_forall_not_mem.2 fun x hx => by have := (hmem x).2 hx; rw [hc] at this; cases this
    subst hl
    have h := AnyF.slices_SortFunc_none Try.sortVr A c (.func (.func 70) #[] #[]) w
    change Calls Try.prog 69 _ _ _ at h
    refine h.mono ?_
    rintro e1 w' ⟨rfl, rfl⟩
    exact ⟨rfl, by rw [e]; exact OwnG.nil _ _ _ _, hb⟩
  · cases e
    refine (SortFunc_any w base g' n c cs l hz hlen hup hmem hnd hn).mono ?_
    rintro e1 w' ⟨rfl, h1, h2⟩
    have hll : n = l.length := by have := h1.1; rw [vRows_len] at this; omega
    subst hll
    exact ⟨rfl, h1.lower hbase, hb.grown h2 hb.size (by intro k e; cases e; omega)⟩

theorem ranges_key {w : World} {m r n : Nat} {l : List Vr} {left : Lit → Bool} {cnt : Nat} (h : w.ranges Try.prog 9 RV m r n (dOf l) left cnt) {z : Lit} (hk : left z = true) : ∃ v ∈ l, z = kl v.name := by
  obtain ⟨es, clock, since, seen, c0, hb, F, hs, hD, hr, hold, hc, hl1, hl2, hsc, hsk⟩ := h
  obtain ⟨x, hx, rfl⟩ := hl2 _ hk
  have hD' : l.map entV = (es.toList.map (WideElems.rg Try.prog 9 RV)).foldr DataW.insert [] := DataW.map.inj hD
  have : WideElems.rg Try.prog 9 RV x ∈ l.map entV := by rw [hD']; exact mem_sorted.2 (List.mem_map_of_mem hx)
  obtain ⟨v, hv, e⟩ := List.mem_map.1 this
  exact ⟨v, hv, by rw [← e]; rfl⟩
theorem key_string {key : Value} {z : Lit} (h : keyOf Try.prog 9 key = some z) : ∃ x : ByteArray, key = .string x := by
  cases key <;> simp [keyOf, Try.underlying9, mapKey] at h
  exact ⟨_, rfl⟩
theorem key_lit {x : ByteArray} {z : Lit} (h : keyOf Try.prog 9 (.string x) = some z) : z = kl x := by
  simp [keyOf, Try.underlying9, mapKey] at h
  obtain ⟨_, rfl⟩ := h
  rfl
theorem get_mem {l : List Vr} (hu : Up l) {v : Vr} (hv : v ∈ l) : getV l v.name = some v := by
  unfold getV
  induction l with
  | nil => cases hv
  | cons y l ih =>
    obtain ⟨h1, h2⟩ := List.pairwise_cons.1 hu
    rw [List.find?_cons]
    rcases List.mem_cons.1 hv with rfl | hv
    · simp
    · have : (y.name.data.toList == v.name.data.toList) = false := by
        have := ne_of_lt' (h1 v hv)
        simpa [Vr.nm] using this
      rw [this]; exact ih h2 hv
theorem mem_get {l : List Vr} {k : ByteArray} {v : Vr} (h : getV l k = some v) : v ∈ l ∧ v.name = k := by
  unfold getV at h
  refine ⟨List.mem_of_find?_eq_some h, ba_ext ?_⟩
  have := List.find?_some h
  simpa using this
theorem store_mlt {w : World} {p m : Nat} {l : List Vr} (h : StoreAt w p m l) : m < w.heap.size := by
  obtain ⟨es, clock, hb, _⟩ := h.map
  exact (Array.getElem?_eq_some_iff.1 hb).1

set_option maxRecDepth 100000 in
set_option maxHeartbeats 1000000 in
theorem List_any (w : World) (p m : Nat) (l : List Vr) (H : StoreAt w p m l) (hu : Up l) :
    Calls Try.prog 42 #[.pointer (some ⟨p, 0, none⟩)] w fun e w' => ∃ v, e = .returned v ∧ OwnG w' w.heap.size 64 5 v l.length (vRows l) ∧ Below w.heap.size w w' := by
  obtain ⟨i0, hi, hz0, hz1, hz2⟩ := info_parts Try.info64
  have hb := H.box.cell
  have hlt := H.box.lt
  have HM := Lib.hid H.map
  have hmlt := store_mlt H
  have hlen := H.len
  have HU := Lib.hid hu
  clear H hu
  obtain ⟨N, hN⟩ : ∃ N, l.length = N := ⟨_, rfl⟩
  have HN := Lib.hid hN
  rw [hN] at HM hlen
  clear hN
  go_enter Try.func42, Try.ntmps42
  go_wp2_with (at_range; refine wpList_range_own _ rfl _ 85 rfl 9 64 sk9 Try.underlying85 RV m _ (dOf l) rfl HM.out ?_; intro w0 hrg0 hg0 hs0)
  go_frame
  go_loopw [3, 5] (fun v _ wr => ∃ (left : Lit → Bool) (cnt : Nat) (cs : List Vr), wr.ranges Try.prog 9 RV m w.heap.size N (dOf l) left cnt ∧ OwnG wr (w.heap.size + 1) 64 5 v cs.length (vRows cs) ∧ cs.length + cnt ≤ N ∧ Hid (∀ x, x ∈ cs ↔ x ∈ l ∧ left (kl x.name) = false) ∧ Hid (cs.Pairwise fun a b => a.nm ≠ b.nm) ∧ Below w.heap.size w wr ∧ w.heap.size < wr.heap.size) (fun _ _ wr => wr.rangeLeft m w.heap.size)
  case atStart =>
    refine ⟨_, _, [], hrg0, OwnG.nil _ _ _ _, by rw [dOf_size, HN.out]; simp, ?_, List.Pairwise.nil, (Below.refl _ w).grown hg0 (Nat.le_refl _) (by simp), by omega⟩
    intro x
    constructor
    · intro h; cases h
    · rintro ⟨h1, h2⟩
      have := dOf_has l x.name
      rw [h2, get_mem HU.out h1] at this
      cases this
  case round =>
    obtain ⟨left, cnt, cs, hrg, hown, hcn, hmem, hnd, hbel, hsz⟩ := hrel
    obtain ⟨A, c, rfl, hc1, hc2⟩ := hown.form
    obtain ⟨L, hL⟩ : ∃ L, cs.length = L := ⟨_, rfl⟩
    have HLc := Lib.hid hL
    rw [hL] at hown hcn hc1 ⊢
    clear hL
    go_wp2_with (at_next; refine wpList_next_ranges _ rfl _ rfl 9 sk9 RV Value.string (fun v : Value => v) (fun key z hk => key_string hk) (fun v y _ => ⟨v, rfl⟩) m w.heap.size N _ left cnt rfl hrg ?_ ?_)
    · intro hc0 hl0
      have HS := Lib.hid (SortAll_any wr w (w.heap.size + 1) L c A cs l hown HLc.out HU.out (fun x => (hmem.out x).trans ⟨fun h => h.1, fun h => ⟨h, hl0 _⟩⟩) hnd.out (by omega) hbel (by omega))
      clear hown hmem hnd hrg hrg0
      go_wp2_with (go_at_call 69; refine HS.out.mono ?_; rintro e w5 ⟨rfl, ho5, hb5⟩)
      go_ret
      exact ⟨.slice A L c, rfl, ho5, hb5⟩
    · intro x cv z y ps w1 cnt1 hkey hlx hR hat hrg1 hltc hg1 hs1 hen
      obtain ⟨q, hq, hzq⟩ := ranges_key hrg hlx
      obtain rfl := key_lit hkey
      have hxq : x = q.name := by
        have : x.data.toList = q.name.data.toList := by unfold kl at hzq; injection hzq
        exact ba_ext this
      have hcv : cv = q.val := by
        have h1 := hat (.held vr0.val)
        rw [dOf_at, hxq, get_mem HU.out hq] at h1
        have h2 : y = .held cv := by
          unfold RV at hR
          injection hR with hR
          exact (congrArg Prod.fst hR).symm
        rw [h2] at h1
        injection h1 with h1
        exact h1.symm
      subst hcv
      subst hxq
      obtain ⟨q1, q2, q3, q4, q5⟩ := q
      unfold Vr.val at hen
      have hmem2 : Hid (∀ x, x ∈ cs ++ [⟨q1, q2, q3, q4, q5⟩] ↔ x ∈ l ∧ (left (kl x.name) && !(kl x.name).sameKey (kl q1)) = false) := by
        intro v
        rw [List.mem_append, List.mem_singleton, hmem.out v]
        constructor
        · rintro (⟨h1, h2⟩ | rfl)
          · exact ⟨h1, by rw [h2]; rfl⟩
          · exact ⟨hq, by simp [kl, Lit.sameKey]⟩
        · rintro ⟨h1, h2⟩
          by_cases h3 : left (kl v.name) = false
          · exact .inl ⟨h1, h3⟩
          · right
            have h4 : (kl v.name).sameKey (kl q1) = true := by
              cases h5 : (kl v.name).sameKey (kl q1) with
              | true => rfl
              | false => rw [h5] at h2; simp at h2; exact absurd h2 h3
            have h6 : v.name = q1 := ba_ext (by simpa [kl, Lit.sameKey] using h4)
            have h7 := get_mem HU.out h1
            have h8 := get_mem HU.out hq
            rw [h6] at h7
            rw [h7] at h8
            injection h8
      have hnd2 : Hid ((cs ++ [(⟨q1, q2, q3, q4, q5⟩ : Vr)]).Pairwise fun a b => a.nm ≠ b.nm) := by
        refine List.pairwise_append.2 ⟨hnd.out, by simp, fun a ha b hb => ?_⟩
        rw [List.mem_singleton] at hb
        subst hb
        obtain ⟨h1, h2⟩ := (hmem.out a).1 ha
        intro e
        have h6 : a.name = q1 := ba_ext e
        rw [h6] at h2
        rw [h2] at hlx; cases hlx
      have hbk : ∀ j, (Value.slice A L c).ownBlock = some j → w.heap.size + 1 ≤ j := fun j hj => (hown.block_lt j hj).1
      have hown1 := hown.move (w' := w1) fun j hj => hg1.block j (hown.block_lt j hj).2 (by intro e; cases e; have := hbk _ hj; omega)
      have HO := Lib.hid fun o1 o2 => (hown1.below ((Below.refl _ w1).alloc (Nat.le_refl _) o1)).below ((Below.refl _ (w1.alloc o1)).alloc (Nat.le_refl _) o2)
      have hbel1 := hbel.grown hg1 hbel.size (by intro k e; cases e; exact Nat.le_refl _)
      have HK : Hid (∀ o1 o2 w2, ((w1.alloc o1).alloc o2).grownBy w2 (Value.slice A L c).ownBlock → w2.ranges Try.prog 9 RV m w.heap.size N (dOf l) (fun z_1 => left z_1 && !z_1.sameKey (kl q1)) cnt1 ∧ RowKit.Below w.heap.size w w2 ∧ w.heap.size < w2.heap.size) := by
        intro o1 o2 w2 hg
        have hz2 := hg.size
        have e1 : ((w1.alloc o1).alloc o2).heap.size = w1.heap.size + 1 + 1 := by simp
        refine ⟨((hrg1.alloc o1).alloc o2).kept hg ?_ ?_, ((hbel1.alloc hbel1.size o1).alloc (by have := hbel1.size; simp; omega) o2).grown hg (by rw [e1]; have := hbel1.size; omega) (fun j hj => by have := hbk j hj; omega), by rw [e1] at hz2; omega⟩
        · intro e; have := hbk m e.symm; omega
        · intro e; have := hbk _ e.symm; omega
      have hq1 : cs.length = L := HLc.out
      have hn1 : L < 1000 := by omega
      have hsz1 : w.heap.size < w1.heap.size := by omega
      have HLE := Lib.hid hrg.left_eq
      clear hs1 hown hown1 hrg hrg1 hat hR hkey hg1 hmem hnd hbel hbel1 hq
      go_wp2_with (at_builtin; refine wpList_append_G _ rfl _ _ 48 rfl (w.heap.size + 1) 64 i0 (.agg #[.string ⟨#[]⟩, .string ⟨#[]⟩, .int .i64 0, .int .i64 0, .int .i64 0]) 5 56 Try.underlying48 hi hz0 hz1 hz2 rfl (.slice A L c) L (vRows cs) rfl (HO.out _ _) ⟨w1.heap.size + 1, 0, none⟩ 1 1 [.string q1, .string q2, .int .i64 q3, .int .i64 q4, .int .i64 q5] rfl rfl (World.news_of_block (heap_last2 _ _ _)) (by simp [Value.oneCell']) (by decide) (by unfold maxLen; omega) (by omega) (by simp; omega) ?_; intro g cap w2 hown2 hgrow2 _ _; obtain ⟨k1, k2, k3⟩ := HK.out _ _ _ hgrow2; have HOW := Lib.hid hown2; clear hown2 hgrow2)
      go_roundw
      case rel => exact ⟨_, cnt1, cs ++ [⟨q1, q2, q3, q4, q5⟩], k1, by rw [vRows_app, List.length_append, hq1]; exact HOW.out, by rw [List.length_append, hq1]; simp; omega, hmem2, hnd2, k2, k3⟩
      case measure => rw [k1.left_eq, HLE.out]; exact hltc
end Go.Proofs.Ytndoloohdloflab
