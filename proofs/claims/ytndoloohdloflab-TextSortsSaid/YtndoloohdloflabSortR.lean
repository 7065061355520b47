/- What the reference's Sort answers; conditions: lists that lie in memory. -/
import Derived.Test.YtndoloohdloflabSortIns
import Derived.Laws.CopyOwn
import Derived.Deep.RegionLaw
namespace Go.Proofs.Ytndoloohdloflab
open Go.RowKit

theorem ownsRow_drewN {w : World} {base : Nat} {e : TypeId} {size : Nat} {v : Value} {n : Nat} {xs : List Value} (h : w.ownsRow base e size v n xs) (k : Nat) : (w.drewN k).ownsRow base e size v n xs := h

set_option maxRecDepth 100000 in
set_option maxHeartbeats 1000000 in
theorem SortR_any (w : World) (A : Option Addr) (ca : Nat) (xs : List ByteArray) (ha : StrsAt w A xs) (hx : xs.length ≤ 20000) :
    Calls Try.prog 34 #[.slice A xs.length ca] w fun e W' => ∃ v, e = .returned v ∧ OwnG W' w.heap.size 9 1 v (sortB xs).length ((sortB xs).map Value.string) ∧ Below w.heap.size w W' := by
  obtain ⟨i0, hi, hz0, hz1, hz2⟩ := info_parts Try.info9
  obtain ⟨N, hN⟩ : ∃ N, xs.length = N := ⟨_, rfl⟩
  rw [hN] at hx ⊢
  have HN := Lib.hid hN
  clear hN
  obtain ⟨R, hR⟩ : ∃ R, sortB xs = R := ⟨_, rfl⟩
  rw [hR]
  have HR := Lib.hid hR
  clear hR
  go_enter Try.func34, Try.ntmps34
  go_wp2
  go_loopw [3, 4, 5, 6, 7] (fun v i _ _ _ wi => ∃ (k : Nat) (srt : List ByteArray), i = .int .i64 k ∧ k ≤ N ∧ srt.length ≤ k ∧ Hid (wi.ownsRow w.heap.size 9 1 v srt.length (srt.map Value.string)) ∧ Below w.heap.size w wi ∧ Hid (Inc (lst srt)) ∧ Hid (∀ y, y ∈ srt ↔ y ∈ xs.take k)) (fun _ i _ _ _ _ => N - (intOf i).toNat)
  case atStart => exact ⟨0, [], rfl, Nat.zero_le _, Nat.le_refl _, World.ownsRow_nil _ _ _ _, Below.refl _ w, by simp [Hid, lst, Inc], by simp [Hid]⟩
  case round =>
    obtain ⟨k, srt, rfl, hk, hsk, hown, hbel, hinc, hmem⟩ := hrel
    by_cases hlt : k < N
    · obtain ⟨x, hx1⟩ : ∃ x, xs[k]? = some x := ⟨_, List.getElem?_eq_getElem (by rw [HN.out]; exact hlt)⟩
      obtain ⟨b, o, rfl, hcx0⟩ := ha k x hx1
      have hcx : wr.cell? ⟨b, o + k, none⟩ = some (.string x) := by rw [hbel.cell (p := ⟨b, o + k, none⟩) (World.block_lt_of_cell? _ _ hcx0)]; exact hcx0
      have q1 : (k : Int) < N := by omega
      obtain ⟨A1, c1, rfl, hc1, _⟩ := (OwnG.of hown.out).form
      obtain ⟨L, hL⟩ : ∃ L, srt.length = L := ⟨_, rfl⟩
      have HL := Lib.hid hL
      rw [hL] at hsk hown hc1 ⊢
      clear hL
      obtain ⟨wo, hwo⟩ : ∃ wo : World, wo = wr := ⟨_, rfl⟩
      have HWO := Lib.hid hwo
      clear hwo
      go_wp2
      go_loopw [5, 6, 7] (fun a b _ wi => ∃ (s t n : Nat), a = .int .i64 s ∧ b = .int .i64 t ∧ s ≤ t ∧ t ≤ L ∧ Hid (∀ j y, srt[j]? = some y → j < s → y.toList < x.toList) ∧ Hid (∀ j y, srt[j]? = some y → t ≤ j → ¬ y.toList < x.toList) ∧ Hid (wi = wo.drewN n)) (fun a b _ _ => (intOf b).toNat - (intOf a).toNat)
      case atStart => exact ⟨0, L, 0, rfl, rfl, Nat.zero_le _, Nat.le_refl _, fun j y _ h => by omega, fun j y h1 h2 => by have := (List.getElem?_eq_some_iff.1 h1).1; have := HL.out; omega, HWO.out.symm⟩
      case round =>
        obtain ⟨s, t, n, rfl, rfl, hst, htL, hlo, hhi, hwi⟩ := hrel
        have hcxn : wr.cell? ⟨b, o + k, none⟩ = some (.string x) := by rw [hwi.out, HWO.out]; exact hcx
        have hown2 : Hid (wr.ownsRow w.heap.size 9 1 (.slice A1 L c1) L (srt.map Value.string)) := by unfold Hid; rw [hwi.out, HWO.out]; exact hown.out
        have hbel2 : Below w.heap.size w wr := by rw [hwi.out, HWO.out]; exact below_drewN hbel n
        have hS := (OwnG.of hown2.out).strsAt
        by_cases hgo : s < t
        · obtain ⟨m, hm⟩ : ∃ m, (s + t) / 2 = m := ⟨_, rfl⟩
          have hm1 : s ≤ m := by omega
          have hm2 : m < t := by omega
          have hmL : m < L := by omega
          obtain ⟨y, hy⟩ : ∃ y, srt[m]? = some y := ⟨_, List.getElem?_eq_getElem (by rw [HL.out]; exact hmL)⟩
          obtain ⟨b2, o2, rfl, hcy⟩ := hS m y hy
          have q2 : (s : Int) < t := by omega
          have q3 : IntKind.i64.wrap ((s : Int) + t) = ((s + t : Nat) : Int) := by rw [IntWalk.i64_in _ (by omega)]; omega
          have q4 : (((s : Int) + t).tdiv 2) = (m : Int) := by
            rw [Int.tdiv_eq_ediv_of_nonneg (by omega)]; omega
          have q5 : ((m : Int) < L) := by omega
          have q6 : (0 : Int) ≤ m := by omega
          by_cases hq : y.toList < x.toList
          · have HLO : Hid (∀ j z, srt[j]? = some z → j < m + 1 → z.toList < x.toList) := by
              intro j z hz hj
              rcases Nat.lt_or_eq_of_le (Nat.lt_succ_iff.1 hj) with h | h
              · exact lt_tr (inc_lt hinc.out hz hy h) hq
              · subst h; rw [hz] at hy; cases hy; exact hq
            have hb : Op.bytesLess y.toList x.toList = true := by rw [bless]; exact decide_eq_true hq
            clear hlo hS hown2 hy hcx0
            go_wp2
            go_quiet (fail)
            rename_i nq
            go_wp2
            exact ⟨⟨m + 1, t, n + nq, by go_num, rfl, by omega, htL, HLO, hhi, by unfold Hid; rw [hwi.out]; simp [World.drewN, Nat.add_assoc]⟩, by simp [intOf]; omega⟩
          · have HHI : Hid (∀ j z, srt[j]? = some z → m ≤ j → ¬ z.toList < x.toList) := by
              intro j z hz hj h
              rcases Nat.lt_or_eq_of_le hj with h2 | h2
              · exact hq (lt_tr (inc_lt hinc.out hy hz h2) h)
              · subst h2; rw [hz] at hy; cases hy; exact hq h
            have hb : Op.bytesLess y.toList x.toList = false := by rw [bless]; exact decide_eq_false hq
            clear hhi hS hown2 hy hcx0
            go_wp2
            go_quiet (fail)
            rename_i nq
            go_wp2
            exact ⟨⟨s, m, n + nq, rfl, rfl, by omega, by omega, hlo, HHI, by unfold Hid; rw [hwi.out]; simp [World.drewN, Nat.add_assoc]⟩, by simp [intOf]; omega⟩
        · obtain rfl : s = t := by omega
          have q2 : ¬ (s : Int) < s := by omega
          by_cases hpL : s < L
          · obtain ⟨y, hy⟩ : ∃ y, srt[s]? = some y := ⟨_, List.getElem?_eq_getElem (by rw [HL.out]; exact hpL)⟩
            obtain ⟨b2, o2, rfl, hcy⟩ := hS s y hy
            have q3 : (s : Int) < L := by omega
            cases hq : (y.toList == x.toList)
            · have HNE : Hid (∀ z, srt[s]? = some z → z.toList ≠ x.toList) := by
                intro z hz; rw [hz] at hy; cases hy; simpa using hq
              clear hy hS
              go_wp2
              go_quiet (fail)
              rename_i nq
              have hown3 : Hid ((wr.drewN nq).ownsRow w.heap.size 9 1 (.slice (some ⟨b2, o2, none⟩) L c1) L (srt.map Value.string)) := ownsRow_drewN hown2.out nq
              have hbel3 := below_drewN hbel2 nq
              have hcx3 : (wr.drewN nq).cell? ⟨b, o + k, none⟩ = some (.string x) := hcxn
              obtain ⟨wd, hwd⟩ : ∃ wd, wr.drewN nq = wd := ⟨_, rfl⟩
              rw [hwd] at hown3 hbel3 hcx3 ⊢
              clear hwd hown2 hbel2 hcxn hwi
              go_wp2_with (at_builtin; refine wpList_append_own_at _ rfl _ _ 36 rfl w.heap.size 9 i0 (.string ⟨#[]⟩) 1 16 Try.underlying36 hi hz0 hz1 hz2 rfl (by decide) (.slice (some ⟨b2, o2, none⟩) L c1) L (srt.map Value.string) rfl (hown3.out.alloc _) ⟨_, 0, none⟩ 1 1 [.string ⟨#[]⟩] rfl rfl (cell_one_new _ _ _) (by simp [Value.oneCell']) (by unfold maxLen; omega) (by omega) (by have := hbel3.size; simp; omega) ?_; intro v' w1 hown' hgrow _ _; obtain ⟨g, cap, rfl⟩ := ownsRow_succ hown')
              have hb1 : Below w.heap.size w w1 := (hbel3.alloc hbel3.size _).grown hgrow (by have := hbel3.size; simp; omega) (fun j hj => (hown3.out.lt j hj).1)
              have hcx4 : w1.cell? ⟨b, o + k, none⟩ = some (.string x) := by rw [hb1.cell (p := ⟨b, o + k, none⟩) (World.block_lt_of_cell? _ _ hcx0)]; exact hcx0
              rcases hown'.2 with ⟨h0, _⟩ | ⟨g', cap', cur, hv, hbase, hbk, h1, h2, h3, h4⟩
              · cases h0
              cases hv
              have hcs : ∀ j v, ((srt.drop s).map Value.string)[j]? = some v → w1.cell? ⟨g, s + j, none⟩ = some v := by
                intro j v hj
                refine (OwnG.of hown').cells (s + j) v ?_
                rw [List.map_drop, List.getElem?_drop] at hj
                rw [List.getElem?_append_left (List.getElem?_eq_some_iff.1 hj).1]
                exact hj
              have q7 : IntKind.i64.wrap ((s : Int) + 1) = ((s + 1 : Nat) : Int) := by rw [IntWalk.i64_in _ (by omega)]; omega
              have q8 : s + 1 ≤ L + 1 := by omega
              have q10 : (0 : Int) ≤ (s : Int) + 1 := by omega
              have q12 : (s : Int) ≤ (L : Int) + 1 := by omega
              have q11 : (s : Int) + 1 ≤ (L : Int) + 1 := by omega
              have q9 : s ≤ L + 1 := by omega
              have hcl : ((srt.drop s).map Value.string).length = L - s := by rw [List.length_map, List.length_drop, HL.out]
              have hone : ∀ v ∈ (srt.drop s).map Value.string, v.oneCell' = true := by
                intro u hu; obtain ⟨y, _, rfl⟩ := List.mem_map.1 hu; rfl
              have hi1 : (Try.prog.info? 9).map (·.size) = some 1 := by rw [hi]; simp [hz1]
              have hbk2 : w1.drew.heap[g]? = some (.cells cur.toList.toArray 9 (0, 0)) := by rw [Array.toArray_toList]; exact hbk
              have hb1d : Below w.heap.size w w1.drew := hb1.drew
              have hfit : s + 1 + ((srt.drop s).map Value.string).length ≤ cur.toList.length := by rw [hcl]; simp; omega
              have hcsd : ∀ j v, ((srt.drop s).map Value.string)[j]? = some v → w1.drew.cell? (Addr.add ⟨g, s, none⟩ j) = some v := by
                intro j v hj
                have e2 : Addr.add ⟨g, s, none⟩ j = ⟨g, s + j, none⟩ := by
                  simp only [Addr.add]
                  split
                  · subst_vars; rfl
                  · simp
                rw [e2]; exact hcs j v hj
              obtain ⟨cs, hcsE⟩ : ∃ cs, (srt.drop s).map Value.string = cs := ⟨_, rfl⟩
              rw [hcsE] at hcs hcl hone hfit hcsd
              have HCS := Lib.hid hcsE
              clear hcsE
              first | (go_region_law (refine step_copy_splice rfl (.tmp 56) (.tmp 59) 36 36 rfl 9 Try.underlying36 hi1 (if cap = s + 1 then some ⟨g, 0, none⟩ else some ⟨g, s + 1, none⟩) (if cap = s then some ⟨g, 0, none⟩ else some ⟨g, s, none⟩) (L - s) (cap - (s + 1)) (L + 1 - s) (cap - s) (by simp [go_sem]) (by simp [go_sem]) g (s + 1) cur.toList 9 hbk2 cs ?hn ?hp hfit hone w.heap.size w hb1d hbase ?_; (case hn => (show _ = min _ _; omega)); (case hp => (exact fun hp => ⟨if_neg (by omega), ⟨g, s, none⟩, if_neg (by omega), hcsd⟩)); intro w2 hg2 hb2)) | skip
              have hcx5 : w2.cell? ⟨b, o + k, none⟩ = some (.string x) := by rw [hb2.cell (p := ⟨b, o + k, none⟩) (World.block_lt_of_cell? _ _ hcx0)]; exact hcx0
              obtain ⟨SP, hSP⟩ : ∃ SP, splice cur.toList (s + 1) cs = SP := ⟨_, rfl⟩
              have hSPl : SP.length = cur.size := by rw [← hSP, length_splice _ _ _ hfit]; simp
              have hg3 := hg2.out
              rw [hSP] at hg3
              have hsSP : s < SP.toArray.size := by simp; omega
              have hc6 : w2.cell? ⟨g, s, none⟩ = some SP.toArray[s] := by rw [World.cell?, hg3]; simp
              have hf6 : w2.frozen? ⟨g, s, none⟩ = false := frozen_of_row w2 _ _ _ _ hg3
              have hb6 := Lib.hid (heap_setCell_same w2 g s SP.toArray 9 (.string x) hg3)
              have hbl := Lib.hid (hb2.setCell (p := ⟨g, s, none⟩) hbase (.string x))
              have hnew : Hid ((SP.toArray.setIfInBounds s (.string x)).toList.take ((L + 1) * 1) = (srt.take s ++ x :: srt.drop s).map Value.string) := by
                unfold Hid
                have e3 := ins_list cur.toList (srt.map Value.string) (.string ⟨#[]⟩) (.string x) s L (by rw [List.length_map, HL.out]) (by omega) (by rw [← h4]; simp)
                have e4 := HCS.out
                rw [List.map_drop] at e4
                rw [e4, hSP] at e3
                rw [Array.toList_setIfInBounds, Nat.mul_one]
                rw [show SP.toArray.toList = SP from rfl, e3, ← e4]
                simp
              have hlen : (srt.take s ++ x :: srt.drop s).length = L + 1 := by have := HL.out; simp; omega
              have HINC := Lib.hid (inc_ins hinc.out x s hlo.out hhi.out HNE.out)
              have HM2 : Hid (∀ z, z ∈ srt.take s ++ x :: srt.drop s ↔ z ∈ xs.take (k + 1)) := by
                intro z
                rw [mem_ins, hmem.out z, List.take_add_one, hx1, List.mem_append]
                simp [or_comm]
              generalize SP.toArray[s] = old at hc6
              have hcz : Hid ((SP.toArray.setIfInBounds s (.string x)).size = cap * 1) := by unfold Hid; rw [Array.size_setIfInBounds]; simp; omega
              clear hg3 hcs hcl hone hfit hbk hbk2 hcsd hgrow hown' hb1 hb1d hcx4 h4 hx1
              go_wp2
              refine ⟨⟨k + 1, srt.take s ++ x :: srt.drop s, by go_num, by omega, by omega, ?_, hbl.out, HINC, HM2⟩, by simp [intOf]; omega⟩
              unfold Hid
              rw [hlen]
              refine ⟨by rw [List.length_map, hlen]; omega, .inr ⟨g, cap, _, rfl, hbase, hb6.out, h1, h2, ?_, hnew.out⟩⟩
              exact hcz.out
            · have hxm : x ∈ srt := by
                have : y = x := ba_ext (by rw [← ba_toList, ← ba_toList]; simpa using hq)
                rw [← this]; exact List.mem_of_getElem? hy
              have HM2 : Hid (∀ z, z ∈ srt ↔ z ∈ xs.take (k + 1)) := by
                intro z
                rw [List.take_add_one, hx1, List.mem_append, ← hmem.out z]
                refine ⟨.inl, fun h => ?_⟩
                rcases h with h | h
                · exact h
                · simp at h; subst h; exact hxm
              clear hy hS hlo hhi hx1 hcx0 hxm
              go_wp2
              go_quiet (fail)
              rename_i nq
              go_wp2
              exact ⟨⟨k + 1, srt, by go_num, by omega, by have := HL.out; omega, by unfold Hid; rw [HL.out]; exact ownsRow_drewN hown2.out nq, below_drewN hbel2 nq, hinc, HM2⟩, by simp [intOf]; omega⟩
          · obtain rfl : s = L := by omega
            have HNE : Hid (∀ z, srt[s]? = some z → z.toList ≠ x.toList) := by
              intro z hz; have := (List.getElem?_eq_some_iff.1 hz).1; have := HL.out; omega
            clear hpL
            clear hS
            go_wp2
            go_quiet (fail)
            rename_i nq
            have hown3 : Hid ((wr.drewN nq).ownsRow w.heap.size 9 1 (.slice A1 s c1) s (srt.map Value.string)) := ownsRow_drewN hown2.out nq
            have hbel3 := below_drewN hbel2 nq
            have hcx3 : (wr.drewN nq).cell? ⟨b, o + k, none⟩ = some (.string x) := hcxn
            obtain ⟨wd, hwd⟩ : ∃ wd, wr.drewN nq = wd := ⟨_, rfl⟩
            rw [hwd] at hown3 hbel3 hcx3 ⊢
            clear hwd hown2 hbel2 hcxn hwi
            go_wp2_with (at_builtin; refine wpList_append_own_at _ rfl _ _ 36 rfl w.heap.size 9 i0 (.string ⟨#[]⟩) 1 16 Try.underlying36 hi hz0 hz1 hz2 rfl (by decide) (.slice A1 s c1) s (srt.map Value.string) rfl (hown3.out.alloc _) ⟨_, 0, none⟩ 1 1 [.string ⟨#[]⟩] rfl rfl (cell_one_new _ _ _) (by simp [Value.oneCell']) (by unfold maxLen; omega) (by omega) (by have := hbel3.size; simp; omega) ?_; intro v' w1 hown' hgrow _ _; obtain ⟨g, cap, rfl⟩ := ownsRow_succ hown')
            have hb1 : Below w.heap.size w w1 := (hbel3.alloc hbel3.size _).grown hgrow (by have := hbel3.size; simp; omega) (fun j hj => (hown3.out.lt j hj).1)
            have hcx4 : w1.cell? ⟨b, o + k, none⟩ = some (.string x) := by rw [hb1.cell (p := ⟨b, o + k, none⟩) (World.block_lt_of_cell? _ _ hcx0)]; exact hcx0
            rcases hown'.2 with ⟨h0, _⟩ | ⟨g', cap', cur, hv, hbase, hbk, h1, h2, h3, h4⟩
            · cases h0
            cases hv
            have hcs : ∀ j v, ((srt.drop s).map Value.string)[j]? = some v → w1.cell? ⟨g, s + j, none⟩ = some v := by
              intro j v hj
              refine (OwnG.of hown').cells (s + j) v ?_
              rw [List.map_drop, List.getElem?_drop] at hj
              rw [List.getElem?_append_left (List.getElem?_eq_some_iff.1 hj).1]
              exact hj
            have q7 : IntKind.i64.wrap ((s : Int) + 1) = ((s + 1 : Nat) : Int) := by rw [IntWalk.i64_in _ (by omega)]; omega
            have q8 : s + 1 ≤ s + 1 := by omega
            have q10 : (0 : Int) ≤ (s : Int) + 1 := by omega
            have q12 : (s : Int) ≤ (s : Int) + 1 := by omega
            have q11 : (s : Int) + 1 ≤ (s : Int) + 1 := by omega
            have q9 : s ≤ s + 1 := by omega
            have hcl : ((srt.drop s).map Value.string).length = s - s := by rw [List.length_map, List.length_drop, HL.out]
            have hone : ∀ v ∈ (srt.drop s).map Value.string, v.oneCell' = true := by
              intro u hu; obtain ⟨y, _, rfl⟩ := List.mem_map.1 hu; rfl
            have hi1 : (Try.prog.info? 9).map (·.size) = some 1 := by rw [hi]; simp [hz1]
            have hbk2 : w1.drew.heap[g]? = some (.cells cur.toList.toArray 9 (0, 0)) := by rw [Array.toArray_toList]; exact hbk
            have hb1d : Below w.heap.size w w1.drew := hb1.drew
            have hfit : s + 1 + ((srt.drop s).map Value.string).length ≤ cur.toList.length := by rw [hcl]; simp; omega
            have hcsd : ∀ j v, ((srt.drop s).map Value.string)[j]? = some v → w1.drew.cell? (Addr.add ⟨g, s, none⟩ j) = some v := by
              intro j v hj
              have e2 : Addr.add ⟨g, s, none⟩ j = ⟨g, s + j, none⟩ := by
                simp only [Addr.add]
                split
                · subst_vars; rfl
                · simp
              rw [e2]; exact hcs j v hj
            obtain ⟨cs, hcsE⟩ : ∃ cs, (srt.drop s).map Value.string = cs := ⟨_, rfl⟩
            rw [hcsE] at hcs hcl hone hfit hcsd
            have HCS := Lib.hid hcsE
            clear hcsE
            first | (go_region_law (refine step_copy_splice rfl (.tmp 56) (.tmp 59) 36 36 rfl 9 Try.underlying36 hi1 (if cap = s + 1 then some ⟨g, 0, none⟩ else some ⟨g, s + 1, none⟩) (if cap = s then some ⟨g, 0, none⟩ else some ⟨g, s, none⟩) (s - s) (cap - (s + 1)) (s + 1 - s) (cap - s) (by simp [go_sem]) (by simp [go_sem]) g (s + 1) cur.toList 9 hbk2 cs ?hn ?hp hfit hone w.heap.size w hb1d hbase ?_; (case hn => (show _ = min _ _; omega)); (case hp => (exact fun hp => ⟨if_neg (by omega), ⟨g, s, none⟩, if_neg (by omega), hcsd⟩)); intro w2 hg2 hb2)) | skip
            have hcx5 : w2.cell? ⟨b, o + k, none⟩ = some (.string x) := by rw [hb2.cell (p := ⟨b, o + k, none⟩) (World.block_lt_of_cell? _ _ hcx0)]; exact hcx0
            obtain ⟨SP, hSP⟩ : ∃ SP, splice cur.toList (s + 1) cs = SP := ⟨_, rfl⟩
            have hSPl : SP.length = cur.size := by rw [← hSP, length_splice _ _ _ hfit]; simp
            have hg3 := hg2.out
            rw [hSP] at hg3
            have hsSP : s < SP.toArray.size := by simp; omega
            have hc6 : w2.cell? ⟨g, s, none⟩ = some SP.toArray[s] := by rw [World.cell?, hg3]; simp
            have hf6 : w2.frozen? ⟨g, s, none⟩ = false := frozen_of_row w2 _ _ _ _ hg3
            have hb6 := Lib.hid (heap_setCell_same w2 g s SP.toArray 9 (.string x) hg3)
            have hbl := Lib.hid (hb2.setCell (p := ⟨g, s, none⟩) hbase (.string x))
            have hnew : Hid ((SP.toArray.setIfInBounds s (.string x)).toList.take ((s + 1) * 1) = (srt.take s ++ x :: srt.drop s).map Value.string) := by
              unfold Hid
              have e3 := ins_list cur.toList (srt.map Value.string) (.string ⟨#[]⟩) (.string x) s s (by rw [List.length_map, HL.out]) (by omega) (by rw [← h4]; simp)
              have e4 := HCS.out
              rw [List.map_drop] at e4
              rw [e4, hSP] at e3
              rw [Array.toList_setIfInBounds, Nat.mul_one]
              rw [show SP.toArray.toList = SP from rfl, e3, ← e4]
              simp
            have hlen : (srt.take s ++ x :: srt.drop s).length = s + 1 := by have := HL.out; simp; omega
            have HINC := Lib.hid (inc_ins hinc.out x s hlo.out hhi.out HNE.out)
            have HM2 : Hid (∀ z, z ∈ srt.take s ++ x :: srt.drop s ↔ z ∈ xs.take (k + 1)) := by
              intro z
              rw [mem_ins, hmem.out z, List.take_add_one, hx1, List.mem_append]
              simp [or_comm]
            generalize SP.toArray[s] = old at hc6
            have hcz : Hid ((SP.toArray.setIfInBounds s (.string x)).size = cap * 1) := by unfold Hid; rw [Array.size_setIfInBounds]; simp; omega
            clear hg3 hcs hcl hone hfit hbk hbk2 hcsd hgrow hown' hb1 hb1d hcx4 h4 hx1
            go_wp2
            refine ⟨⟨k + 1, srt.take s ++ x :: srt.drop s, by go_num, by omega, by omega, ?_, hbl.out, HINC, HM2⟩, by simp [intOf]; omega⟩
            unfold Hid
            rw [hlen]
            refine ⟨by rw [List.length_map, hlen]; omega, .inr ⟨g, cap, _, rfl, hbase, hb6.out, h1, h2, ?_, hnew.out⟩⟩
            exact hcz.out
    · have hE : R = srt := by
        rw [← HR.out]
        refine (sortB_is hinc.out fun z => ?_).symm
        have h2 := hmem.out ⟨z.toArray⟩
        rw [List.take_of_length_le (by have := HN.out; omega)] at h2
        rw [← mem_lst, ← mem_lst] at h2
        exact h2
      rw [← hE] at hown
      have HO := Lib.hid (OwnG.of hown.out)
      clear hE hown hinc hmem
      go_wp2
      go_ret
      exact ⟨_, rfl, HO.out, hbel⟩
end Go.Proofs.Ytndoloohdloflab
