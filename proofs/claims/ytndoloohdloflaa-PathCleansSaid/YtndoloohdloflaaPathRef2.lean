/- What the reference's Clean, Parent and Tail answer: what package path's answer; conditions: texts of at most some hundred thousand bytes. -/
import Derived.Test.YtndoloohdloflaaPathRef
namespace Go.Proofs.Ytndoloohdloflaa
open Go.RowKit

theorem bs3' {w w1 w2 : World} (h : Below w.heap.size w w1) (k : Below w1.heap.size w1 w2) : Below w.heap.size w w2 := h.trans (k.mono h.size)
/-- The elements of a list that a call has got, at hand in every later world. -/
theorem elems_of {w : World} {base : Nat} {A : Option Addr} {c : Nat} {l : List ByteArray} (hv : OwnG w base 9 1 (.slice A l.length c) l.length (l.map .string)) :
    ∀ W, Below w.heap.size w W → ∀ k (h : k < l.length), ∃ g, A = some ⟨g, 0, none⟩ ∧ W.cell? ⟨g, k, none⟩ = some (.string l[k]) := by
  intro W hW k hk
  have hv := hv.below hW
  rcases hv.2 with ⟨_, h0⟩ | ⟨g, cap, cur, he, _⟩
  · omega
  · cases he
    exact ⟨g, rfl, hv.cells k _ (by rw [List.getElem?_map, List.getElem?_eq_getElem hk]; rfl)⟩

theorem fold_len (ps l : List ByteArray) : (ps.foldl stepN l).length ≤ l.length + ps.length := by
  induction ps generalizing l with
  | nil => simp
  | cons x ps ih => have := ih (stepN l x); have := stepN_len l x; simp only [List.foldl_cons, List.length_cons]; omega

set_option maxRecDepth 100000 in
set_option maxHeartbeats 2000000 in
theorem refClean_walk (s : ByteArray) (w : World) (hs : s.size ≤ 900000) :
    Calls Try.prog 45 #[.string s] w fun e w' => e = .returned (.string (cleanB s)) ∧ Below w.heap.size w w' := by
  obtain ⟨i0, hi, hz0, hz1, hz2⟩ := info_parts Try.info9
  have HN := Lib.hid (refNames_walk s · hs)
  have htn := tot_names s
  have ht := tot_rnames s
  have hlen := len_tot (rnames s)
  have HF : Hid ((rnames s).foldl stepN [] = namesB s) := rnames_fold s
  have HNE : Hid (∀ k (h : k < (rnames s).length), (rnames s)[k].data.toList ≠ []) := fun k h e => by
    have hm : (rnames s)[k] ∈ rnames s := List.getElem_mem h
    have h2 := (List.mem_filter.1 hm).2
    rw [e] at h2; simp at h2
  unfold cleanB
  generalize namesB s = ns at *
  generalize rnames s = l at *
  go_enter Try.func45, Try.ntmps45
  go_wp2_with fail
  refine (HN.out _).mono ?_
  rintro e w1 ⟨v, rfl, hv, hb1⟩
  obtain ⟨A, c, rfl, hnc, hcm⟩ := hv.form
  have HE := Lib.hid (elems_of hv)
  clear hv HN
  go_wp2_with fail
  go_loopw [4, 5] (fun o i wr => ∃ (k : Nat) (acc : List ByteArray), i = .int .i64 k ∧ k ≤ l.length ∧ acc.length ≤ k ∧ OwnG wr w1.heap.size 9 1 o acc.length (acc.map .string) ∧ Below w1.heap.size w1 wr ∧ Hid (acc = (l.take k).foldl stepN []))
    (fun _ i _ => l.length - (intOf i).toNat)
  case atStart => exact ⟨0, [], rfl, Nat.zero_le _, by simp, OwnG.nil _ _ _ _, Below.refl _ _, rfl⟩
  case round =>
    obtain ⟨k, acc, rfl, hk, hak, hv, hbw, hacc⟩ := hrel
    obtain ⟨A2, c2, rfl, hnc2, hcm2⟩ := hv.form
    have hsz := hbw.size
    by_cases hlt : k < l.length
    · obtain ⟨g, rfl, hcell⟩ := HE.out wr hbw k hlt
      have e1 : (k : Int).toNat = k := by omega
      have HS : Hid (stepN acc l[k] = (l.take (k + 1)).foldl stepN []) := by
        unfold Hid; rw [List.take_succ_eq_append_getElem hlt, List.foldl_append, ← hacc.out]; rfl
      have HV := Lib.hid hv
      clear hv hacc
      have hll := stepN_len acc l[k]
      have h1 := HNE.out k hlt
      generalize l[k] = n at *
      by_cases h2 : n.data.toList = [46]
      · have HS2 : Hid (stepN acc n = acc) := by unfold Hid stepN; simp [h2]
        have t1 : n.toList = [46] := by rw [ba_toList]; exact h2
        clear h1 h2 hll
        go_wp2
        exact ⟨⟨k + 1, acc, by go_num, by omega, by omega, HV.out, hbw, HS2.out.symm.trans HS.out⟩, by simp [intOf]; omega⟩
      by_cases h3 : n.data.toList = [46, 46]
      · have HS2 : Hid (stepN acc n = acc.dropLast) := by unfold Hid stepN; simp [h3]
        have t1 : n.toList = [46, 46] := by rw [ba_toList]; exact h3
        clear h1 h2 h3 hll
        by_cases h0 : acc.length = 0
        · have hl0 : acc = [] := List.eq_nil_of_length_eq_zero h0
          subst hl0
          clear h0
          go_wp2
          exact ⟨⟨k + 1, [], by go_num, by omega, by simp, HV.out, hbw, HS2.out.symm.trans HS.out⟩, by simp [intOf]; omega⟩
        · have p0 : 0 < acc.length := by omega
          clear h0
          obtain ⟨g2, hA⟩ : ∃ g, A2 = some ⟨g, 0, none⟩ := by
            rcases HV.out.2 with ⟨_, h0⟩ | ⟨g, cap, cur, h, _⟩
            · omega
            · cases h; exact ⟨g, rfl⟩
          subst hA
          have p1 : (0 : Int) ≤ (acc.length : Int) - 1 := by omega
          have p2 : ((acc.length : Int) - 1).toNat = acc.length - 1 := by omega
          have p3 : (acc.length : Int) - 1 ≤ c2 := by omega
          have HT := Lib.hid (HV.out.take (acc.length - 1) c2 (by omega) (by omega) (Nat.le_refl _))
          go_wp2
          refine ⟨⟨k + 1, acc.dropLast, by go_num, by omega, by rw [List.length_dropLast]; omega, ?_, hbw, HS2.out.symm.trans HS.out⟩, by simp [intOf]; omega⟩
          rw [List.length_dropLast, List.dropLast_eq_take, List.map_take]
          simpa using HT.out
      · skip
        · have HS2 : Hid (stepN acc n = acc ++ [n]) := by unfold Hid stepN; simp [h1, h2, h3]
          have t2 : (n.toList == [46]) = false := by rw [ba_toList]; simpa using h2
          have t3 : (n.toList == [46, 46]) = false := by rw [ba_toList]; simpa using h3
          clear h1 h2 h3 hll
          have HO : Hid (OwnG (wr.alloc (.cells #[.string n] 9)) w1.heap.size 9 1 (.slice A2 acc.length c2) acc.length (acc.map .string)) := HV.out.below ((Below.refl _ _).alloc (Nat.le_refl _) _)
          go_wp2_with (at_builtin; refine wpList_append_G _ rfl _ _ 30 rfl w1.heap.size 9 i0 (.string ⟨#[]⟩) 1 16 Try.underlying30 hi hz0 hz1 hz2 rfl (.slice A2 acc.length c2) acc.length (acc.map .string) rfl HO.out ⟨wr.heap.size, 0, none⟩ 1 1 [.string n] rfl rfl (cell_one_new _ _ _) (by simp [Value.oneCell']) (by omega) (by unfold maxLen; omega) (by omega) (by simp; omega) ?_; intro g3 cap3 w3 hown1 hgrow1 hat hlt1; have HO1 := Lib.hid hown1; have HG1 := Lib.hid (appd_below hbw hsz HO.out hgrow1); clear hown1 hgrow1 hat)
          exact ⟨⟨k + 1, acc ++ [n], by go_num, by omega, by simp; omega, by simpa using HO1.out, HG1.out, HS2.out.symm.trans HS.out⟩, by simp [intOf]; omega⟩
    · obtain rfl : k = l.length := by omega
      have hacc2 : acc = ns := by rw [hacc.out, List.take_length, HF.out]
      subst hacc2
      have HV := Lib.hid hv
      clear hv
      go_wp2_with fail
      refine (slashed_walk _ acc w1.heap.size _ HV.out (by omega)).mono ?_
      rintro e w4 ⟨rfl, hb4⟩
      go_wp2
      go_ret
      exact ⟨rfl, (hb1.trans (hbw.mono hb1.size)).trans (hb4.mono (by have := hb1.size; omega))⟩

theorem filter_goods (l : List ByteArray) (h : Goods l) : l.filter (fun x => !x.data.toList.isEmpty) = l :=
  List.filter_eq_self.2 fun x hx => by have := (h x hx).1; simpa using this
theorem rnames_join (l : List ByteArray) (h : Goods l) : rnames (joinSl l) = l := by
  by_cases hl : l = []
  · subst hl; decide
  · unfold rnames
    rw [split_join l (fun x hx => (h x hx).2.2.2) hl, filter_goods l h]
theorem rnames_clean (s : ByteArray) : rnames (cleanB s) = namesB s := rnames_join _ (goods_names s)
theorem par_eq (s : ByteArray) : parB s = joinSl (namesB s).dropLast ∧ (namesB s ≠ [] → lstB s = (namesB s).getLast?.getD ⟨#[]⟩) ∧ (namesB s = [] → parB s = ⟨#[]⟩ ∧ lstB s = ⟨#[]⟩) := by
  have hg := goods_names s
  have e : parB s = parB (joinSl (namesB s)) ∧ lstB s = lstB (joinSl (namesB s)) := by
    unfold parB lstB; rw [clean_join _ hg]; exact ⟨rfl, rfl⟩
  rw [e.1, e.2]
  generalize namesB s = l at *
  rcases List.eq_nil_or_concat l with rfl | ⟨l, x, rfl⟩
  · exact ⟨by decide +kernel, fun h => absurd rfl h, fun _ => by decide +kernel⟩
  · rw [List.concat_eq_append] at hg ⊢
    obtain ⟨h1, h2⟩ := par_join l x hg
    rw [h1, h2]
    exact ⟨by simp, fun _ => by simp, fun h => by simp at h⟩

set_option maxRecDepth 100000 in
set_option maxHeartbeats 1000000 in
theorem refParent_walk (s : ByteArray) (w : World) (hs : s.size ≤ 900000) :
    Calls Try.prog 47 #[.string s] w fun e w' => e = .returned (.string (parB s)) ∧ Below w.heap.size w w' := by
  have hcs := cleanB_le s
  have HC := Lib.hid (refClean_walk s · hs)
  have HN := Lib.hid (refNames_walk (cleanB s) · (by omega))
  have ht := tot_names s
  have hlen := len_tot (namesB s)
  obtain ⟨hp, _, hp0⟩ := par_eq s
  rw [rnames_clean] at HN
  have HP : Hid (if (namesB s).length = 0 then parB s = ⟨#[]⟩ else parB s = joinSl ((namesB s).take ((namesB s).length - 1))) := by
    unfold Hid; split
    · rename_i h; exact (hp0 (List.eq_nil_of_length_eq_zero h)).1
    · rw [hp, List.dropLast_eq_take]
  clear hp hp0
  have HTT : Hid (tot ((namesB s).take ((namesB s).length - 1)) ≤ tot (namesB s)) := by unfold Hid; rw [← List.dropLast_eq_take]; exact tot_dropLast _
  generalize parB s = pa at *
  generalize cleanB s = cl at *
  generalize namesB s = l at *
  go_enter Try.func47, Try.ntmps47
  go_wp2_with fail
  refine (HC.out _).mono ?_
  rintro e w1 ⟨rfl, hb1⟩
  go_wp2_with fail
  refine (HN.out _).mono ?_
  rintro e w2 ⟨v, rfl, hv, hb2⟩
  obtain ⟨A, c, rfl, hnc, hcm⟩ := hv.form
  have HV := Lib.hid hv
  clear hv
  by_cases h0 : l.length = 0
  · have hp : Hid (pa = ⟨#[]⟩) := by have := HP.out; rw [if_pos h0] at this; exact this
    have hb0 : ((l.length : Int) == 0) = true := by rw [beq_iff_eq]; omega
    clear h0 HP
    go_wp2
    go_ret
    exact ⟨ret_str hp.out.symm, bs3' hb1 hb2⟩
  · have hp : Hid (pa = joinSl (l.take (l.length - 1))) := by have := HP.out; rw [if_neg h0] at this; exact this
    have hb0 : ((l.length : Int) == 0) = false := by rw [beq_eq_false_iff_ne]; omega
    obtain ⟨g2, hA⟩ : ∃ g, A = some ⟨g, 0, none⟩ := by
      rcases HV.out.2 with ⟨_, h0⟩ | ⟨g, cap, cur, h, _⟩
      · omega
      · cases h; exact ⟨g, rfl⟩
    subst hA
    have p1 : (0 : Int) ≤ (l.length : Int) - 1 := by omega
    have p2 : ((l.length : Int) - 1).toNat = l.length - 1 := by omega
    have p3 : (l.length : Int) - 1 ≤ c := by omega
    have HT := Lib.hid (HV.out.take (l.length - 1) c (by omega) (by omega) (Nat.le_refl _))
    have hl1 : (l.take (l.length - 1)).length = l.length - 1 := by rw [List.length_take]; omega
    clear h0 HP
    go_wp2_with fail
    refine (slashed_walk _ (l.take (l.length - 1)) w1.heap.size _ (by rw [hl1, List.map_take]; simpa using HT.out) (by have := HTT.out; omega)).mono ?_
    rintro e w4 ⟨rfl, hb4⟩
    go_wp2
    go_ret
    exact ⟨ret_str hp.out.symm, bs3' (bs3' hb1 hb2) hb4⟩

set_option maxRecDepth 100000 in
set_option maxHeartbeats 1000000 in
theorem refTail_walk (s : ByteArray) (w : World) (hs : s.size ≤ 900000) :
    Calls Try.prog 48 #[.string s] w fun e w' => e = .returned (.string (lstB s)) ∧ Below w.heap.size w w' := by
  have hcs := cleanB_le s
  have HC := Lib.hid (refClean_walk s · hs)
  have HN := Lib.hid (refNames_walk (cleanB s) · (by omega))
  have ht := tot_names s
  have hlen := len_tot (namesB s)
  obtain ⟨_, hp, hp0⟩ := par_eq s
  rw [rnames_clean] at HN
  have HP : Hid ((namesB s).length = 0 → lstB s = ⟨#[]⟩) := fun h => (hp0 (List.eq_nil_of_length_eq_zero h)).2
  have HP2 : Hid (∀ (h : (namesB s).length - 1 < (namesB s).length), lstB s = (namesB s)[(namesB s).length - 1]) := fun h => by
    rw [hp (fun e => by rw [e] at h; simp at h), List.getLast?_eq_getElem?, List.getElem?_eq_getElem h]; rfl
  clear hp hp0
  generalize lstB s = pa at *
  generalize cleanB s = cl at *
  generalize namesB s = l at *
  go_enter Try.func48, Try.ntmps48
  go_wp2_with fail
  refine (HC.out _).mono ?_
  rintro e w1 ⟨rfl, hb1⟩
  go_wp2_with fail
  refine (HN.out _).mono ?_
  rintro e w2 ⟨v, rfl, hv, hb2⟩
  obtain ⟨A, c, rfl, hnc, hcm⟩ := hv.form
  by_cases h0 : l.length = 0
  · have hp := Lib.hid (HP.out h0)
    have hb0 : ((l.length : Int) == 0) = true := by rw [beq_iff_eq]; omega
    clear h0 HP HP2 hv
    go_wp2
    go_ret
    exact ⟨ret_str hp.out.symm, bs3' hb1 hb2⟩
  · have hlt : l.length - 1 < l.length := by omega
    have hp := Lib.hid (HP2.out hlt)
    obtain ⟨g, rfl, hcell⟩ := elems_of hv w2 (Below.refl _ _) (l.length - 1) hlt
    have hb0 : ((l.length : Int) == 0) = false := by rw [beq_eq_false_iff_ne]; omega
    have p1 : (0 : Int) ≤ (l.length : Int) - 1 := by omega
    have p2 : ((l.length : Int) - 1).toNat = l.length - 1 := by omega
    have p3 : (l.length : Int) - 1 < l.length := by omega
    clear h0 HP HP2 hv
    go_wp2
    go_ret
    exact ⟨ret_str hp.out.symm, bs3' hb1 hb2⟩
end Go.Proofs.Ytndoloohdloflaa
