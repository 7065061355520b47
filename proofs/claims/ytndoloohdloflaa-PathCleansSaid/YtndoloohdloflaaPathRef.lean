/- What the reference's functions on paths answer; conditions: texts of at most some hundred thousand bytes. -/
import Derived.Test.YtndoloohdloflaaPathMath
namespace Go.Proofs.Ytndoloohdloflaa
open Go.RowKit

/-- What stands between slashes, without what is empty. -/
def rnames (s : ByteArray) : List ByteArray := ((splitSl s.data.toList).map mk).filter fun x => !x.data.toList.isEmpty
def RAt (s : ByteArray) (fr pos : Nat) (acc : List ByteArray) : Prop :=
  rnames s = acc ++ ((splitSl (s.data.toList.drop fr)).map mk).filter (fun x => !x.data.toList.isEmpty) ∧ ∀ j, fr ≤ j → j < pos → (s.get! j).toNat ≠ 47
theorem RAt.start (s : ByteArray) : RAt s 0 0 [] := ⟨by simp [rnames], fun j _ h => by omega⟩
theorem ext_empty (s : ByteArray) (a b : Nat) (hb : b ≤ s.size) : (s.extract a b).data.toList.isEmpty = decide (b ≤ a) := by
  rw [extract_list, Bool.eq_iff_iff]
  simp only [List.isEmpty_iff, List.drop_eq_nil_iff, List.length_take, Array.length_toList, decide_eq_true_eq]
  have : s.data.size = s.size := rfl
  omega
theorem RAt.slash {s : ByteArray} {fr pos : Nat} {acc : List ByteArray} (h : RAt s fr pos acc) (hf : fr ≤ pos) (hp : pos < s.size) (hs : (s.get! pos).toNat = 47) : RAt s (pos + 1) (pos + 1) (if pos ≤ fr then acc else acc ++ [s.extract fr pos]) := by
  refine ⟨?_, fun j a b => by omega⟩
  rw [h.1]
  have hd : s.data.toList.drop fr = ((s.data.toList.take pos).drop fr) ++ 47 :: s.data.toList.drop (pos + 1) := by
    have e1 : s.data.toList = s.data.toList.take pos ++ s.data.toList.drop pos := (List.take_append_drop _ _).symm
    have e2 : s.data.toList.drop pos = 47 :: s.data.toList.drop (pos + 1) := by
      rw [List.drop_eq_getElem_cons (by simpa using hp), get_list s pos hp]
      congr 1; exact UInt8.toNat_inj.1 hs
    rw [← e2]
    conv => lhs; rw [e1]
    rw [List.drop_append_of_le_length (by simp; omega)]
  have he := ext_empty s fr pos (by omega)
  have hm : mk ((s.data.toList.take pos).drop fr) = s.extract fr pos := by apply ba_ext; rw [extract_list]; rfl
  rw [hd, split_at _ _ (seg_no h.2 (by omega)), List.map_cons, hm]
  by_cases c : pos ≤ fr
  · rw [if_pos c, List.filter_cons, he]; simp [c]
  · rw [if_neg c, List.filter_cons, he]; simp [c]
theorem RAt.skip {s : ByteArray} {fr pos : Nat} {acc : List ByteArray} (h : RAt s fr pos acc) (hs : (s.get! pos).toNat ≠ 47) : RAt s fr (pos + 1) acc :=
  ⟨h.1, fun j a b => by by_cases c : j < pos; exact h.2 j a c; rw [show j = pos by omega]; exact hs⟩
theorem RAt.done {s : ByteArray} {fr : Nat} {acc : List ByteArray} (h : RAt s fr s.size acc) : rnames s = if s.size ≤ fr then acc else acc ++ [s.extract fr s.size] := by
  have hn := seg_no (s := s) (fr := fr) (pos := s.size) h.2 (Nat.le_refl _)
  rw [List.take_of_length_le (by simp)] at hn
  have he := ext_empty s fr s.size (Nat.le_refl _)
  have hm : mk (s.data.toList.drop fr) = s.extract fr s.size := by apply ba_ext; rw [extract_list, List.take_of_length_le (by simp)]; rfl
  rw [h.1, split_no _ hn, List.map_cons, List.map_nil, hm, List.filter_cons, he]
  by_cases c : s.size ≤ fr
  · rw [if_pos c]; simp [c]
  · rw [if_neg c]; simp [c]
theorem bget (s : ByteArray) (j : Nat) (h : j < s.size) : s[j] = s.get! j := by rw [← get_list s j h, Array.getElem_toList]; rfl

theorem appd_below {w0 w w1 : World} {base : Nat} {v : Value} {n : Nat} {xs : List Value} {o : Obj} (hb : Below base w0 w) (hbs : base ≤ w.heap.size) (HO : OwnG (w.alloc o) base 9 1 v n xs) (hg : (w.alloc o).grownBy w1 v.ownBlock) : Below base w0 w1 :=
  (hb.alloc hbs o).grown hg (by simp; omega) (fun k e => (HO.block_lt k e).1)

set_option maxRecDepth 100000 in
set_option maxHeartbeats 1000000 in
theorem refNames_walk (s : ByteArray) (w : World) (hs : s.size ≤ 900000) :
    Calls Try.prog 80 #[.string s] w fun e w' => ∃ v, e = .returned v ∧ OwnG w' w.heap.size 9 1 v (rnames s).length ((rnames s).map .string) ∧ Below w.heap.size w w' := by
  obtain ⟨i0, hi, hz0, hz1, hz2⟩ := info_parts Try.info9
  go_enter Try.func80, Try.ntmps80
  go_wp2_with fail
  go_loopw [3, 4, 5] (fun v f i wr => ∃ (k fr : Nat) (acc : List ByteArray), i = .int .i64 k ∧ f = .int .i64 fr ∧ acc.length ≤ fr ∧ fr ≤ k ∧ OwnG wr w.heap.size 9 1 v acc.length (acc.map .string) ∧ Below w.heap.size w wr ∧ ((k ≤ s.size ∧ RAt s fr k acc) ∨ (k = s.size + 1 ∧ rnames s = acc)))
    (fun _ _ i _ => s.size + 1 - (intOf i).toNat)
  case atStart => exact ⟨0, 0, [], rfl, rfl, by simp, Nat.le_refl _, OwnG.nil _ _ _ _, Below.refl _ _, .inl ⟨Nat.zero_le _, RAt.start s⟩⟩
  case round =>
    obtain ⟨k, fr, acc, rfl, rfl, hal, hfk, hv, hbw, hr⟩ := hrel
    obtain ⟨A, c, rfl, hnc, hcm⟩ := hv.form
    have hsz := hbw.size
    rcases hr with ⟨hk, hr⟩ | ⟨rfl, hr⟩
    · have HO : Hid (∀ x, OwnG (wr.alloc (.cells #[.string x] 9)) w.heap.size 9 1 (.slice A acc.length c) acc.length (acc.map .string)) := fun x => hv.below ((Below.refl _ _).alloc (Nat.le_refl _) _)
      by_cases hlt : k < s.size
      · by_cases h47 : (s.get! k).toNat = 47
        · have hb : ((s[k].toNat : Int) == 47) = true := by rw [bget s k hlt, beq_iff_eq]; omega
          have hne : ((k : Int) == (s.size : Int)) = false := by rw [beq_eq_false_iff_ne]; omega
          have HR := Lib.hid (hr.slash hfk hlt h47)
          have HV := Lib.hid hv
          clear hr h47 hv
          by_cases hkf : k ≤ fr
          · obtain rfl : fr = k := by omega
            rw [if_pos (Nat.le_refl _)] at HR
            go_wp2
            exact ⟨⟨fr + 1, fr + 1, acc, by go_num, by go_num, by omega, Nat.le_refl _, HV.out, hbw, .inl ⟨by omega, HR.out⟩⟩, by simp [intOf]; omega⟩
          · rw [if_neg hkf] at HR
            have hfl : (fr : Int) < k := by omega
            go_wp2_with (at_builtin; refine wpList_append_G _ rfl _ _ 30 rfl w.heap.size 9 i0 (.string ⟨#[]⟩) 1 16 Try.underlying30 hi hz0 hz1 hz2 rfl (.slice A acc.length c) acc.length (acc.map .string) rfl (HO.out _) ⟨wr.heap.size, 0, none⟩ 1 1 [.string (s.extract fr k)] rfl rfl (cell_one_new _ _ _) (by simp [Value.oneCell']) (by omega) (by unfold maxLen; omega) (by omega) (by simp; omega) ?_; intro g cap w1 hown1 hgrow1 hat hlt1; have HO1 := Lib.hid hown1; have HG1 := Lib.hid (appd_below hbw hsz (HO.out _) hgrow1); clear hown1 hgrow1 hat)
            exact ⟨⟨k + 1, k + 1, acc ++ [s.extract fr k], by go_num, by go_num, by simp; omega, Nat.le_refl _, by simpa using HO1.out, HG1.out, .inl ⟨by omega, HR.out⟩⟩, by simp [intOf]; omega⟩
        · have hb : ((s[k].toNat : Int) == 47) = false := by rw [bget s k hlt, beq_eq_false_iff_ne]; omega
          have hne : ((k : Int) == (s.size : Int)) = false := by rw [beq_eq_false_iff_ne]; omega
          have HR := Lib.hid (hr.skip h47)
          have HV := Lib.hid hv
          clear hr h47 hv
          go_wp2
          exact ⟨⟨k + 1, fr, acc, by go_num, rfl, hal, by omega, HV.out, hbw, .inl ⟨by omega, HR.out⟩⟩, by simp [intOf]; omega⟩
      · obtain rfl : k = s.size := by omega
        have hne : ((s.size : Int) == (s.size : Int)) = true := by rw [beq_iff_eq]
        have HR := Lib.hid hr.done
        have HV := Lib.hid hv
        clear hr hv
        by_cases hkf : s.size ≤ fr
        · rw [if_pos hkf] at HR
          go_wp2
          exact ⟨⟨s.size + 1, s.size + 1, acc, by go_num, by go_num, by omega, Nat.le_refl _, HV.out, hbw, .inr ⟨rfl, HR.out⟩⟩, by simp [intOf]⟩
        · rw [if_neg hkf] at HR
          have hfl : (fr : Int) < s.size := by omega
          go_wp2_with (at_builtin; refine wpList_append_G _ rfl _ _ 30 rfl w.heap.size 9 i0 (.string ⟨#[]⟩) 1 16 Try.underlying30 hi hz0 hz1 hz2 rfl (.slice A acc.length c) acc.length (acc.map .string) rfl (HO.out _) ⟨wr.heap.size, 0, none⟩ 1 1 [.string (s.extract fr s.size)] rfl rfl (cell_one_new _ _ _) (by simp [Value.oneCell']) (by omega) (by unfold maxLen; omega) (by omega) (by simp; omega) ?_; intro g cap w1 hown1 hgrow1 hat hlt1; have HO1 := Lib.hid hown1; have HG1 := Lib.hid (appd_below hbw hsz (HO.out _) hgrow1); clear hown1 hgrow1 hat)
          exact ⟨⟨s.size + 1, s.size + 1, acc ++ [s.extract fr s.size], by go_num, by go_num, by simp; omega, Nat.le_refl _, by simpa using HO1.out, HG1.out, .inr ⟨rfl, HR.out⟩⟩, by simp [intOf]⟩
    · have HR := Lib.hid hr
      have HV := Lib.hid hv
      clear hr hv
      have hle : ¬ ((s.size + 1 : Nat) : Int) ≤ (s.size : Int) := by omega
      go_wp2
      go_ret
      refine ⟨_, rfl, ?_, hbw⟩
      rw [HR.out]; exact HV.out

theorem stepN_nil (l : List ByteArray) (x : ByteArray) (h : x.data.toList = []) : stepN l x = l := by unfold stepN; rw [if_pos (.inl h)]
theorem fold_filter (ps l : List ByteArray) : (ps.filter fun x => !x.data.toList.isEmpty).foldl stepN l = ps.foldl stepN l := by
  induction ps generalizing l with
  | nil => rfl
  | cons x ps ih =>
    rw [List.filter_cons]
    split
    · rw [List.foldl_cons, List.foldl_cons, ih]
    · rename_i h
      rw [List.foldl_cons, ih, stepN_nil]
      simpa using h
theorem rnames_fold (s : ByteArray) : (rnames s).foldl stepN [] = namesB s := fold_filter _ _
theorem tot_filter (ps : List ByteArray) (q : ByteArray → Bool) : tot (ps.filter q) ≤ tot ps := by
  induction ps with
  | nil => simp
  | cons x ps ih =>
    rw [List.filter_cons]
    have e : ∀ a b, tot (a :: b) = (a.size + 1) + tot b := fun a b => by simp [tot]
    split
    · rw [e, e]; omega
    · rw [e]; omega
theorem tot_rnames (s : ByteArray) : tot (rnames s) ≤ s.size + 1 := by
  have h1 := tot_filter ((splitSl s.data.toList).map mk) (fun x => !x.data.toList.isEmpty)
  have h2 := tot_split s.data.toList
  have : s.data.toList.length = s.size := by simp
  unfold rnames; omega
theorem tot_cons (a : ByteArray) (b : List ByteArray) : tot (a :: b) = (a.size + 1) + tot b := by simp [tot]
/-- What a text is when the first k of a list's texts are joined. -/
theorem joinSl_take (l : List ByteArray) (k : Nat) (hk : k < l.length) : joinSl (l.take (k + 1)) = (if 0 < k then joinSl (l.take k) ++ slB else joinSl (l.take k)) ++ l[k] := by
  have e1 : l.take (k + 1) = l.take k ++ [l[k]] := by rw [List.take_succ_eq_append_getElem hk]
  rw [e1]
  split
  · rename_i h
    apply ba_ext
    rw [joinSl_snoc _ _ (List.ne_nil_of_length_pos (by rw [List.length_take]; omega)), app_list, app_list]; simp [slB]
  · obtain rfl : k = 0 := by omega
    apply ba_ext; rw [app_list]; show Lib.join _ _ = Lib.join _ _ ++ _; simp [Lib.join]

set_option maxRecDepth 100000 in
set_option maxHeartbeats 1000000 in
theorem slashed_walk (v : Value) (l : List ByteArray) (base : Nat) (w : World) (hv : OwnG w base 9 1 v l.length (l.map .string)) (hl : tot l ≤ 1000000) :
    Calls Try.prog 81 #[v] w fun e w' => e = .returned (.string (joinSl l)) ∧ Below w.heap.size w w' := by
  have hlen := len_tot l
  obtain ⟨A, c, rfl, hnc, hcm⟩ := hv.form
  have HC : Hid (∀ k (h : k < l.length), ∃ g, A = some ⟨g, 0, none⟩ ∧ w.cell? ⟨g, k, none⟩ = some (.string l[k])) := by
    intro k hk
    rcases hv.2 with ⟨_, h0⟩ | ⟨g, cap, cur, he, _⟩
    · omega
    · cases he
      exact ⟨g, rfl, hv.cells k _ (by rw [List.getElem?_map, List.getElem?_eq_getElem hk]; rfl)⟩
  clear hv
  go_enter Try.func81, Try.ntmps81
  go_wp2_with fail
  go_loopw [3, 4] (fun s i wr => ∃ k : Nat, k ≤ l.length ∧ i = .int .i64 k ∧ s = .string (joinSl (l.take k)) ∧ ∃ n, wr = w.drewN n) (fun _ i _ => l.length - (intOf i).toNat)
  case atStart => exact ⟨0, Nat.zero_le _, rfl, rfl, 0, rfl⟩
  case round =>
    obtain ⟨k, hk, rfl, rfl, n, rfl⟩ := hrel
    by_cases hlt : k < l.length
    · obtain ⟨g, rfl, hcell⟩ := HC.out k hlt
      have e1 : (k : Int).toNat = k := by omega
      have hj := Lib.hid (joinSl_take l k hlt)
      have hz1 : (joinSl (l.take k)).size + l[k].size + 1 ≤ 2000000 := by
        have h1 : tot (l.take k) + tot (l.drop k) = tot l := by rw [← tot_append, List.take_append_drop]
        have h2 := joinSl_size (l.take k)
        have h3 : tot (l.drop k) = (l[k].size + 1) + tot (l.drop (k + 1)) := by rw [List.drop_eq_getElem_cons hlt]; exact tot_cons _ _
        omega
      generalize joinSl (l.take k) = s at *
      generalize l[k] = x at *
      by_cases h0 : 0 < k
      · rw [if_pos h0] at hj
        have h0' : (0 : Int) < k := by omega
        go_wp2
        try go_quiet (fail)
        try go_wp2
        exact ⟨⟨k + 1, by omega, by go_num, by rw [hj.out]; rfl, _, rfl⟩, by simp [intOf]; omega⟩
      · rw [if_neg h0] at hj
        have h0' : ¬ (0 : Int) < k := by omega
        go_wp2
        try go_quiet (fail)
        try go_wp2
        exact ⟨⟨k + 1, by omega, by go_num, by rw [hj.out], _, rfl⟩, by simp [intOf]; omega⟩
    · obtain rfl : k = l.length := by omega
      have hj : Hid (joinSl (l.take l.length) = joinSl l) := by unfold Hid; rw [List.take_length]
      go_wp2
      go_ret
      exact ⟨ret_str hj.out, below_drewN (Below.refl _ _) n⟩
end Go.Proofs.Ytndoloohdloflaa
