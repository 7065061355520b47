/- the reference's Replace: the same as the program's; conditions: texts of at most 100000 bytes each. -/
import Derived.Test.YtndoloohdloflabRepR
import Derived.Test.YtndoloohdloflabOwn
import Derived.Laws.BytesArg
import Derived.Laws.IdiomStrings
namespace Go.Proofs.Ytndoloohdloflab
open Go.RowKit

theorem conv_own {W : World} {base : Nat} {v : Value} {bs : List UInt8} (h : W.ownsRow base 5 1 v bs.length (Lib.byteCells bs)) : (convert 55 9 v).run Try.prog W = .ok (.string ⟨bs.toArray⟩) W := by
  have hg := OwnG.of h
  rcases hg.2 with ⟨rfl, h0⟩ | ⟨g, cap, cur, rfl, hb, _⟩
  · have e : bs = [] := List.eq_nil_of_length_eq_zero h0
    subst e
    exact run_convert_bytes_nil W 55 5 Try.underlying55 Try.underlying5 0 0 9 Try.underlying9
  · refine run_convert_bytes_back W 55 9 5 ⟨g, 0, none⟩ cap bs Try.underlying55 Try.underlying5 Try.underlying9 fun j hj => ?_
    have e2 : Addr.add ⟨g, 0, none⟩ j = ⟨g, j, none⟩ := by
      simp only [Addr.add]
      split
      · subst_vars; rfl
      · simp
    rw [e2]
    exact hg.cells j _ (by simp [Lib.byteCells, hj])

theorem Try.info5 : (Try.prog.info? 5).map (fun i => (i.zero, i.size, i.bytes)) = some (some (.int .u8 0), 1, 1) := by kernel_rfl

def repRV (o : Option ByteArray) : Value := match o with
  | some r => .tuple #[.string r, .bool true]
  | none => .tuple #[.string ⟨#[]⟩, .bool false]

theorem rpl_step (fr to_ : List UInt8) (hf : fr ≠ []) (s : ByteArray) (k : Nat) (hk : k < s.size) : rpl fr to_ (s.data.toList.drop k) = if fr.isPrefixOf (s.data.toList.drop k) then to_ ++ rpl fr to_ (s.data.toList.drop (k + fr.length)) else s[k] :: rpl fr to_ (s.data.toList.drop (k + 1)) := by
  have e := List.drop_eq_getElem_cons (l := s.data.toList) (i := k) (by simpa using hk)
  rw [e, rpl_cons fr to_ hf, ← e, List.drop_drop]
  rfl

set_option maxRecDepth 100000 in
set_option maxHeartbeats 1000000 in
theorem ReplaceR_any (s fr to_ : ByteArray) (w : World) (hs : s.size ≤ 100000) (hf : fr.size ≤ 100000) (ht : to_.size ≤ 100000) :
    Calls Try.prog 18 #[.string s, .string fr, .string to_] w fun e w' => e = .returned (repRV (repB s fr to_)) ∧ Below w.heap.size w w' := by
  obtain ⟨i0, hi, hz0, hz1, hz2⟩ := info_parts Try.info5
  by_cases he : fr.size = 0
  · obtain rfl : fr = ⟨#[]⟩ := by cases fr; congr; exact Array.size_eq_zero_iff.1 he
    have w1 : IntKind.i64.wrap ((s.size : Int) + to_.size) = s.size + to_.size := IntWalk.i64_in _ (by omega)
    have p3 : ¬ 9223372036854775807 < s.size + to_.size := by omega
    by_cases hl : s.size + to_.size ≤ 65536
    · have hR : repB s ⟨#[]⟩ to_ = some (s ++ to_) := by
        unfold repB repL
        rw [if_pos rfl, if_pos (by simpa using hl)]
        simp [mk]
        apply ByteArray.ext; simp
      rw [hR]
      have p1 : ¬ (65536 : Int) < (s.size : Int) + to_.size := by omega
      go_enter Try.func18, Try.ntmps18
      go_wp2
      go_ret2
      exact ⟨rfl, Below.refl _ w⟩
    · have hR : repB s ⟨#[]⟩ to_ = none := by
        unfold repB repL
        rw [if_pos rfl, if_neg (by simpa using hl)]
        rfl
      rw [hR]
      have p1 : (65536 : Int) < (s.size : Int) + to_.size := by omega
      go_enter Try.func18, Try.ntmps18
      go_wp2
      go_ret2
      exact ⟨rfl, Below.refl _ w⟩
  · have hne : fr.data.toList ≠ [] := fun e => he (by have := congrArg List.length e; simpa using this)
    have hfe : (fr.toList == []) = false := by rw [ba_toList]; simpa using hne
    obtain ⟨R, hR⟩ : ∃ R, rpl fr.data.toList to_.data.toList s.data.toList = R := ⟨_, rfl⟩
    have hRB : repB s fr to_ = if R.length ≤ 65536 then some (mk R) else none := by
      unfold repB repL
      rw [if_neg hne, hR]
      split <;> rfl
    rw [hRB]
    obtain ⟨A, hA⟩ : ∃ A, (if R.length ≤ 65536 then some (mk R) else none) = A := ⟨_, rfl⟩
    rw [hA]
    have HA := Lib.hid hA
    have HNE := Lib.hid hne
    have HR := Lib.hid hR
    clear hR hRB hne hA
    go_enter Try.func18, Try.ntmps18
    go_wp2
    go_loopw [8, 9] (fun v i wi => ∃ (k : Nat) (bs : List UInt8), i = .int .i64 k ∧ k ≤ s.size ∧ bs.length ≤ 65536 ∧ Hid (wi.ownsRow w.heap.size 5 1 v bs.length (Lib.byteCells bs)) ∧ Hid (R = bs ++ rpl fr.data.toList to_.data.toList (s.data.toList.drop k)) ∧ Below w.heap.size w wi) (fun _ i _ => s.size - (intOf i).toNat)
    case atStart => exact ⟨0, [], rfl, Nat.zero_le _, by simp, World.ownsRow_nil _ _ _ _, HR.out.symm, Below.refl _ w⟩
    case round =>
      obtain ⟨k, bs, rfl, hk, hbl, hown, hrel, hbel⟩ := hrel
      by_cases hlt : k < s.size
      · have hst := rpl_step fr.data.toList to_.data.toList HNE.out s k hlt
        have HBg := Lib.hid (Begins_any s k fr wr (by omega) (by omega) hk)
        cases hq : begB s k fr
        · rw [hq] at HBg
          unfold begB at hq
          rw [hq] at hst
          rw [Hid, hst, if_neg (by simp)] at hrel
          have HREL := Lib.hid hrel
          clear hrel hst hq
          have hlR : R.length = bs.length + 1 + (rpl fr.data.toList to_.data.toList (s.data.toList.drop (k + 1))).length := by
            have := congrArg List.length HREL.out
            simp at this ⊢
            omega
          have HLR := Lib.hid hlR
          clear hlR
          obtain ⟨L, hL⟩ : ∃ L : Nat, bs.length + 1 = L := ⟨_, rfl⟩
          have HL := Lib.hid hL
          clear hL
          by_cases hbig : (65536 : Int) < (L : Int)
          · obtain rfl : A = none := by rw [← HA.out, if_neg (by have := HLR.out; have := HL.out; omega)]
            go_wp2_with fail
            refine HBg.out.mono ?_
            rintro e wx ⟨rfl, rfl⟩
            go_wp2_with (at_builtin; refine wpList_append_own_at _ rfl _ _ 55 rfl w.heap.size 5 i0 (.int .u8 0) 1 1 Try.underlying55 hi hz0 hz1 hz2 rfl (by decide) u8 bs.length (Lib.byteCells bs) rfl (hown.out.alloc _) ⟨_, 0, none⟩ 1 1 [.int .u8 s[k].toNat] rfl rfl (cell_one_new _ _ _) (by simp [Value.oneCell']) (by unfold maxLen; omega) (by omega) (by have := hbel.size; simp; omega) ?_; intro v' w1 hown' hgrow _ _; rw [HL.out] at hown'; obtain ⟨A', c', rfl, _, _⟩ := (OwnG.of hown').form)
            have hb1 : Below w.heap.size w w1 := (hbel.alloc hbel.size _).grown hgrow (by have := hbel.size; simp; omega) (fun j hj => (hown.out.lt j hj).1)
            go_ret2
            exact ⟨rfl, hb1⟩
          · go_wp2_with fail
            refine HBg.out.mono ?_
            rintro e wx ⟨rfl, rfl⟩
            go_wp2_with (at_builtin; refine wpList_append_own_at _ rfl _ _ 55 rfl w.heap.size 5 i0 (.int .u8 0) 1 1 Try.underlying55 hi hz0 hz1 hz2 rfl (by decide) u8 bs.length (Lib.byteCells bs) rfl (hown.out.alloc _) ⟨_, 0, none⟩ 1 1 [.int .u8 s[k].toNat] rfl rfl (cell_one_new _ _ _) (by simp [Value.oneCell']) (by unfold maxLen; omega) (by omega) (by have := hbel.size; simp; omega) ?_; intro v' w1 hown' hgrow _ _; rw [HL.out] at hown'; obtain ⟨A', c', rfl, _, _⟩ := (OwnG.of hown').form)
            have hb1 : Below w.heap.size w w1 := (hbel.alloc hbel.size _).grown hgrow (by have := hbel.size; simp; omega) (fun j hj => (hown.out.lt j hj).1)
            have hlen1 : (bs ++ [s[k]]).length ≤ 65536 := by rw [List.length_append]; simp only [List.length_cons, List.length_nil]; have := HL.out; omega
            refine ⟨⟨k + 1, bs ++ [s[k]], by go_num, Nat.succ_le_of_lt hlt, hlen1, ?_, ?_, hb1⟩, ?_⟩
            rotate_right
            · simp only [intOf]
              omega
            · have e : Lib.byteCells (bs ++ [s[k]]) = Lib.byteCells bs ++ [.int .u8 s[k].toNat] := by simp [Lib.byteCells]
              unfold Hid
              rw [e, List.length_append]
              show World.ownsRow _ _ _ _ _ (bs.length + 1) _
              rw [HL.out]
              exact hown'
            · unfold Hid
              rw [HREL.out]; simp
        · rw [hq] at HBg
          unfold begB at hq
          have hkf : k + fr.size ≤ s.size := by have := (List.isPrefixOf_iff_prefix.1 hq).length_le; simp at this; omega
          have HKF := Lib.hid hkf
          rw [hq] at hst
          rw [Hid, hst, if_pos rfl] at hrel
          have HREL := Lib.hid hrel
          clear hrel hst hq
          have hlR : R.length = bs.length + to_.size + (rpl fr.data.toList to_.data.toList (s.data.toList.drop (k + fr.size))).length := by
            have := congrArg List.length HREL.out
            simp at this ⊢
            omega
          have HLR := Lib.hid hlR
          clear hlR
          have w2 : IntKind.i64.wrap ((k : Int) + fr.size) = ((k + fr.size : Nat) : Int) := by rw [IntWalk.i64_in _ (by omega)]; omega
          by_cases hbig : (65536 : Int) < (bs.length : Int) + to_.size
          · obtain rfl : A = none := by rw [← HA.out, if_neg (by have := HLR.out; omega)]
            go_wp2_with fail
            refine HBg.out.mono ?_
            rintro e wx ⟨rfl, rfl⟩
            go_wp2_with (at_builtin; refine Lib.wpList_append_own_string _ rfl _ _ 55 9 rfl w.heap.size 5 i0 Try.underlying55 Try.underlying9 hi hz0 hz1 hz2 u8 _ _ rfl hown.out to_ rfl (by unfold maxLen; omega) (by omega) hbel.size ?_; intro v' w1 hown' hgrow _; obtain ⟨A', c', rfl, _, _⟩ := (OwnG.of hown').form)
            have hb1 : Below w.heap.size w w1 := hbel.grown hgrow hbel.size (fun j hj => (hown.out.lt j hj).1)
            go_ret2
            exact ⟨rfl, hb1⟩
          · go_wp2_with fail
            refine HBg.out.mono ?_
            rintro e wx ⟨rfl, rfl⟩
            go_wp2_with (at_builtin; refine Lib.wpList_append_own_string _ rfl _ _ 55 9 rfl w.heap.size 5 i0 Try.underlying55 Try.underlying9 hi hz0 hz1 hz2 u8 _ _ rfl hown.out to_ rfl (by unfold maxLen; omega) (by omega) hbel.size ?_; intro v' w1 hown' hgrow _; obtain ⟨A', c', rfl, _, _⟩ := (OwnG.of hown').form)
            have hb1 : Below w.heap.size w w1 := hbel.grown hgrow hbel.size (fun j hj => (hown.out.lt j hj).1)
            refine ⟨⟨k + fr.size, bs ++ to_.data.toList, rfl, ?_, by simp; omega, ?_, ?_, hb1⟩, by simp [intOf]; omega⟩
            · exact HKF.out
            · have e : Lib.byteCells (bs ++ to_.data.toList) = Lib.byteCells bs ++ Lib.strCells to_ := by simp [Lib.byteCells, Lib.strCells]
              unfold Hid
              rw [e, List.length_append]
              exact hown'
            · unfold Hid
              rw [HREL.out]; simp
      · have hfin : R = bs := by
          have := hrel.out
          rw [List.drop_eq_nil_of_le (by simp; omega), rpl_nil] at this
          simpa using this
        obtain rfl : A = some (mk R) := by rw [← HA.out, if_pos (by rw [hfin]; exact hbl)]
        have hcv := conv_own hown.out
        have HF := Lib.hid hfin
        clear hfin hrel
        go_wp2
        go_ret2
        exact ⟨by rw [HF.out]; rfl, hbel⟩
end Go.Proofs.Ytndoloohdloflab
