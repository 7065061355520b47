/- strings.TrimRight, TrimLeft, Trim at the set of blank, tab and line end; condition: texts that lie in memory. -/
import Derived.Test.YtmcemaphhlcjfaaDoorSplit
import Derived.Shelf.Strings.AsciiSet
import Derived.Deep.WholeRow
namespace Go.Proofs.YtmcemaphhlcjfaaDoor
open Go.RowKit

def bl (c : UInt8) : Bool := c == 32 || c == 9 || c == 10
def cutset : ByteArray := ⟨#[32, 9, 10]⟩
def trL (l : List UInt8) : List UInt8 := l.dropWhile bl
def SetAt (w : World) (b : Nat) : Prop := ∀ c : UInt8, w.cell? ⟨b, c.toNat, none⟩ = some (.bool (bl c))
theorem SetAt.new (w : World) : SetAt (w.alloc (.cells (Lib.setCells [32, 9, 10]) 91)) w.heap.size := fun c => by
  have h := Lib.fold_at [32, 9, 10] (Array.replicate 256 (.bool false)) false c (by rw [Array.getElem?_replicate, if_pos (UInt8.toNat_lt c)])
  have e : (false || ([32, 9, 10] : List UInt8).contains c) = bl c := by
    unfold bl; simp only [List.contains, List.elem, Bool.false_or]
    cases c == 32 <;> cases c == 9 <;> cases c == 10 <;> rfl
  rw [e] at h
  unfold World.cell?
  rw [heap_alloc_last]
  exact h
theorem SetAt.below {w w' : World} {b : Nat} (h : SetAt w b) (hb : Below w.heap.size w w') : SetAt w' b := fun c => by
  rw [hb.cell (p := ⟨b, c.toNat, none⟩) (World.block_lt_of_cell? _ _ (h c))]; exact h c

theorem dropLast_ext (t : ByteArray) (h : 0 < t.size) : t.data.toList = (t.extract 0 (t.size - 1)).data.toList ++ [t[t.size - 1]'(by omega)] := by
  have h1 := take_snoc t (t.size - 1) (by omega)
  rw [show t.size - 1 + 1 = t.size by omega, List.take_of_length_le (by simp)] at h1
  conv => lhs; rw [h1]
  rw [extract_list, List.drop_zero]
theorem trL_cons (l : List UInt8) (x : UInt8) : trL (x :: l) = if bl x then trL l else x :: l := by
  unfold trL; rw [List.dropWhile_cons]
theorem mk_size (l : List UInt8) : (mk l).size = l.length := rfl
theorem mk_self (t : ByteArray) : mk t.data.toList = t := rfl

set_option maxRecDepth 100000 in
theorem trimLeftASCII_any (s : ByteArray) (b : Nat) (w : World) (hs : s.size ≤ 140737488351232) (h : SetAt w b) :
    Calls Tryd.prog 66 #[.string s, .pointer (some ⟨b, 0, none⟩)] w fun e w' => e = .returned (.string (mk (trL s.data.toList))) ∧ w' = w := by
  have HC := Lib.hid fun (x : UInt8) => Tryd.asciiSet_contains b x (bl x) w (h x)
  obtain ⟨R, hR⟩ : ∃ R, mk (trL s.data.toList) = R := ⟨_, rfl⟩
  rw [hR]
  have HR := Lib.hid hR
  clear hR h
  go_enter Tryd.func66, Tryd.ntmps66
  go_wp2
  go_loopw [0] (fun v wi => ∃ t : ByteArray, v = .string t ∧ t.size ≤ s.size ∧ Hid (mk (trL t.data.toList) = R) ∧ wi = w) (fun v _ => match v with | .string t => t.size | _ => 0)
  case atStart => exact ⟨s, rfl, Nat.le_refl _, HR, rfl⟩
  case round =>
    obtain ⟨t, rfl, hl, hr, rfl⟩ := hrel
    by_cases h0 : 0 < t.size
    · obtain ⟨x, hx⟩ : ∃ x, t[0]'h0 = x := ⟨_, rfl⟩
      have q1 : (0 : Int) < t.size := by omega
      have q3 : 1 ≤ t.size := by omega
      have hsn : trL t.data.toList = if bl x then trL (t.extract 1 t.size).data.toList else t.data.toList := by
        have h1 : t.data.toList = x :: (t.extract 1 t.size).data.toList := by
          rw [extract_list, List.take_of_length_le (by simp)]
          have hl0 : 0 < t.data.toList.length := by simpa using h0
          cases hq : t.data.toList with
          | nil => rw [hq] at hl0; cases hl0
          | cons y l =>
            have hy : t.data.toList[0]'hl0 = x := by rw [← hx, Array.getElem_toList]; rfl
            simp only [hq, List.getElem_cons_zero] at hy
            rw [hy]; rfl
        conv => lhs; rw [h1]
        rw [trL_cons, ← h1]
      have HX := Lib.hid (HC.out x)
      cases hb : bl x
      · rw [hb, if_neg (by simp)] at hsn
        have hR2 : t = R := by rw [← hr.out, hsn]; rfl
        rw [hb] at HX
        subst hR2
        clear hsn hr
        go_wp2_with (go_at_call 94; refine (HX.out).mono ?_; rintro e w' ⟨rfl, hw'⟩; obtain rfl := hw'.symm)
        go_ret
        exact ⟨rfl, rfl⟩
      · rw [hb, if_pos rfl] at hsn
        rw [hb] at HX
        have hR2 : Hid (mk (trL (t.extract 1 t.size).data.toList) = R) := by unfold Hid; rw [← hsn]; exact hr.out
        clear hsn hr
        go_wp2_with (go_at_call 94; refine (HX.out).mono ?_; rintro e w' ⟨rfl, hw'⟩; obtain rfl := hw'.symm)
        have hz : (t.extract 1 t.size).size = t.size - 1 := by rw [ByteArray.size_extract]; omega
        exact ⟨⟨_, rfl, by omega, hR2, trivial⟩, by show (t.extract 1 t.size).size < t.size; omega⟩
    · have q1 : ¬ (0 : Int) < t.size := by omega
      have ht : t.data.toList = [] := List.eq_nil_of_length_eq_zero (by rw [Array.length_toList]; show t.size = 0; omega)
      have hR2 : t = R := by rw [← hr.out, ht]; exact ba_ext ht
      subst hR2
      clear hr ht
      go_wp2
      go_ret
      exact ⟨rfl, rfl⟩
theorem cut_ascii : ∀ (j : Nat) b, (⟨#[32, 9, 10]⟩ : ByteArray).data.toList[j]? = some b → b.toNat < 128 := by
  intro j b h
  have := List.mem_of_getElem? h
  simp at this
  rcases this with rfl | rfl | rfl <;> decide
theorem trL_le (l : List UInt8) : (trL l).length ≤ l.length := (List.dropWhile_sublist bl).length_le
theorem wpList_store_fresh {P : Program} {ops : Array Oper} {Q : Exit → Act → World → Prop} {a : Act} {w : World} {rest : List Oper} {o : Oper} {Z c' : Array Value} (hg : o.guard = none) (ty : TypeId) (x y : Operand) (ho : o.op = .store ty x y)
    (hx : a.eval x = .pointer (some ⟨w.heap.size, 0, none⟩)) (hy : a.eval y = .agg c') (hi : (P.info? ty).map (·.size) = some c'.size) (hs : Z.size = c'.size) (h1 : c'.all (·.oneCell') = true)
    (h : wpList P ops Q rest (a.put o.dst undef) (w.alloc (.cells c' ty))) : wpList P ops Q (o :: rest) a (w.alloc (.cells Z ty)) :=
  wpList_plain hg fun K hK => by
    have hr := run_storeAt_new (P := P) w ty Z c' hi hs h1
    unfold Oper.wp execOp
    simp only [ho, hx, hy, Sem.run_bind, hr, Result.andThen_ok, Sem.run_pure]
    exact hK _ _ h
theorem wpList_valw {P : Program} {ops : Array Oper} {Q : Exit → Act → World → Prop} {a : Act} {w w' : World} {rest : List Oper} {o : Oper} {v : Value} (hg : o.guard = none) (hr : (execOp a.eval o).run P w = .ok (.value v) w')
    (h : wpList P ops Q rest (a.put o.dst v) w') : wpList P ops Q (o :: rest) a w :=
  wpList_plain hg fun K hK => by unfold Oper.wp; rw [hr]; exact hK _ _ h

theorem set_facts : ∃ SC Z : Array Value, Hid (∀ w, Calls Tryd.prog 65 #[.string ⟨#[32, 9, 10]⟩] w fun e w' => e = .returned (.tuple #[.agg SC, .bool true]) ∧ w' = w.alloc (.cells SC 91)) ∧ (∀ w, (zeroValue 91).run Tryd.prog w = .ok (.agg Z) w) ∧
    (Tryd.prog.info? 91).map (·.size) = some SC.size ∧ Z.size = SC.size ∧ SC.all (·.oneCell') = true ∧ Hid (∀ w : World, SetAt (w.alloc (.cells SC 91)) w.heap.size) :=
  ⟨Lib.setCells [32, 9, 10], Array.replicate 256 (.bool false), fun w => Tryd.strings_makeASCIISet (by intro w; kernel_rfl) ⟨#[32, 9, 10]⟩ w (by decide) cut_ascii, by intro w; kernel_rfl, by kernel_rfl, by kernel_rfl, by kernel_rfl, fun w => SetAt.new w⟩

set_option maxRecDepth 100000 in
theorem TrimLeft_any (s : ByteArray) (w : World) (hs : s.size ≤ 140737488351232) :
    Calls Tryd.prog 37 #[.string s, .string ⟨#[32, 9, 10]⟩] w fun e w' => e = .returned (.string (mk (trL s.data.toList))) ∧ Below w.heap.size w w' := by
  have HM := Lib.hid fun w => Tryd.strings_makeASCIISet (by intro w; kernel_rfl) ⟨#[32, 9, 10]⟩ w (by decide) cut_ascii
  have HT := Lib.hid fun b w (h : SetAt w b) => trimLeftASCII_any s b w hs h
  by_cases h0 : s.data.toList = []
  · obtain rfl : s = ⟨#[]⟩ := ba_ext h0
    have hR : mk (trL (ByteArray.data ⟨#[]⟩).toList) = ⟨#[]⟩ := rfl
    rw [hR]
    clear hR h0
    go_enter Tryd.func37, Tryd.ntmps37
    go_wp2
    go_ret
    exact ⟨rfl, Below.refl _ _⟩
  · have hne : (s.toList == []) = false := by rw [ba_toList, beq_eq_false_iff_ne]; exact h0
    obtain ⟨R, hR⟩ : ∃ R, mk (trL s.data.toList) = R := ⟨_, rfl⟩
    rw [hR] at HT ⊢
    clear hR h0
    go_enter Tryd.func37, Tryd.ntmps37
    obtain ⟨SC, Z, HM2, hz, hs1, hs2, hs3, hsa⟩ := set_facts
    clear HM
    go_wp2_with (first | (go_at_call 65; refine (HM2.out _).mono ?_; rintro e w1 ⟨rfl, hw1⟩; have hb1 : Below w.heap.size w w1 := (by rw [hw1]; exact (Below.refl _ w).alloc (Nat.le_refl _) _); clear hw1) | (refine wpList_store_fresh rfl 91 (.tmp 5) (.tmp 29) rfl rfl rfl hs1 hs2 hs3 ?_) | (go_at_call 66; refine (HT.out _ _ (hsa.out _)).mono ?_; rintro e w2 ⟨rfl, hw2⟩; obtain rfl := hw2.symm))
    go_ret
    exact ⟨rfl, hb1.alloc hb1.size _⟩

end Go.Proofs.YtmcemaphhlcjfaaDoor
