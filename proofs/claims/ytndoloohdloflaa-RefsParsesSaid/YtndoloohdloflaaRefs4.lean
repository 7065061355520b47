/- The stack of brackets of package refs; condition: at most a million brackets. -/
import Derived.Test.YtndoloohdloflaaRefs3
import Derived.Lib.OthersKept
namespace Go.Proofs.Ytndoloohdloflaa
open Go.RowKit

theorem Try.info5 : (Try.prog.info? 5).map (fun i => (i.zero, i.size, i.bytes)) = some (some (.int .u8 0), 1, 1) := by kernel_rfl
def Stk (w : World) (b : Nat) (bs : List UInt8) : Prop := ∃ v, w.heap[b]? = some (.cells #[v] 116 (0, 0)) ∧ OwnG w (b + 1) 5 1 v bs.length (Lib.byteCells bs)
def popIf (c : UInt8) (bs : List UInt8) : List UInt8 := if bs.getLast? = some c then bs.dropLast else bs
theorem bcells_app (a : List UInt8) (c : UInt8) : Lib.byteCells (a ++ [c]) = Lib.byteCells a ++ [.int .u8 c.toNat] := by simp [Lib.byteCells]
theorem bcells_len (a : List UInt8) : (Lib.byteCells a).length = a.length := by simp [Lib.byteCells]

set_option maxRecDepth 100000 in
set_option maxHeartbeats 400000 in
theorem push_any (bs : List UInt8) (c : UInt8) (b : Nat) (w : World) (hl : bs.length ≤ 1000000) (hst : Stk w b bs) :
    Calls Try.prog 116 #[.pointer (some ⟨b, 0, none⟩), .int .u8 c.toNat] w fun e w' => e = .returned (.tuple #[]) ∧ Stk w' b (bs ++ [c]) ∧ Below b w w' ∧ Lib.OthersKept 5 (some b) w w' := by
  obtain ⟨v, hb, hv⟩ := hst
  have hc := cell_of_one hb
  have hf := free_of_one hb
  have hlt := lt_of_block hb
  obtain ⟨A, cp, hvf, hnc, hcm⟩ := hv.form
  subst hvf
  obtain ⟨i0, hi, hz0, hz1, hz2⟩ := info_parts Try.info5
  have hown0 : OwnG (w.alloc (.cells #[.int .u8 c.toNat] 5)) (b + 1) 5 1 (.slice A bs.length cp) bs.length (Lib.byteCells bs) := hv.below ((Below.refl _ _).alloc (Nat.le_refl _) _)
  have hb0 : (w.alloc (.cells #[.int .u8 c.toNat] 5)).heap[b]? = some (.cells #[.slice A bs.length cp] 116 (0, 0)) := (Below.heap_alloc w _ b hlt).trans hb
  have hne : some b ≠ (Value.slice A bs.length cp).ownBlock := fun e => by have := (hv.block_lt b e.symm).1; omega
  have HO := Lib.hid hown0; have HB0 := Lib.hid hb0; have HN := Lib.hid hne
  clear hown0 hb0 hne hv hb
  go_enter Try.func116, Try.ntmps116
  go_wp2_with (at_builtin; refine wpList_append_G _ rfl _ _ 76 rfl (b + 1) 5 i0 (.int .u8 0) 1 1 Try.underlying76 hi hz0 hz1 hz2 rfl (.slice A bs.length cp) bs.length (Lib.byteCells bs) rfl HO.out ⟨w.heap.size, 0, none⟩ 1 1 [.int .u8 c.toNat] rfl rfl (cell_one_new _ _ _) (by simp [Value.oneCell']) (by omega) (by unfold maxLen; omega) (by omega) (by simp; omega) ?_; intro g cap w1 hown1 hgrow1 hat hlt1; have hb1 : w1.heap[b]? = some (.cells #[.slice A bs.length cp] 116 (0, 0)) := (hgrow1.block b (by simp; omega) HN.out).trans HB0.out; have hc1 := cell_of_one hb1; have hf1 := free_of_one hb1; have HB1 := Lib.hid hb1; have HO1 := Lib.hid hown1; have HG1 := Lib.hid hgrow1; clear hb1 hown1 hgrow1 hat)
  go_end0
  refine ⟨rfl, ⟨_, one_setCell HB1.out, ?_⟩, ?_, ?_⟩
  · have h := HO1.out.move (w' := w1.setCell ⟨b, 0, none⟩ (.slice (some ⟨g, 0, none⟩) (bs.length + 1) cap)) (fun k hk => Below.heap_setCell _ _ _ _ (by have := (HO1.out.block_lt k hk).1; show k ≠ b; omega))
    rw [bcells_app, List.length_append]
    exact h
  · exact (((Below.refl b w).alloc (by omega) _).grown HG1.out (by simp; omega) (fun k e => by have := (HO.out.block_lt k e).1; omega)).setCell (p := ⟨b, 0, none⟩) (Nat.le_refl b) _
  · exact (((Lib.OthersKept.refl 5 (some b) w).alloc _).grown HG1.out (fun g e => HO.out.typed g e)).setCell ⟨b, 0, none⟩ rfl _

set_option maxRecDepth 100000 in
set_option maxHeartbeats 400000 in
theorem take_any (bs : List UInt8) (c : UInt8) (b : Nat) (w : World) (hl : bs.length ≤ 1000000) (hst : Stk w b bs) :
    Calls Try.prog 117 #[.pointer (some ⟨b, 0, none⟩), .int .u8 c.toNat] w fun e w' => (∃ r, e = .returned (.bool r)) ∧ Stk w' b (popIf c bs) ∧ Below b w w' ∧ Lib.OthersKept 5 (some b) w w' := by
  have hst0 := Lib.hid hst
  obtain ⟨v, hb, hv⟩ := hst
  have hc := cell_of_one hb
  have hf := free_of_one hb
  have hlt := lt_of_block hb
  obtain ⟨A, cp, hvf, hnc, hcm⟩ := hv.form
  subst hvf
  have HV := Lib.hid hv
  have HB := Lib.hid hb
  clear hv hb
  rcases List.eq_nil_or_concat bs with rfl | ⟨l, t, rfl⟩
  · go_enter Try.func117, Try.ntmps117
    go_wp2
    go_ret
    exact ⟨⟨_, rfl⟩, hst0.out, Below.refl _ _, Lib.OthersKept.refl _ _ _⟩
  · rw [List.concat_eq_append] at hst0 HV HB hnc hc hl ⊢
    obtain ⟨g, hA⟩ : ∃ g, A = some ⟨g, 0, none⟩ := by
      rcases HV.out.2 with ⟨_, h0⟩ | ⟨g, cap, cur, h, _⟩
      · simp at h0
      · cases h; exact ⟨g, rfl⟩
    subst hA
    have hcl : w.cell? ⟨g, l.length, none⟩ = some (.int .u8 t.toNat) := HV.out.cells l.length _ (by rw [bcells_app, List.getElem?_append_right (by rw [bcells_len]; exact Nat.le_refl _), bcells_len]; simp)
    have e1 : (l ++ [t]).length = l.length + 1 := by simp
    rw [e1] at HV HB hnc hc hl
    have p1 : (0 : Int) ≤ (l.length : Int) := by omega
    have p3 : (l.length : Int) ≤ cp := by omega
    have p4 : IntKind.i64.wrap ((l.length : Int) + 1 - 1) = (l.length : Int) := by rw [IntWalk.i64_in _ (by omega)]; omega
    have hu := u8_eq t c
    by_cases htc : t = c
    · subst htc
      have HP : Hid (popIf t (l ++ [t]) = l) := by simp [Hid, popIf]
      go_enter Try.func117, Try.ntmps117
      go_wp2
      go_ret
      rw [HP.out]
      refine ⟨⟨_, rfl⟩, ⟨_, one_setCell HB.out, ?_⟩, (Below.refl b w).setCell (p := ⟨b, 0, none⟩) (Nat.le_refl b) _, (Lib.OthersKept.refl 5 (some b) w).setCell ⟨b, 0, none⟩ rfl _⟩
      have hT := HV.out.take l.length cp (by omega) (by omega) (Nat.le_refl _)
      have hM := hT.move (w' := w.setCell ⟨b, 0, none⟩ (.slice (some ⟨g, 0, none⟩) l.length cp)) (fun k hk => Below.heap_setCell _ _ _ _ (by have := (hT.block_lt k hk).1; show k ≠ b; omega))
      rw [Nat.mul_one, bcells_app, List.take_append_of_le_length (by rw [bcells_len]; exact Nat.le_refl _), List.take_of_length_le (by rw [bcells_len]; exact Nat.le_refl _)] at hM
      exact hM
    · have HP : Hid (popIf c (l ++ [t]) = l ++ [t]) := by simp [Hid, popIf, htc]
      have hn : ((t.toNat : Int) != (c.toNat : Int)) = true := by rw [bne, hu, beq_eq_false_iff_ne.2 htc]; rfl
      clear hu htc
      go_enter Try.func117, Try.ntmps117
      go_wp2
      go_ret
      rw [HP.out]
      exact ⟨⟨_, rfl⟩, hst0.out, Below.refl _ _, Lib.OthersKept.refl _ _ _⟩
end Go.Proofs.Ytndoloohdloflaa
