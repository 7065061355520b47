/- errors.As at the errors that package opts makes sets the number that they bear; condition: the library's one type in its cell. -/
import Derived.Test.YtmcemaphhlcjfaaDoorOptA
namespace Go.Proofs.YtmcemaphhlcjfaaDoor
open Go.RowKit Go.Extern.Stop Go.Stop Go.Extern

def V86 (t : Addr) : Obj := .cells #[.pointer (some t)] 86
def VV86 (b : Nat) : Obj := .cells #[.pointer (some ⟨4, 86, none⟩), .pointer (some ⟨b, 0, none⟩), .int .u64 150] 127
set_option maxRecDepth 100000 in
set_option maxHeartbeats 4000000 in
theorem as_hit (word : ByteArray) (n : Int) (t : Addr) (old : Value) (w : World) (hg : w.cell? ⟨0, 0, none⟩ = some (.iface 138 (.agg #[.pointer (some ⟨4, 65, none⟩)]))) (ht0 : w.cell? t = some old) (hf0 : w.frozen? t = false) :
    Calls Tryd.prog 58 #[optV word n, .iface 86 (.pointer (some t))] w fun ev w' => ev = .returned (.bool true) ∧ ∃ w1, Below w.heap.size w w1 ∧ w' = w1.setCell t (.int .i64 n) := by
  have h89 := @run_callFunc_extern Tryd.prog 89 _ (fun args => ReflectliteValue.unpack (args.getD 0 (.tuple #[]))) Tryd.func89 (by kernel_rfl) (by kernel_rfl) (by kernel_rfl) (by kernel_rfl)
  have h90 := @run_callFunc_extern Tryd.prog 90 _ (ReflectliteValue.methodAny (ReflectliteValue.valueError "reflectlite.Value.Type" 0) (fun t _ _ _ => ReflectliteType.toType t)) Tryd.func90 (by kernel_rfl) (by kernel_rfl) (by kernel_rfl) (by kernel_rfl)
  have h91 := @run_callFunc_extern Tryd.prog 91 _ (ReflectliteValue.method (ReflectliteValue.valueError "reflectlite.Value.IsNil" 0) ReflectliteValue.isNil) Tryd.func91 (by kernel_rfl) (by kernel_rfl) (by kernel_rfl) (by kernel_rfl)
  have h143 := @run_callFunc_extern Tryd.prog 143 _ (ReflectliteType.abiMethod fun t => do pure (.int .u8 (← Rtype.kind t))) Tryd.func143 (by kernel_rfl) (by kernel_rfl) (by kernel_rfl) (by kernel_rfl)
  have h157 := @run_callFunc_extern Tryd.prog 157 _ (ReflectliteType.method ReflectliteType.elem) Tryd.func157 (by kernel_rfl) (by kernel_rfl) (by kernel_rfl) (by kernel_rfl)
  have h158 := @run_callFunc_extern Tryd.prog 158 _ (ReflectliteType.relation "Implements" ReflectliteType.implements_) Tryd.func158 (by kernel_rfl) (by kernel_rfl) (by kernel_rfl) (by kernel_rfl)
  have h77 := @run_callFunc_extern Tryd.prog 77 _ ReflectliteType.typeOf Tryd.func77 (by kernel_rfl) (by kernel_rfl) (by kernel_rfl) (by kernel_rfl)
  have h155 := @run_callFunc_extern Tryd.prog 155 _ (ReflectliteType.relation "AssignableTo" ReflectliteType.assignableTo) Tryd.func155 (by kernel_rfl) (by kernel_rfl) (by kernel_rfl) (by kernel_rfl)
  have h110 := @run_callFunc_extern Tryd.prog 110 _ (ReflectliteValue.method (ReflectliteValue.valueError "reflectlite.Value.Elem" 0) ReflectliteValue.elem) Tryd.func110 (by kernel_rfl) (by kernel_rfl) (by kernel_rfl) (by kernel_rfl)
  have h111 := @run_callFunc_extern Tryd.prog 111 _ ReflectliteValue.set Tryd.func111 (by kernel_rfl) (by kernel_rfl) (by kernel_rfl) (by kernel_rfl)
  have tO := Tryd.typeOf122
  have tE := Tryd.isTypeOf
  have mA := Tryd.methodAssignableTo
  have a122 := Tryd.assign122
  have a30 := Tryd.assign30
  have v30 := Tryd.valueOf30
  have f86 := Tryd.valueOf86
  have t86 := Tryd.type86
  have mK := Tryd.methodKind
  have mE := Tryd.methodElem
  have mI := Tryd.methodImplements
  have mU := Tryd.methodUnwrapO
  have k86 := Tryd.kind86
  have k30 := Tryd.kind30
  have e86 := Tryd.elem86
  have i30 := Tryd.implements30
  have nO := Tryd.noAsO
  have uO := Tryd.hasUnwrapO
  have htl : t.block < w.heap.size := World.block_lt_of_cell? _ _ ht0
  have hlt : 0 < w.heap.size := World.block_lt_of_cell? _ _ hg
  obtain ⟨w1, hw1⟩ : ∃ w1, w.alloc (V86 t) = w1 := ⟨_, rfl⟩
  obtain ⟨w2, hw2⟩ : ∃ w2, w1.alloc (VV86 w.heap.size) = w2 := ⟨_, rfl⟩
  obtain ⟨w3, hw3⟩ : ∃ w3, w2.alloc (VV86 w.heap.size) = w3 := ⟨_, rfl⟩
  obtain ⟨w4, hw4⟩ : ∃ w4, w3.alloc (.cells #[.string word, .iface 30 (.int .i64 n)] 122) = w4 := ⟨_, rfl⟩
  obtain ⟨w5, hw5⟩ : ∃ w5, w4.alloc (.cells #[.int .i64 n] 30) = w5 := ⟨_, rfl⟩
  have b1 : Below w.heap.size w w1 := by rw [← hw1]; exact (Below.refl _ w).alloc (Nat.le_refl _) _
  have s1 : w1.heap.size = w.heap.size + 1 := by rw [← hw1]; simp
  have b2 : Below w1.heap.size w1 w2 := by rw [← hw2]; exact (Below.refl _ w1).alloc (Nat.le_refl _) _
  have s2 : w2.heap.size = w.heap.size + 2 := by rw [← hw2]; simp [s1]
  have b3 : Below w2.heap.size w2 w3 := by rw [← hw3]; exact (Below.refl _ w2).alloc (Nat.le_refl _) _
  have s3 : w3.heap.size = w.heap.size + 3 := by rw [← hw3]; simp [s2]
  have b4 : Below w3.heap.size w3 w4 := by rw [← hw4]; exact (Below.refl _ w3).alloc (Nat.le_refl _) _
  have s4 : w4.heap.size = w.heap.size + 4 := by rw [← hw4]; simp [s3]
  have b5 : Below w4.heap.size w4 w5 := by rw [← hw5]; exact (Below.refl _ w4).alloc (Nat.le_refl _) _
  have B5 := (((b1.trans (b2.mono (by omega))).trans (b3.mono (by omega))).trans (b4.mono (by omega))).trans (b5.mono (by omega))
  have c1 : w1.cell? ⟨w.heap.size, 0, none⟩ = some (.pointer (some t)) := by
    rw [← hw1]; unfold V86; rw [cell_of_row _ _ _ _ _ _ (heap_alloc_last w _)]; rfl
  have c2 := (b2.cell (p := ⟨w.heap.size, 0, none⟩) (show w.heap.size < _ by omega)).trans c1
  have c3 := (b3.cell (p := ⟨w.heap.size, 0, none⟩) (show w.heap.size < _ by omega)).trans c2
  have c4 := (b4.cell (p := ⟨w.heap.size, 0, none⟩) (show w.heap.size < _ by omega)).trans c3
  have g2 : w2.cell? ⟨0, 0, none⟩ = some (.iface 138 (.agg #[.pointer (some ⟨4, 65, none⟩)])) := (b2.cell (p := ⟨0, 0, none⟩) (show 0 < _ by omega)).trans ((b1.cell (p := ⟨0, 0, none⟩) hlt).trans hg)
  have c5 : w5.cell? ⟨w4.heap.size, 0, none⟩ = some (.int .i64 n) := by
    rw [← hw5]; rw [cell_of_row _ _ _ _ _ _ (heap_alloc_last w4 _)]; rfl
  rw [show w4.heap.size = w.heap.size + 1 + 1 + 1 + 1 from s4] at c5
  have n8 := Tryd.isNil86 ⟨w.heap.size, 0, none⟩ t w2 c2
  have el := Tryd.elemV86 ⟨w.heap.size, 0, none⟩ t w4 c4
  have st := Tryd.set30 t ⟨w.heap.size + 1 + 1 + 1 + 1, 0, none⟩ n old w5 c5 ((B5.cell htl).trans ht0) ((B5.frozen htl).trans hf0)
  have HB := Lib.hid B5
  have HW := Lib.hid (show w5 = ((((w.alloc (V86 t)).alloc (VV86 w.heap.size)).alloc (VV86 w.heap.size)).alloc (.cells #[.string word, .iface 30 (.int .i64 n)] 122)).alloc (.cells #[.int .i64 n] 30) from by rw [hw1, hw2, hw3, hw4, hw5])
  rw [← hw2, ← hw1] at n8 g2
  rw [← hw5, ← hw4, ← hw3, ← hw2, ← hw1] at st
  rw [← hw4, ← hw3, ← hw2, ← hw1] at el
  unfold V86 VV86 at n8 g2 st el
  clear hw1 hw2 hw3 hw4 hw5 b1 b2 b3 b4 b5 B5 c1 c2 c3 c4 c5 s1 s2 s3 s4
  unfold optV
  go_enter Tryd.func58, Tryd.ntmps58
  go_wp2
  refine wp_loop_rounds 2 ?_
  rw [rounds_succ]
  go_wp2
  rw [rounds_succ]
  go_wp2
  go_ret
  exact ⟨rfl, _, HW.out ▸ HB.out, rfl⟩
end Go.Proofs.YtmcemaphhlcjfaaDoor
