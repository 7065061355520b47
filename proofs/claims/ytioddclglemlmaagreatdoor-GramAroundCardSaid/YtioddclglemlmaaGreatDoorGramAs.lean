/- errors.As, at the errors that package gram makes and at none, the target a number of package api; condition: the library's one type in its cell. -/
import Derived.Test.YtioddclglemlmaaGreatDoorLexS
import Derived.LaidEql
import Derived.Deep.WholeRow
import Derived.Stop.Asserts
import Derived.Lib.IfaceEq
namespace Go.Proofs.YtioddclglemlmaaGreatDoor
open Go.RowKit Go.Extern.Stop Go.Stop Go.Extern

def fltV (word n : Int) : Value := .iface 55 (.agg #[.int .i64 word, .iface 29 (.int .i64 n)])
theorem Tryz.isTypeOf (v : Value) (w : World) : (Go.Extern.ReflectliteType.typeOf #[.iface 29 v]).run Tryz.prog w = .ok (.iface 87 (.agg #[.pointer (some ⟨4, 29, none⟩)])) w := by kernel_rfl
theorem as_nil (t : Value) (w : World) : Calls Tryz.prog 14 #[.nilIface, t] w fun e w' => e = .returned (.bool false) ∧ w' = w := by
  go_enter Tryz.func14, Tryz.ntmps14
  go_wp2
  go_ret
  exact ⟨rfl, rfl⟩

theorem Tryz.valueOf86 (t : Addr) (w : World) : (ReflectliteValue.unpack (.iface 49 (.pointer (some t)))).run Tryz.prog w
    = .ok (.agg #[.pointer (some ⟨4, 49, none⟩), .pointer (some ⟨w.heap.size, 0, none⟩), .int .u64 150]) (w.alloc (.cells #[.pointer (some t)] 49)) := by kernel_rfl
theorem Tryz.type86 (a : Addr) (w : World) : (ReflectliteValue.methodAny (ReflectliteValue.valueError "reflectlite.Value.Type" 0) (fun t _ _ _ => ReflectliteType.toType t) #[.agg #[.pointer (some ⟨4, 49, none⟩), .pointer (some a), .int .u64 150]]).run Tryz.prog w
    = .ok (.iface 87 (.agg #[.pointer (some ⟨4, 49, none⟩)])) w := by kernel_rfl
theorem Tryz.methodKind (h : Value) (w : World) : (Go.method 270 87 (.agg #[h]) "Kind").run Tryz.prog w = .ok (114, h) w := by kernel_rfl
theorem Tryz.kind86 (w : World) : ((ReflectliteType.abiMethod fun t => (fun a : Nat => Value.int IntKind.u8 (a : Int)) <$> Rtype.kind t) #[.pointer (some ⟨4, 49, none⟩)]).run Tryz.prog w = .ok (.int .u8 22) w := by kernel_rfl
theorem Tryz.kind30 (w : World) : ((ReflectliteType.abiMethod fun t => (fun a : Nat => Value.int IntKind.u8 (a : Int)) <$> Rtype.kind t) #[.pointer (some ⟨4, 29, none⟩)]).run Tryz.prog w = .ok (.int .u8 2) w := by kernel_rfl
theorem rlm (z : Sem Value) (f : TypeId → Addr → Nat → Nat → Sem Value) (v : Value) :
    ReflectliteValue.method z f #[v] = (do match ← ReflectliteValue.parts v with | none => z | some (t, a, fl) => f t a fl (fl % 32)) := rfl
theorem Tryz.parts86 (a : Addr) (w : World) : (ReflectliteValue.parts (.agg #[.pointer (some ⟨4, 49, none⟩), .pointer (some a), .int .u64 150])).run Tryz.prog w = .ok (some (49, a, 150)) w := by kernel_rfl
theorem Tryz.isNil86 (a p : Addr) (W : World) (ha : W.cell? a = some (.pointer (some p))) :
    (ReflectliteValue.method (ReflectliteValue.valueError "reflectlite.Value.IsNil" 0) ReflectliteValue.isNil #[.agg #[.pointer (some ⟨4, 49, none⟩), .pointer (some a), .int .u64 150]]).run Tryz.prog W = .ok (.bool false) W := by
  rw [rlm]
  simp only [Sem.run_bind, Tryz.parts86, Result.andThen]
  simp [ReflectliteValue.isNil, loadVar, isAgg, underlying, Tryz.underlying49, ha, Result.andThen]
theorem Tryz.methodElem (h : Value) (w : World) : (Go.method 270 87 (.agg #[h]) "Elem").run Tryz.prog w = .ok (126, .agg #[h]) w := by kernel_rfl
theorem Tryz.methodImplements (h : Value) (w : World) : (Go.method 270 87 (.agg #[h]) "Implements").run Tryz.prog w = .ok (127, .agg #[h]) w := by kernel_rfl
theorem Tryz.methodAssignableTo (h : Value) (w : World) : (Go.method 270 87 (.agg #[h]) "AssignableTo").run Tryz.prog w = .ok (124, .agg #[h]) w := by kernel_rfl
theorem Tryz.elem86 (w : World) : (ReflectliteType.method ReflectliteType.elem #[.agg #[.pointer (some ⟨4, 49, none⟩)]]).run Tryz.prog w = .ok (.iface 87 (.agg #[.pointer (some ⟨4, 29, none⟩)])) w := by kernel_rfl
theorem Tryz.implements30 (w : World) : (ReflectliteType.relation "Implements" ReflectliteType.implements_ #[.agg #[.pointer (some ⟨4, 29, none⟩)], .iface 87 (.agg #[.pointer (some ⟨4, 45, none⟩)])]).run Tryz.prog w = .ok (.bool true) w := by kernel_rfl
theorem Tryz.typeOf122 (v : Value) (w : World) : (ReflectliteType.typeOf #[.iface 55 v]).run Tryz.prog w = .ok (.iface 87 (.agg #[.pointer (some ⟨4, 55, none⟩)])) w := by kernel_rfl
theorem Tryz.assign122 (w : World) : (ReflectliteType.relation "AssignableTo" ReflectliteType.assignableTo #[.agg #[.pointer (some ⟨4, 55, none⟩)], .iface 87 (.agg #[.pointer (some ⟨4, 29, none⟩)])]).run Tryz.prog w = .ok (.bool false) w := by kernel_rfl
theorem Tryz.assign30 (w : World) : (ReflectliteType.relation "AssignableTo" ReflectliteType.assignableTo #[.agg #[.pointer (some ⟨4, 29, none⟩)], .iface 87 (.agg #[.pointer (some ⟨4, 29, none⟩)])]).run Tryz.prog w = .ok (.bool true) w := by kernel_rfl
theorem Tryz.valueOf30 (n : Int) (w : World) : (ReflectliteValue.unpack (.iface 29 (.int .i64 n))).run Tryz.prog w
    = .ok (.agg #[.pointer (some ⟨4, 29, none⟩), .pointer (some ⟨w.heap.size, 0, none⟩), .int .u64 130]) (w.alloc (.cells #[.int .i64 n] 29)) := by kernel_rfl
theorem Tryz.elemOf86 (w : World) : (Rtype.elem? 49).run Tryz.prog w = .ok (some 29) w := by kernel_rfl
theorem Tryz.mk30 (p : Addr) (w : World) : (ReflectliteValue.mk 29 p ReflectliteValue.flagAddr).run Tryz.prog w = .ok (.agg #[.pointer (some ⟨4, 29, none⟩), .pointer (some p), .int .u64 386]) w := by kernel_rfl
theorem Tryz.elemV86 (a p : Addr) (W : World) (ha : W.cell? a = some (.pointer (some p))) :
    (ReflectliteValue.method (ReflectliteValue.valueError "reflectlite.Value.Elem" 0) ReflectliteValue.elem #[.agg #[.pointer (some ⟨4, 49, none⟩), .pointer (some a), .int .u64 150]]).run Tryz.prog W
      = .ok (.agg #[.pointer (some ⟨4, 29, none⟩), .pointer (some p), .int .u64 386]) W := by
  rw [rlm]
  simp only [Sem.run_bind, Tryz.parts86, Result.andThen]
  simp [ReflectliteValue.elem, loadVar, isAgg, underlying, Tryz.underlying49, ha, Result.andThen, Tryz.elemOf86, Tryz.mk30]
theorem rls (v x : Value) : ReflectliteValue.set #[v, x] = (do
    let (some (dst, a, fl), some (src, b, _)) := (← ReflectliteValue.parts v, ← ReflectliteValue.parts x)
      | unsupported (.noEntry "extern/(internal/reflectlite.Value).Set.zeroValue")
    if fl / ReflectliteValue.flagAddr % 2 == 0 then unsupported (.noEntry "extern/(internal/reflectlite.Value).Set.unaddressable")
    let val ← loadVar src b
    if ← Rtype.directlyAssignable dst src then storeVar dst a val
    else if ← Rtype.implements dst src then
      if (← Rtype.kind src) == 20 then
        match val with
        | .nilIface => unsupported (.noEntry "extern/reflectlite: a nil value of one interface type handed on as a value of another")
        | _ => storeVar dst a val
      else storeVar dst a (.iface src val)
    else panicString ("reflectlite.Set: value of type " ++ (← Rtype.spelt src) ++ " is not assignable to type " ++ (← Rtype.spelt dst))
    pure (.tuple #[])) := rfl
theorem Tryz.parts30a (a : Addr) (w : World) : (ReflectliteValue.parts (.agg #[.pointer (some ⟨4, 29, none⟩), .pointer (some a), .int .u64 386])).run Tryz.prog w = .ok (some (29, a, 386)) w := by kernel_rfl
theorem Tryz.parts30 (a : Addr) (w : World) : (ReflectliteValue.parts (.agg #[.pointer (some ⟨4, 29, none⟩), .pointer (some a), .int .u64 130])).run Tryz.prog w = .ok (some (29, a, 130)) w := by kernel_rfl
theorem Tryz.direct30 (w : World) : (Rtype.directlyAssignable 29 29).run Tryz.prog w = .ok true w := by kernel_rfl
theorem Tryz.set30 (ta b : Addr) (n : Int) (old : Value) (W : World) (hb : W.cell? b = some (.int .i64 n)) (ht : W.cell? ta = some old) (hf : W.frozen? ta = false) :
    (ReflectliteValue.set #[.agg #[.pointer (some ⟨4, 29, none⟩), .pointer (some ta), .int .u64 386], .agg #[.pointer (some ⟨4, 29, none⟩), .pointer (some b), .int .u64 130]]).run Tryz.prog W
      = .ok (.tuple #[]) (W.setCell ta (.int .i64 n)) := by
  rw [rls]
  simp only [Sem.run_bind, Tryz.parts30a, Tryz.parts30, Result.andThen]
  simp [ReflectliteValue.flagAddr, loadVar, isAgg, underlying, Tryz.underlying29, hb, Result.andThen, Tryz.direct30, storeVar, Value.cells, storeCells, Addr.add]
  rw [run_store Tryz.prog W ta _ _ (by rfl)]
  simp [ht, hf]
theorem Tryz.noAsO (v : Value) (xT : TypeId) (w : World) : (Instr.typeAssert (.iface 55 v) xT 92 true).run Tryz.prog w = .ok (.tuple #[.nilIface, .bool false]) w := run_typeAssert_lacksB Tryz.underlying92 (by kernel_rfl) (by kernel_rfl) v xT w
theorem Tryz.hasUnwrapO (v : Value) (xT : TypeId) (w : World) : (Instr.typeAssert (.iface 55 v) xT 95 true).run Tryz.prog w = .ok (.tuple #[.iface 55 v, .bool true]) w := run_typeAssert_hasB Tryz.underlying95 (by kernel_rfl) v xT w
theorem Tryz.methodUnwrapO (v : Value) (w : World) : (Go.method 270 55 v "Unwrap").run Tryz.prog w = .ok (119, v) w := by kernel_rfl
def V86 (t : Addr) : Obj := .cells #[.pointer (some t)] 49
def VV86 (b : Nat) : Obj := .cells #[.pointer (some ⟨4, 49, none⟩), .pointer (some ⟨b, 0, none⟩), .int .u64 150] 64
set_option maxRecDepth 100000 in
set_option maxHeartbeats 4000000 in
theorem as_hit (word n : Int) (t : Addr) (old : Value) (w : World) (hg : w.cell? ⟨0, 0, none⟩ = some (.iface 87 (.agg #[.pointer (some ⟨4, 45, none⟩)]))) (ht0 : w.cell? t = some old) (hf0 : w.frozen? t = false) :
    Calls Tryz.prog 14 #[fltV word n, .iface 49 (.pointer (some t))] w fun ev w' => ev = .returned (.bool true) ∧ ∃ w1, Below w.heap.size w w1 ∧ w' = w1.setCell t (.int .i64 n) := by
  have h89 := @run_callFunc_extern Tryz.prog 20 _ (fun args => ReflectliteValue.unpack (args.getD 0 (.tuple #[]))) Tryz.func20 (by kernel_rfl) (by kernel_rfl) (by kernel_rfl) (by kernel_rfl)
  have h90 := @run_callFunc_extern Tryz.prog 21 _ (ReflectliteValue.methodAny (ReflectliteValue.valueError "reflectlite.Value.Type" 0) (fun t _ _ _ => ReflectliteType.toType t)) Tryz.func21 (by kernel_rfl) (by kernel_rfl) (by kernel_rfl) (by kernel_rfl)
  have h91 := @run_callFunc_extern Tryz.prog 22 _ (ReflectliteValue.method (ReflectliteValue.valueError "reflectlite.Value.IsNil" 0) ReflectliteValue.isNil) Tryz.func22 (by kernel_rfl) (by kernel_rfl) (by kernel_rfl) (by kernel_rfl)
  have h143 := @run_callFunc_extern Tryz.prog 114 _ (ReflectliteType.abiMethod fun t => do pure (.int .u8 (← Rtype.kind t))) Tryz.func114 (by kernel_rfl) (by kernel_rfl) (by kernel_rfl) (by kernel_rfl)
  have h157 := @run_callFunc_extern Tryz.prog 126 _ (ReflectliteType.method ReflectliteType.elem) Tryz.func126 (by kernel_rfl) (by kernel_rfl) (by kernel_rfl) (by kernel_rfl)
  have h158 := @run_callFunc_extern Tryz.prog 127 _ (ReflectliteType.relation "Implements" ReflectliteType.implements_) Tryz.func127 (by kernel_rfl) (by kernel_rfl) (by kernel_rfl) (by kernel_rfl)
  have h77 := @run_callFunc_extern Tryz.prog 32 _ ReflectliteType.typeOf Tryz.func32 (by kernel_rfl) (by kernel_rfl) (by kernel_rfl) (by kernel_rfl)
  have h155 := @run_callFunc_extern Tryz.prog 124 _ (ReflectliteType.relation "AssignableTo" ReflectliteType.assignableTo) Tryz.func124 (by kernel_rfl) (by kernel_rfl) (by kernel_rfl) (by kernel_rfl)
  have h110 := @run_callFunc_extern Tryz.prog 33 _ (ReflectliteValue.method (ReflectliteValue.valueError "reflectlite.Value.Elem" 0) ReflectliteValue.elem) Tryz.func33 (by kernel_rfl) (by kernel_rfl) (by kernel_rfl) (by kernel_rfl)
  have h111 := @run_callFunc_extern Tryz.prog 34 _ ReflectliteValue.set Tryz.func34 (by kernel_rfl) (by kernel_rfl) (by kernel_rfl) (by kernel_rfl)
  have tO := Tryz.typeOf122
  have tE := Tryz.isTypeOf
  have mA := Tryz.methodAssignableTo
  have a122 := Tryz.assign122
  have a30 := Tryz.assign30
  have v30 := Tryz.valueOf30
  have f86 := Tryz.valueOf86
  have t86 := Tryz.type86
  have mK := Tryz.methodKind
  have mE := Tryz.methodElem
  have mI := Tryz.methodImplements
  have mU := Tryz.methodUnwrapO
  have k86 := Tryz.kind86
  have k30 := Tryz.kind30
  have e86 := Tryz.elem86
  have i30 := Tryz.implements30
  have nO := Tryz.noAsO
  have uO := Tryz.hasUnwrapO
  have htl : t.block < w.heap.size := World.block_lt_of_cell? _ _ ht0
  have hlt : 0 < w.heap.size := World.block_lt_of_cell? _ _ hg
  obtain ⟨w1, hw1⟩ : ∃ w1, w.alloc (V86 t) = w1 := ⟨_, rfl⟩
  obtain ⟨w2, hw2⟩ : ∃ w2, w1.alloc (VV86 w.heap.size) = w2 := ⟨_, rfl⟩
  obtain ⟨w3, hw3⟩ : ∃ w3, w2.alloc (VV86 w.heap.size) = w3 := ⟨_, rfl⟩
  obtain ⟨w4, hw4⟩ : ∃ w4, w3.alloc (.cells #[.int .i64 word, .iface 29 (.int .i64 n)] 55) = w4 := ⟨_, rfl⟩
  obtain ⟨w5, hw5⟩ : ∃ w5, w4.alloc (.cells #[.int .i64 n] 29) = w5 := ⟨_, rfl⟩
  have b1 : Below w.heap.size w w1 := by rw [← hw1]; exact (Below.refl _ w).alloc (Nat.le_refl _) _
  have s1 : w1.heap.size = w.heap.size + 1 := by rw [← hw1]; simp
  have b2 : Below w1.heap.size w1 w2 := by rw [← hw2]; exact (Below.refl _ w1).alloc (Nat.le_refl _) _
  have s2 : w2.heap.size = w.heap.size + 2 := by rw [← hw2]; simp [s1]
  have b3 : Below w2.heap.size w2 w3 := by rw [← hw3]; exact (Below.refl _ w2).alloc (Nat.le_refl _) _
  have s3 : w3.heap.size = w.heap.size + 3 := by rw [← hw3]; simp [s2]
  have b4 : Below w3.heap.size w3 w4 := by rw [← hw4]; exact (Below.refl _ w3).alloc (Nat.le_refl _) _
  have s4 : w4.heap.size = w.heap.size + 4 := by rw [← hw4]; simp [s3]
  have b5 : Below w4.heap.size w4 w5 := by rw [← hw5]; exact (Below.refl _ w4).alloc (Nat.le_refl _) _
  have B5 := (((b1.trans (b2.mono (by omega))).trans (b3.mono (by omega))).trans (b4.mono (by omega))).trans (b5.mono (by omega))
  have c1 : w1.cell? ⟨w.heap.size, 0, none⟩ = some (.pointer (some t)) := by
    rw [← hw1]; unfold V86; rw [cell_of_row _ _ _ _ _ _ (heap_alloc_last w _)]; rfl
  have c2 := (b2.cell (p := ⟨w.heap.size, 0, none⟩) (show w.heap.size < _ by omega)).trans c1
  have c3 := (b3.cell (p := ⟨w.heap.size, 0, none⟩) (show w.heap.size < _ by omega)).trans c2
  have c4 := (b4.cell (p := ⟨w.heap.size, 0, none⟩) (show w.heap.size < _ by omega)).trans c3
  have g2 : w2.cell? ⟨0, 0, none⟩ = some (.iface 87 (.agg #[.pointer (some ⟨4, 45, none⟩)])) := (b2.cell (p := ⟨0, 0, none⟩) (show 0 < _ by omega)).trans ((b1.cell (p := ⟨0, 0, none⟩) hlt).trans hg)
  have c5 : w5.cell? ⟨w4.heap.size, 0, none⟩ = some (.int .i64 n) := by
    rw [← hw5]; rw [cell_of_row _ _ _ _ _ _ (heap_alloc_last w4 _)]; rfl
  rw [show w4.heap.size = w.heap.size + 1 + 1 + 1 + 1 from s4] at c5
  have n8 := Tryz.isNil86 ⟨w.heap.size, 0, none⟩ t w2 c2
  have el := Tryz.elemV86 ⟨w.heap.size, 0, none⟩ t w4 c4
  have st := Tryz.set30 t ⟨w.heap.size + 1 + 1 + 1 + 1, 0, none⟩ n old w5 c5 ((B5.cell htl).trans ht0) ((B5.frozen htl).trans hf0)
  have HB := Lib.hid B5
  have HW := Lib.hid (show w5 = ((((w.alloc (V86 t)).alloc (VV86 w.heap.size)).alloc (VV86 w.heap.size)).alloc (.cells #[.int .i64 word, .iface 29 (.int .i64 n)] 55)).alloc (.cells #[.int .i64 n] 29) from by rw [hw1, hw2, hw3, hw4, hw5])
  rw [← hw2, ← hw1] at n8 g2
  rw [← hw5, ← hw4, ← hw3, ← hw2, ← hw1] at st
  rw [← hw4, ← hw3, ← hw2, ← hw1] at el
  unfold V86 VV86 at n8 g2 st el
  clear hw1 hw2 hw3 hw4 hw5 b1 b2 b3 b4 b5 B5 c1 c2 c3 c4 c5 s1 s2 s3 s4
  unfold fltV
  go_enter Tryz.func14, Tryz.ntmps14
  go_wp2
  refine wp_loop_rounds 2 ?_
  rw [rounds_succ]
  go_wp2
  rw [rounds_succ]
  go_wp2
  go_ret
  exact ⟨rfl, _, HW.out ▸ HB.out, rfl⟩
end Go.Proofs.YtioddclglemlmaaGreatDoor
