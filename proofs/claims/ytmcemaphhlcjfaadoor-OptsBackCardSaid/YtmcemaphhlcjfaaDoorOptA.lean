/- errors.As, at the errors that package opts makes and at none, the target a number of package api; condition: the library's one type in its cell. -/
import Derived.Test.YtmcemaphhlcjfaaDoorOptE
namespace Go.Proofs.YtmcemaphhlcjfaaDoor
open Go.RowKit Go.Extern.Stop Go.Stop Go.Extern

def optV (word : ByteArray) (n : Int) : Value := .iface 122 (.agg #[.string word, .iface 30 (.int .i64 n)])
theorem as_nil (t : Value) (w : World) : Calls Tryd.prog 58 #[.nilIface, t] w fun e w' => e = .returned (.bool false) ∧ w' = w := by
  go_enter Tryd.func58, Tryd.ntmps58
  go_wp2
  go_ret
  exact ⟨rfl, rfl⟩

theorem Tryd.valueOf86 (t : Addr) (w : World) : (ReflectliteValue.unpack (.iface 86 (.pointer (some t)))).run Tryd.prog w
    = .ok (.agg #[.pointer (some ⟨4, 86, none⟩), .pointer (some ⟨w.heap.size, 0, none⟩), .int .u64 150]) (w.alloc (.cells #[.pointer (some t)] 86)) := by kernel_rfl
theorem Tryd.type86 (a : Addr) (w : World) : (ReflectliteValue.methodAny (ReflectliteValue.valueError "reflectlite.Value.Type" 0) (fun t _ _ _ => ReflectliteType.toType t) #[.agg #[.pointer (some ⟨4, 86, none⟩), .pointer (some a), .int .u64 150]]).run Tryd.prog w
    = .ok (.iface 138 (.agg #[.pointer (some ⟨4, 86, none⟩)])) w := by kernel_rfl
theorem Tryd.methodKind (h : Value) (w : World) : (Go.method 312 138 (.agg #[h]) "Kind").run Tryd.prog w = .ok (143, h) w := by kernel_rfl
theorem Tryd.kind86 (w : World) : ((ReflectliteType.abiMethod fun t => (fun a : Nat => Value.int IntKind.u8 (a : Int)) <$> Rtype.kind t) #[.pointer (some ⟨4, 86, none⟩)]).run Tryd.prog w = .ok (.int .u8 22) w := by kernel_rfl
theorem Tryd.kind30 (w : World) : ((ReflectliteType.abiMethod fun t => (fun a : Nat => Value.int IntKind.u8 (a : Int)) <$> Rtype.kind t) #[.pointer (some ⟨4, 30, none⟩)]).run Tryd.prog w = .ok (.int .u8 2) w := by kernel_rfl
theorem rlm (z : Sem Value) (f : TypeId → Addr → Nat → Nat → Sem Value) (v : Value) :
    ReflectliteValue.method z f #[v] = (do match ← ReflectliteValue.parts v with | none => z | some (t, a, fl) => f t a fl (fl % 32)) := rfl
theorem Tryd.parts86 (a : Addr) (w : World) : (ReflectliteValue.parts (.agg #[.pointer (some ⟨4, 86, none⟩), .pointer (some a), .int .u64 150])).run Tryd.prog w = .ok (some (86, a, 150)) w := by kernel_rfl
theorem Tryd.isNil86 (a p : Addr) (W : World) (ha : W.cell? a = some (.pointer (some p))) :
    (ReflectliteValue.method (ReflectliteValue.valueError "reflectlite.Value.IsNil" 0) ReflectliteValue.isNil #[.agg #[.pointer (some ⟨4, 86, none⟩), .pointer (some a), .int .u64 150]]).run Tryd.prog W = .ok (.bool false) W := by
  rw [rlm]
  simp only [Sem.run_bind, Tryd.parts86, Result.andThen]
  simp [ReflectliteValue.isNil, loadVar, isAgg, underlying, Tryd.underlying86, ha, Result.andThen]
theorem Tryd.methodElem (h : Value) (w : World) : (Go.method 312 138 (.agg #[h]) "Elem").run Tryd.prog w = .ok (157, .agg #[h]) w := by kernel_rfl
theorem Tryd.methodImplements (h : Value) (w : World) : (Go.method 312 138 (.agg #[h]) "Implements").run Tryd.prog w = .ok (158, .agg #[h]) w := by kernel_rfl
theorem Tryd.methodAssignableTo (h : Value) (w : World) : (Go.method 312 138 (.agg #[h]) "AssignableTo").run Tryd.prog w = .ok (155, .agg #[h]) w := by kernel_rfl
theorem Tryd.elem86 (w : World) : (ReflectliteType.method ReflectliteType.elem #[.agg #[.pointer (some ⟨4, 86, none⟩)]]).run Tryd.prog w = .ok (.iface 138 (.agg #[.pointer (some ⟨4, 30, none⟩)])) w := by kernel_rfl
theorem Tryd.implements30 (w : World) : (ReflectliteType.relation "Implements" ReflectliteType.implements_ #[.agg #[.pointer (some ⟨4, 30, none⟩)], .iface 138 (.agg #[.pointer (some ⟨4, 65, none⟩)])]).run Tryd.prog w = .ok (.bool true) w := by kernel_rfl
theorem Tryd.typeOf122 (v : Value) (w : World) : (ReflectliteType.typeOf #[.iface 122 v]).run Tryd.prog w = .ok (.iface 138 (.agg #[.pointer (some ⟨4, 122, none⟩)])) w := by kernel_rfl
theorem Tryd.assign122 (w : World) : (ReflectliteType.relation "AssignableTo" ReflectliteType.assignableTo #[.agg #[.pointer (some ⟨4, 122, none⟩)], .iface 138 (.agg #[.pointer (some ⟨4, 30, none⟩)])]).run Tryd.prog w = .ok (.bool false) w := by kernel_rfl
theorem Tryd.assign30 (w : World) : (ReflectliteType.relation "AssignableTo" ReflectliteType.assignableTo #[.agg #[.pointer (some ⟨4, 30, none⟩)], .iface 138 (.agg #[.pointer (some ⟨4, 30, none⟩)])]).run Tryd.prog w = .ok (.bool true) w := by kernel_rfl
theorem Tryd.valueOf30 (n : Int) (w : World) : (ReflectliteValue.unpack (.iface 30 (.int .i64 n))).run Tryd.prog w
    = .ok (.agg #[.pointer (some ⟨4, 30, none⟩), .pointer (some ⟨w.heap.size, 0, none⟩), .int .u64 130]) (w.alloc (.cells #[.int .i64 n] 30)) := by kernel_rfl
theorem Tryd.elemOf86 (w : World) : (Rtype.elem? 86).run Tryd.prog w = .ok (some 30) w := by kernel_rfl
theorem Tryd.mk30 (p : Addr) (w : World) : (ReflectliteValue.mk 30 p ReflectliteValue.flagAddr).run Tryd.prog w = .ok (.agg #[.pointer (some ⟨4, 30, none⟩), .pointer (some p), .int .u64 386]) w := by kernel_rfl
theorem Tryd.elemV86 (a p : Addr) (W : World) (ha : W.cell? a = some (.pointer (some p))) :
    (ReflectliteValue.method (ReflectliteValue.valueError "reflectlite.Value.Elem" 0) ReflectliteValue.elem #[.agg #[.pointer (some ⟨4, 86, none⟩), .pointer (some a), .int .u64 150]]).run Tryd.prog W
      = .ok (.agg #[.pointer (some ⟨4, 30, none⟩), .pointer (some p), .int .u64 386]) W := by
  rw [rlm]
  simp only [Sem.run_bind, Tryd.parts86, Result.andThen]
  simp [ReflectliteValue.elem, loadVar, isAgg, underlying, Tryd.underlying86, ha, Result.andThen, Tryd.elemOf86, Tryd.mk30]
theorem rls (v x : Value) : ReflectliteValue.set #[v, x] = (do
    let (some (dst, a, fl), some (src, b, _)) := (← ReflectliteValue.parts v, ← ReflectliteValue.parts x)
      | unsupported (.noEntry "extern/(internal/reflectlite.Value).Set.zeroValue")
    if fl / ReflectliteValue.flagAddr % 2 == 0 then unsupported (.noEntry "extern/(internal/reflectlite.Value).Set.unaddressable")
    let val ← loadVar src b
    if ← Rtype.directlyAssignable dst src then storeVar dst a val
    else if ← Rtype.implements dst src then
      if (← Rtype.kind src) == 20 then
        match val with
        | .nilIface => unsupported (.noEntry "extern/reflectlite: a nil value of one interface type handed on as a value of another")
        | _ => storeVar dst a val
      else storeVar dst a (.iface src val)
    else panicString ("reflectlite.Set: value of type " ++ (← Rtype.spelt src) ++ " is not assignable to type " ++ (← Rtype.spelt dst))
    pure (.tuple #[])) := rfl
theorem Tryd.parts30a (a : Addr) (w : World) : (ReflectliteValue.parts (.agg #[.pointer (some ⟨4, 30, none⟩), .pointer (some a), .int .u64 386])).run Tryd.prog w = .ok (some (30, a, 386)) w := by kernel_rfl
theorem Tryd.parts30 (a : Addr) (w : World) : (ReflectliteValue.parts (.agg #[.pointer (some ⟨4, 30, none⟩), .pointer (some a), .int .u64 130])).run Tryd.prog w = .ok (some (30, a, 130)) w := by kernel_rfl
theorem Tryd.direct30 (w : World) : (Rtype.directlyAssignable 30 30).run Tryd.prog w = .ok true w := by kernel_rfl
theorem Tryd.set30 (ta b : Addr) (n : Int) (old : Value) (W : World) (hb : W.cell? b = some (.int .i64 n)) (ht : W.cell? ta = some old) (hf : W.frozen? ta = false) :
    (ReflectliteValue.set #[.agg #[.pointer (some ⟨4, 30, none⟩), .pointer (some ta), .int .u64 386], .agg #[.pointer (some ⟨4, 30, none⟩), .pointer (some b), .int .u64 130]]).run Tryd.prog W
      = .ok (.tuple #[]) (W.setCell ta (.int .i64 n)) := by
  rw [rls]
  simp only [Sem.run_bind, Tryd.parts30a, Tryd.parts30, Result.andThen]
  simp [ReflectliteValue.flagAddr, loadVar, isAgg, underlying, Tryd.underlying30, hb, Result.andThen, Tryd.direct30, storeVar, Value.cells, storeCells, Addr.add]
  rw [run_store Tryd.prog W ta _ _ (by rfl)]
  simp [ht, hf]
theorem Tryd.noAsO (v : Value) (xT : TypeId) (w : World) : (Instr.typeAssert (.iface 122 v) xT 153 true).run Tryd.prog w = .ok (.tuple #[.nilIface, .bool false]) w := run_typeAssert_lacksB Tryd.underlying153 (by kernel_rfl) (by kernel_rfl) v xT w
theorem Tryd.hasUnwrapO (v : Value) (xT : TypeId) (w : World) : (Instr.typeAssert (.iface 122 v) xT 143 true).run Tryd.prog w = .ok (.tuple #[.iface 122 v, .bool true]) w := run_typeAssert_hasB Tryd.underlying143 (by kernel_rfl) v xT w
theorem Tryd.methodUnwrapO (v : Value) (w : World) : (Go.method 312 122 v "Unwrap").run Tryd.prog w = .ok (150, v) w := by kernel_rfl
end Go.Proofs.YtmcemaphhlcjfaaDoor
