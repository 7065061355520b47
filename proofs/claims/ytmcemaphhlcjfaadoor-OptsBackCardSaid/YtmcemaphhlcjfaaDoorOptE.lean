/- errors.Is, at the errors that package rule makes, and at none; no condition. -/
import Derived.Test.YtmcemaphhlcjfaaDoorLists
import Derived.Test.YtmcemaphhlcjfaaDoorSplit
import Derived.LaidEql
import Derived.Stop.Asserts
import Derived.Lib.IfaceEq
import Derived.RowKitTokens
namespace Go.Proofs.YtmcemaphhlcjfaaDoor
open Go.RowKit Go.Extern.Stop Go.Stop Go.Extern

def errV (word : ByteArray) (e : Int) : Value := .iface 99 (.agg #[.string word, .iface 30 (.int .i64 e)])
theorem Tryd.isTypeOf (v : Value) (w : World) : (Extern.ReflectliteType.typeOf #[.iface 30 v]).run Tryd.prog w = .ok (.iface 138 (.agg #[.pointer (some ⟨4, 30, none⟩)])) w := by kernel_rfl
def compF : TypeId → Sem Value := fun t => do Go.Extern.Rtype.noPackHeld "Comparable" t; pure (.bool (← typeInfo t).comparable)
theorem Tryd.isComparable (w : World) : ((Extern.ReflectliteType.method compF) #[.agg #[.pointer (some ⟨4, 30, none⟩)]]).run Tryd.prog w = .ok (.bool true) w := by kernel_rfl
theorem Tryd.methodComparable (v : Value) (w : World) : (Go.method 312 138 v "Comparable").run Tryd.prog w = .ok (156, v) w := by kernel_rfl
theorem Tryd.methodUnwrap (v : Value) (w : World) : (Go.method 312 99 v "Unwrap").run Tryd.prog w = .ok (148, v) w := by kernel_rfl
theorem Tryd.noIsW (v : Value) (xT : TypeId) (w : World) : (Instr.typeAssert (.iface 99 v) xT 140 true).run Tryd.prog w = .ok (.tuple #[.nilIface, .bool false]) w := run_typeAssert_lacksB Tryd.underlying140 (by kernel_rfl) (by kernel_rfl) v xT w
theorem Tryd.hasUnwrapW (v : Value) (xT : TypeId) (w : World) : (Instr.typeAssert (.iface 99 v) xT 143 true).run Tryd.prog w = .ok (.tuple #[.iface 99 v, .bool true]) w := run_typeAssert_hasB Tryd.underlying143 (by kernel_rfl) v xT w
theorem Tryd.noIsE (v : Value) (xT : TypeId) (w : World) : (Instr.typeAssert (.iface 30 v) xT 140 true).run Tryd.prog w = .ok (.tuple #[.nilIface, .bool false]) w := run_typeAssert_lacksB Tryd.underlying140 (by kernel_rfl) (by kernel_rfl) v xT w
theorem Tryd.noUnwrapE (v : Value) (xT : TypeId) (w : World) : (Instr.typeAssert (.iface 30 v) xT 143 true).run Tryd.prog w = .ok (.tuple #[.nilIface, .bool false]) w := run_typeAssert_lacksB Tryd.underlying143 (by kernel_rfl) (by kernel_rfl) v xT w
theorem Tryd.noUnwrapsE (v : Value) (xT : TypeId) (w : World) : (Instr.typeAssert (.iface 30 v) xT 145 true).run Tryd.prog w = .ok (.tuple #[.nilIface, .bool false]) w := run_typeAssert_lacksB Tryd.underlying145 (by kernel_rfl) (by kernel_rfl) v xT w

set_option maxRecDepth 100000 in
set_option maxHeartbeats 1000000 in
theorem Unwrap_any (s : ByteArray) (x : Value) (w : World) : Calls Tryd.prog 148 #[.agg #[.string s, x]] w fun e w' => e = .returned x ∧ Below w.heap.size w w' := by
  go_enter Tryd.func148, Tryd.ntmps148
  go_wp2
  go_ret
  exact ⟨rfl, (Below.refl _ w).alloc (Nat.le_refl _) _⟩

set_option maxRecDepth 100000 in
set_option maxHeartbeats 1000000 in
theorem is_nil (t : Int) (w : World) :
    Calls Tryd.prog 43 #[.nilIface, .iface 30 (.int .i64 t)] w fun e w' => e = .returned (.bool false) ∧ w' = w := by
  have hn := run_eql_iface_nil_left (P := Tryd.prog) w 30 (.int .i64 t) Tryd.underlying65
  go_enter Tryd.func43, Tryd.ntmps43
  go_wp2
  go_ret
  exact ⟨rfl, rfl⟩

set_option maxRecDepth 100000 in
set_option maxHeartbeats 1000000 in
theorem is_wrong (word : ByteArray) (e t : Int) (w : World) :
    Calls Tryd.prog 43 #[errV word e, .iface 30 (.int .i64 t)] w fun x w' => x = .returned (.bool (e == t)) ∧ Below w.heap.size w w' := by
  have h8 := @run_callFunc_extern Tryd.prog 77 _ Extern.ReflectliteType.typeOf Tryd.func77 (by kernel_rfl) (by kernel_rfl) (by kernel_rfl) (by kernel_rfl)
  have h32 := @run_callFunc_extern Tryd.prog 156 _ (Extern.ReflectliteType.method compF) Tryd.func156 (by kernel_rfl) (by kernel_rfl) (by kernel_rfl) (by kernel_rfl)
  have tT := Tryd.isTypeOf
  have cT := Tryd.isComparable
  have mC := Tryd.methodComparable
  have mU := Tryd.methodUnwrap
  have nW := Tryd.noIsW
  have uW := Tryd.hasUnwrapW
  have nE := Tryd.noIsE
  have uE := Tryd.noUnwrapE
  have vE := Tryd.noUnwrapsE
  have heq := fun w => Go.Lib.run_eql_iface_int (P := Tryd.prog) w (t := 65) (tx := 30) (k := .i64) e t Tryd.underlying65 (by kernel_rfl) Tryd.underlying30
  have hty := fun (v : Value) => run_eql_iface_types (P := Tryd.prog) 99 30 v (.int .i64 t) Tryd.underlying65 (by decide)
  unfold errV
  cases hb : (e == t)
  all_goals
    rw [hb] at heq
    clear hb
    go_enter Tryd.func43, Tryd.ntmps43
    go_wp2
    refine wp_loop_rounds 2 ?_
    rw [rounds_succ]
    go_wp2
    rw [rounds_succ]
    go_wp2
    go_ret
    exact ⟨rfl, (Below.refl _ w).alloc (Nat.le_refl _) _⟩
end Go.Proofs.YtmcemaphhlcjfaaDoor
