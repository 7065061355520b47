/- The functions' names, as the program and the reference tell them; no condition. -/
import Derived.Test.YtndoloohdloflaaPatFi2
import Derived.Deep.WholeRow
import Derived.Deep.Cut
namespace Go.Proofs.Ytndoloohdloflaa
open Go.RowKit

def funL : List (ByteArray × Int × Int) := [((⟨#[97, 98, 115, 112, 97, 116, 104]⟩ : ByteArray), 1, 1), ((⟨#[97, 100, 100, 112, 114, 101, 102, 105, 120]⟩ : ByteArray), 2, 2), ((⟨#[97, 100, 100, 115, 117, 102, 102, 105, 120]⟩ : ByteArray), 2, 2), ((⟨#[97, 110, 100]⟩ : ByteArray), 1, -1), ((⟨#[98, 97, 115, 101, 110, 97, 109, 101]⟩ : ByteArray), 1, 1), ((⟨#[99, 97, 108, 108]⟩ : ByteArray), 1, -1), ((⟨#[100, 105, 114]⟩ : ByteArray), 1, 1), ((⟨#[101, 114, 114, 111, 114]⟩ : ByteArray), 1, 1), ((⟨#[101, 118, 97, 108]⟩ : ByteArray), 1, 1), ((⟨#[102, 105, 108, 116, 101, 114]⟩ : ByteArray), 2, 2), ((⟨#[102, 105, 108, 116, 101, 114, 45, 111, 117, 116]⟩ : ByteArray), 2, 2), ((⟨#[102, 105, 110, 100, 115, 116, 114, 105, 110, 103]⟩ : ByteArray), 2, 2), ((⟨#[102, 105, 114, 115, 116, 119, 111, 114, 100]⟩ : ByteArray), 1, 1), ((⟨#[102, 108, 97, 118, 111, 114]⟩ : ByteArray), 1, 1), ((⟨#[102, 111, 114, 101, 97, 99, 104]⟩ : ByteArray), 3, 3), ((⟨#[105, 102]⟩ : ByteArray), 2, 3), ((⟨#[105, 110, 102, 111]⟩ : ByteArray), 1, 1), ((⟨#[106, 111, 105, 110]⟩ : ByteArray), 2, 2), ((⟨#[108, 97, 115, 116, 119, 111, 114, 100]⟩ : ByteArray), 1, 1), ((⟨#[110, 111, 116, 100, 105, 114]⟩ : ByteArray), 1, 1), ((⟨#[111, 114]⟩ : ByteArray), 1, -1), ((⟨#[111, 114, 105, 103, 105, 110]⟩ : ByteArray), 1, 1), ((⟨#[112, 97, 116, 115, 117, 98, 115, 116]⟩ : ByteArray), 3, 3), ((⟨#[115, 104, 101, 108, 108]⟩ : ByteArray), 1, 1), ((⟨#[115, 111, 114, 116]⟩ : ByteArray), 1, 1), ((⟨#[115, 116, 114, 105, 112]⟩ : ByteArray), 1, 1), ((⟨#[115, 117, 98, 115, 116]⟩ : ByteArray), 3, 3), ((⟨#[115, 117, 102, 102, 105, 120]⟩ : ByteArray), 1, 1), ((⟨#[118, 97, 108, 117, 101]⟩ : ByteArray), 1, 1), ((⟨#[119, 97, 114, 110, 105, 110, 103]⟩ : ByteArray), 1, 1), ((⟨#[119, 105, 108, 100, 99, 97, 114, 100]⟩ : ByteArray), 1, 1), ((⟨#[119, 111, 114, 100]⟩ : ByteArray), 2, 2), ((⟨#[119, 111, 114, 100, 108, 105, 115, 116]⟩ : ByteArray), 3, 3), ((⟨#[119, 111, 114, 100, 115]⟩ : ByteArray), 1, 1)]
def funC (f : ByteArray × Int × Int) : List Value := [.string f.1, .int .i64 f.2.1, .int .i64 f.2.2]
def funA : Array Value := ((funL ++ [((⟨#[]⟩ : ByteArray), 0, 0)]).flatMap funC).toArray
theorem wpList_val {P : Program} {ops : Array Oper} {Q : Exit → Act → World → Prop} {a : Act} {w : World} {rest : List Oper} {o : Oper} {v : Value} (hg : o.guard = none) (hr : (execOp a.eval o).run P w = .ok (.value v) w)
    (h : wpList P ops Q rest (a.put o.dst v) w) : wpList P ops Q (o :: rest) a w :=
  wpList_plain hg fun K hK => by unfold Oper.wp; rw [hr]; exact hK _ _ h

theorem wpList_store_fresh {P : Program} {ops : Array Oper} {Q : Exit → Act → World → Prop} {a : Act} {w : World} {rest : List Oper} {o : Oper} {Z c' : Array Value} (hg : o.guard = none) (ty : TypeId) (x y : Operand) (ho : o.op = .store ty x y)
    (hx : a.eval x = .pointer (some ⟨w.heap.size, 0, none⟩)) (hy : a.eval y = .agg c') (hi : (P.info? ty).map (·.size) = some c'.size) (hs : Z.size = c'.size) (h1 : c'.all (·.oneCell') = true)
    (h : wpList P ops Q rest (a.put o.dst undef) (w.alloc (.cells c' ty))) : wpList P ops Q (o :: rest) a (w.alloc (.cells Z ty)) :=
  wpList_plain hg fun K hK => by
    have hr := run_storeAt_new (P := P) w ty Z c' hi hs h1
    unfold Oper.wp execOp
    simp only [ho, hx, hy, Sem.run_bind, hr, Result.andThen_ok, Sem.run_pure]
    exact hK _ _ h

theorem results_cell {P : Program} {fn : Func} {tmps : Array Value} {t : Tmp} {ty : TypeId} {a : Addr} {v : Value} {w : World} (h : fn.results = #[.cell t ty]) (hp : tmps.getD t undef = .pointer (some a)) (hl : (loadVar ty a).run P w = .ok v w) :
    (results fn tmps).run P w = .ok v w := by
  have ha : (asAddr (tmps.getD t undef)).run P w = .ok a w := by rw [hp]; rfl
  unfold results
  rw [h]
  simp only [List.mapM_toArray, List.mapM_cons, List.mapM_nil, Sem.run_map, Sem.run_bind, Sem.run_pure, Result.andThen_ok, ha, hl]
  rfl

set_option maxRecDepth 100000 in
set_option maxHeartbeats 1000000 in
theorem functions_any (w : World) : Calls Try.prog 87 #[] w fun e w' => e = .returned (.agg funA) ∧ Below w.heap.size w w' := by
  obtain ⟨Z, hZ⟩ : ∃ Z : Array Value, (Try.prog.info? 81).map (fun i => (i.zero, i.size)) = some (some (.agg Z), 105) ∧ Z.size = 105 := ⟨((List.replicate 35 [.string ⟨#[]⟩, .int .i64 0, .int .i64 0]).flatten).toArray, by kernel_rfl, by kernel_rfl⟩
  obtain ⟨hz1, hz2⟩ := zero_of_info hZ.1
  have HZ := Lib.hid hZ
  have HZ2 := Lib.hid hz2
  clear hZ hz2
  go_enter Try.func87, Try.ntmps87
  go_upto_region 1 with fail
  refine wp_region_lit ?_
  refine wpList_val (v := .agg #[.string ⟨#[97, 98, 115, 112, 97, 116, 104]⟩, .int .i64 1, .int .i64 1]) rfl (by kernel_rfl) ?_
  refine wpList_val (v := .agg #[.string ⟨#[97, 100, 100, 112, 114, 101, 102, 105, 120]⟩, .int .i64 2, .int .i64 2]) rfl (by kernel_rfl) ?_
  refine wpList_val (v := .agg #[.string ⟨#[97, 100, 100, 115, 117, 102, 102, 105, 120]⟩, .int .i64 2, .int .i64 2]) rfl (by kernel_rfl) ?_
  refine wpList_val (v := .agg #[.string ⟨#[97, 110, 100]⟩, .int .i64 1, .int .i64 (-1)]) rfl (by kernel_rfl) ?_
  refine wpList_val (v := .agg #[.string ⟨#[98, 97, 115, 101, 110, 97, 109, 101]⟩, .int .i64 1, .int .i64 1]) rfl (by kernel_rfl) ?_
  refine wpList_val (v := .agg #[.string ⟨#[99, 97, 108, 108]⟩, .int .i64 1, .int .i64 (-1)]) rfl (by kernel_rfl) ?_
  refine wpList_val (v := .agg #[.string ⟨#[100, 105, 114]⟩, .int .i64 1, .int .i64 1]) rfl (by kernel_rfl) ?_
  refine wpList_val (v := .agg #[.string ⟨#[101, 114, 114, 111, 114]⟩, .int .i64 1, .int .i64 1]) rfl (by kernel_rfl) ?_
  refine wpList_val (v := .agg #[.string ⟨#[101, 118, 97, 108]⟩, .int .i64 1, .int .i64 1]) rfl (by kernel_rfl) ?_
  refine wpList_val (v := .agg #[.string ⟨#[102, 105, 108, 116, 101, 114]⟩, .int .i64 2, .int .i64 2]) rfl (by kernel_rfl) ?_
  refine wpList_val (v := .agg #[.string ⟨#[102, 105, 108, 116, 101, 114, 45, 111, 117, 116]⟩, .int .i64 2, .int .i64 2]) rfl (by kernel_rfl) ?_
  refine wpList_val (v := .agg #[.string ⟨#[102, 105, 110, 100, 115, 116, 114, 105, 110, 103]⟩, .int .i64 2, .int .i64 2]) rfl (by kernel_rfl) ?_
  refine wpList_val (v := .agg #[.string ⟨#[102, 105, 114, 115, 116, 119, 111, 114, 100]⟩, .int .i64 1, .int .i64 1]) rfl (by kernel_rfl) ?_
  refine wpList_val (v := .agg #[.string ⟨#[102, 108, 97, 118, 111, 114]⟩, .int .i64 1, .int .i64 1]) rfl (by kernel_rfl) ?_
  refine wpList_val (v := .agg #[.string ⟨#[102, 111, 114, 101, 97, 99, 104]⟩, .int .i64 3, .int .i64 3]) rfl (by kernel_rfl) ?_
  refine wpList_val (v := .agg #[.string ⟨#[105, 102]⟩, .int .i64 2, .int .i64 3]) rfl (by kernel_rfl) ?_
  refine wpList_val (v := .agg #[.string ⟨#[105, 110, 102, 111]⟩, .int .i64 1, .int .i64 1]) rfl (by kernel_rfl) ?_
  refine wpList_val (v := .agg #[.string ⟨#[106, 111, 105, 110]⟩, .int .i64 2, .int .i64 2]) rfl (by kernel_rfl) ?_
  refine wpList_val (v := .agg #[.string ⟨#[108, 97, 115, 116, 119, 111, 114, 100]⟩, .int .i64 1, .int .i64 1]) rfl (by kernel_rfl) ?_
  refine wpList_val (v := .agg #[.string ⟨#[110, 111, 116, 100, 105, 114]⟩, .int .i64 1, .int .i64 1]) rfl (by kernel_rfl) ?_
  refine wpList_val (v := .agg #[.string ⟨#[111, 114]⟩, .int .i64 1, .int .i64 (-1)]) rfl (by kernel_rfl) ?_
  refine wpList_val (v := .agg #[.string ⟨#[111, 114, 105, 103, 105, 110]⟩, .int .i64 1, .int .i64 1]) rfl (by kernel_rfl) ?_
  refine wpList_val (v := .agg #[.string ⟨#[112, 97, 116, 115, 117, 98, 115, 116]⟩, .int .i64 3, .int .i64 3]) rfl (by kernel_rfl) ?_
  refine wpList_val (v := .agg #[.string ⟨#[115, 104, 101, 108, 108]⟩, .int .i64 1, .int .i64 1]) rfl (by kernel_rfl) ?_
  refine wpList_val (v := .agg #[.string ⟨#[115, 111, 114, 116]⟩, .int .i64 1, .int .i64 1]) rfl (by kernel_rfl) ?_
  refine wpList_val (v := .agg #[.string ⟨#[115, 116, 114, 105, 112]⟩, .int .i64 1, .int .i64 1]) rfl (by kernel_rfl) ?_
  refine wpList_val (v := .agg #[.string ⟨#[115, 117, 98, 115, 116]⟩, .int .i64 3, .int .i64 3]) rfl (by kernel_rfl) ?_
  refine wpList_val (v := .agg #[.string ⟨#[115, 117, 102, 102, 105, 120]⟩, .int .i64 1, .int .i64 1]) rfl (by kernel_rfl) ?_
  refine wpList_val (v := .agg #[.string ⟨#[118, 97, 108, 117, 101]⟩, .int .i64 1, .int .i64 1]) rfl (by kernel_rfl) ?_
  refine wpList_val (v := .agg #[.string ⟨#[119, 97, 114, 110, 105, 110, 103]⟩, .int .i64 1, .int .i64 1]) rfl (by kernel_rfl) ?_
  refine wpList_val (v := .agg #[.string ⟨#[119, 105, 108, 100, 99, 97, 114, 100]⟩, .int .i64 1, .int .i64 1]) rfl (by kernel_rfl) ?_
  refine wpList_val (v := .agg #[.string ⟨#[119, 111, 114, 100]⟩, .int .i64 2, .int .i64 2]) rfl (by kernel_rfl) ?_
  refine wpList_val (v := .agg #[.string ⟨#[119, 111, 114, 100, 108, 105, 115, 116]⟩, .int .i64 3, .int .i64 3]) rfl (by kernel_rfl) ?_
  refine wpList_val (v := .agg #[.string ⟨#[119, 111, 114, 100, 115]⟩, .int .i64 1, .int .i64 1]) rfl (by kernel_rfl) ?_
  refine wpList_val (v := .agg #[.string ⟨#[]⟩, .int .i64 0, .int .i64 0]) rfl (by kernel_rfl) ?_
  refine wpList_val (v := .agg funA) rfl (by kernel_rfl) ?_
  refine wpList_store_fresh (c' := funA) rfl 81 (.tmp 0) (.tmp 36) rfl (by kernel_rfl) (by kernel_rfl) (by rw [HZ2.out]; kernel_rfl) (by rw [HZ.out.2]; kernel_rfl) (by kernel_rfl) ?_
  refine wpList_nil ?_
  rename_i K hK
  refine hK _ _ ?_
  refine wp_ret ?_
  exact bodyPost_ret (v := .agg funA) (results_cell (t := 0) (ty := 81) (a := ⟨w.heap.size, 0, none⟩) (by kernel_rfl) (by kernel_rfl) (run_loadVar_new w 81 funA 35 80 Try.underlying81 (by rw [HZ2.out]; kernel_rfl))) (by kernel_rfl) ⟨rfl, (Below.refl _ _).alloc (Nat.le_refl _) _⟩
def funB : Array Value := (funL.flatMap funC).toArray
theorem wpList_valw {P : Program} {ops : Array Oper} {Q : Exit → Act → World → Prop} {a : Act} {w w' : World} {rest : List Oper} {o : Oper} {v : Value} (hg : o.guard = none) (hr : (execOp a.eval o).run P w = .ok (.value v) w')
    (h : wpList P ops Q rest (a.put o.dst v) w') : wpList P ops Q (o :: rest) a w :=
  wpList_plain hg fun K hK => by unfold Oper.wp; rw [hr]; exact hK _ _ h

set_option maxRecDepth 100000 in
set_option maxHeartbeats 1000000 in
theorem funs_any (w : World) : Calls Try.prog 88 #[] w fun e w' => e = .returned (.slice (some ⟨w.heap.size, 0, none⟩) 34 34) ∧ w' = w.alloc (.cells funB 86) := by
  go_enter Try.func88, Try.ntmps88
  go_upto_region 1 with fail
  refine wp_region_lit ?_
  refine wpList_val (v := .agg #[.string ⟨#[97, 98, 115, 112, 97, 116, 104]⟩, .int .i64 1, .int .i64 1]) rfl (by kernel_rfl) ?_
  refine wpList_val (v := .agg #[.string ⟨#[97, 100, 100, 112, 114, 101, 102, 105, 120]⟩, .int .i64 2, .int .i64 2]) rfl (by kernel_rfl) ?_
  refine wpList_val (v := .agg #[.string ⟨#[97, 100, 100, 115, 117, 102, 102, 105, 120]⟩, .int .i64 2, .int .i64 2]) rfl (by kernel_rfl) ?_
  refine wpList_val (v := .agg #[.string ⟨#[97, 110, 100]⟩, .int .i64 1, .int .i64 (-1)]) rfl (by kernel_rfl) ?_
  refine wpList_val (v := .agg #[.string ⟨#[98, 97, 115, 101, 110, 97, 109, 101]⟩, .int .i64 1, .int .i64 1]) rfl (by kernel_rfl) ?_
  refine wpList_val (v := .agg #[.string ⟨#[99, 97, 108, 108]⟩, .int .i64 1, .int .i64 (-1)]) rfl (by kernel_rfl) ?_
  refine wpList_val (v := .agg #[.string ⟨#[100, 105, 114]⟩, .int .i64 1, .int .i64 1]) rfl (by kernel_rfl) ?_
  refine wpList_val (v := .agg #[.string ⟨#[101, 114, 114, 111, 114]⟩, .int .i64 1, .int .i64 1]) rfl (by kernel_rfl) ?_
  refine wpList_val (v := .agg #[.string ⟨#[101, 118, 97, 108]⟩, .int .i64 1, .int .i64 1]) rfl (by kernel_rfl) ?_
  refine wpList_val (v := .agg #[.string ⟨#[102, 105, 108, 116, 101, 114]⟩, .int .i64 2, .int .i64 2]) rfl (by kernel_rfl) ?_
  refine wpList_val (v := .agg #[.string ⟨#[102, 105, 108, 116, 101, 114, 45, 111, 117, 116]⟩, .int .i64 2, .int .i64 2]) rfl (by kernel_rfl) ?_
  refine wpList_val (v := .agg #[.string ⟨#[102, 105, 110, 100, 115, 116, 114, 105, 110, 103]⟩, .int .i64 2, .int .i64 2]) rfl (by kernel_rfl) ?_
  refine wpList_val (v := .agg #[.string ⟨#[102, 105, 114, 115, 116, 119, 111, 114, 100]⟩, .int .i64 1, .int .i64 1]) rfl (by kernel_rfl) ?_
  refine wpList_val (v := .agg #[.string ⟨#[102, 108, 97, 118, 111, 114]⟩, .int .i64 1, .int .i64 1]) rfl (by kernel_rfl) ?_
  refine wpList_val (v := .agg #[.string ⟨#[102, 111, 114, 101, 97, 99, 104]⟩, .int .i64 3, .int .i64 3]) rfl (by kernel_rfl) ?_
  refine wpList_val (v := .agg #[.string ⟨#[105, 102]⟩, .int .i64 2, .int .i64 3]) rfl (by kernel_rfl) ?_
  refine wpList_val (v := .agg #[.string ⟨#[105, 110, 102, 111]⟩, .int .i64 1, .int .i64 1]) rfl (by kernel_rfl) ?_
  refine wpList_val (v := .agg #[.string ⟨#[106, 111, 105, 110]⟩, .int .i64 2, .int .i64 2]) rfl (by kernel_rfl) ?_
  refine wpList_val (v := .agg #[.string ⟨#[108, 97, 115, 116, 119, 111, 114, 100]⟩, .int .i64 1, .int .i64 1]) rfl (by kernel_rfl) ?_
  refine wpList_val (v := .agg #[.string ⟨#[110, 111, 116, 100, 105, 114]⟩, .int .i64 1, .int .i64 1]) rfl (by kernel_rfl) ?_
  refine wpList_val (v := .agg #[.string ⟨#[111, 114]⟩, .int .i64 1, .int .i64 (-1)]) rfl (by kernel_rfl) ?_
  refine wpList_val (v := .agg #[.string ⟨#[111, 114, 105, 103, 105, 110]⟩, .int .i64 1, .int .i64 1]) rfl (by kernel_rfl) ?_
  refine wpList_val (v := .agg #[.string ⟨#[112, 97, 116, 115, 117, 98, 115, 116]⟩, .int .i64 3, .int .i64 3]) rfl (by kernel_rfl) ?_
  refine wpList_val (v := .agg #[.string ⟨#[115, 104, 101, 108, 108]⟩, .int .i64 1, .int .i64 1]) rfl (by kernel_rfl) ?_
  refine wpList_val (v := .agg #[.string ⟨#[115, 111, 114, 116]⟩, .int .i64 1, .int .i64 1]) rfl (by kernel_rfl) ?_
  refine wpList_val (v := .agg #[.string ⟨#[115, 116, 114, 105, 112]⟩, .int .i64 1, .int .i64 1]) rfl (by kernel_rfl) ?_
  refine wpList_val (v := .agg #[.string ⟨#[115, 117, 98, 115, 116]⟩, .int .i64 3, .int .i64 3]) rfl (by kernel_rfl) ?_
  refine wpList_val (v := .agg #[.string ⟨#[115, 117, 102, 102, 105, 120]⟩, .int .i64 1, .int .i64 1]) rfl (by kernel_rfl) ?_
  refine wpList_val (v := .agg #[.string ⟨#[118, 97, 108, 117, 101]⟩, .int .i64 1, .int .i64 1]) rfl (by kernel_rfl) ?_
  refine wpList_val (v := .agg #[.string ⟨#[119, 97, 114, 110, 105, 110, 103]⟩, .int .i64 1, .int .i64 1]) rfl (by kernel_rfl) ?_
  refine wpList_val (v := .agg #[.string ⟨#[119, 105, 108, 100, 99, 97, 114, 100]⟩, .int .i64 1, .int .i64 1]) rfl (by kernel_rfl) ?_
  refine wpList_val (v := .agg #[.string ⟨#[119, 111, 114, 100]⟩, .int .i64 2, .int .i64 2]) rfl (by kernel_rfl) ?_
  refine wpList_val (v := .agg #[.string ⟨#[119, 111, 114, 100, 108, 105, 115, 116]⟩, .int .i64 3, .int .i64 3]) rfl (by kernel_rfl) ?_
  refine wpList_val (v := .agg #[.string ⟨#[119, 111, 114, 100, 115]⟩, .int .i64 1, .int .i64 1]) rfl (by kernel_rfl) ?_
  refine wpList_valw (v := .slice (some ⟨w.heap.size, 0, none⟩) 34 34) (w' := w.alloc (.cells funB 86)) rfl (by kernel_rfl) ?_
  refine wpList_val (v := .slice (some ⟨w.heap.size, 0, none⟩) 34 34) rfl (by kernel_rfl) ?_
  refine wpList_nil ?_
  rename_i K hK
  refine hK _ _ ?_
  refine wp_ret ?_
  exact bodyPost_ret (v := .slice (some ⟨w.heap.size, 0, none⟩) 34 34) (by kernel_rfl) (by kernel_rfl) ⟨rfl, rfl⟩
end Go.Proofs.Ytndoloohdloflaa
