/- append of however many elements, none too, onto a slice of the call's own; condition: the elements lie in memory. -/
import Derived.Test.YtndoloohdloflabOwn
import Derived.Deep.RegionLaw
namespace Go.Proofs.Ytndoloohdloflab
open Go.RowKit
section
variable {P : Program} {w : World}
theorem run_append_zero (t ty e : TypeId) (i : TypeInfo) (ht : P.underlying t = some (.slice e)) (hi : P.info? e = some i) (A p : Option Addr) (n cap c : Nat) (h : n ≤ cap) :
    (Builtin.append_ #[t, t] ty #[.slice A n cap, .slice p 0 c]).run P w = .ok (.slice A n cap) w := by
  have hl : ∀ (x : Addr), (loadCells x 0).run P w = .ok #[] w := fun x => by simpa using run_loadCells_list (P := P) w x [] (by simp)
  cases A <;> cases p <;> simp [Builtin.append_, run_underlying ht, Builtin.lenOf, Builtin.firstCells, sizeOf, typeInfo, hi, storeCells, hl, h]
theorem step_append_GX {ops : Array Oper} {o : Oper} {a : Act} {K : Act → World → Prop} {Q : Exit → Act → World → Prop} {E : Prop} (hgd : o.guard = none) (s x : Operand) (t : TypeId)
    (ho : o.op = .call { callee := .builtin .append, args := #[s, x], argTypes := #[t, t] })
    (base : Nat) (e : TypeId) (i : TypeInfo) (z : Value) (size bytes : Nat) (ht : P.underlying t = some (.slice e)) (hi : P.info? e = some i) (hz : i.zero = some z)
    (hsize : i.size = size) (hby : i.bytes = bytes) (hzs : z.cells.size = size)
    (A : Option Addr) (n cap : Nat) (xs : List Value) (hs : a.eval s = .slice A n cap) (hown : OwnG w base e size (.slice A n cap) n xs)
    (p : Option Addr) (m c : Nat) (news : List Value) (hx : a.eval x = .slice p m c) (hl : news.length = m * size) (hnews : 0 < m → ∃ ad, p = some ad ∧ ∀ j u, news[j]? = some u → w.cell? (ad.add j) = some u) (h1 : ∀ u ∈ news, u.oneCell' = true)
    (h63 : n + m ≤ maxLen) (hbytes : (n + m) * bytes ≤ 140737488355328) (hbase : base ≤ w.heap.size)
    (h : ∀ A' cap' w', OwnG w' base e size (.slice A' (n + m) cap') (n + m) (xs ++ news) → w.grownBy w' (Value.slice A n cap).ownBlock → K (a.put o.dst (.slice A' (n + m) cap')) w') :
    if Region.wanted o (yielded ops a.tmps) = true then Oper.wp P o a w K Q else E := by
  have hw : Region.wanted o (yielded ops a.tmps) = true := by simp [Region.wanted, hgd]
  rw [if_pos hw]
  by_cases hm : m = 0
  · subst hm
    obtain rfl : news = [] := List.eq_nil_of_length_eq_zero (by simpa using hl)
    obtain ⟨A', c', e', h3, h4⟩ := hown.form
    cases e'
    have hr := run_append_zero (P := P) (w := w) t o.type e i ht hi A p n cap c h3
    unfold Oper.wp execOp
    simp only [ho, resolve, invoke, builtin, Sem.run_bind, Sem.run_pure, Result.andThen_ok, List.map_toArray, List.map_cons, List.map_nil, hs, hx, hr]
    exact h A cap w (by simpa using hown) ⟨rfl, rfl, rfl, Nat.le_refl _, fun _ _ _ => rfl⟩
  · obtain ⟨ad, rfl, hnews2⟩ := hnews (by omega)
    exact wp_append_G w s x t ho base e i z size bytes ht hi hz hsize hby hzs (.slice A n cap) n xs hs hown ad m c news hx hl hnews2 h1 (by omega) h63 hbytes hbase fun g cap' w' h2 h3 _ _ => h _ _ _ h2 h3
end
end Go.Proofs.Ytndoloohdloflab
