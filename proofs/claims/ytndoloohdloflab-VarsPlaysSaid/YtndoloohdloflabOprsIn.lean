/- A row of calls that came in: the calls stand one behind the other in memory, five cells each; no condition. -/
import Derived.Test.YtndoloohdloflabVarsSame
import Derived.Deep.Slices
import Derived.Deep.SlicePairs
import Derived.SizedLaws
namespace Go.Proofs.Ytndoloohdloflab
open Go.ChangeShapes Go.WideShapes Go.RowKit Go.Deep

instance : Inhabited Opr := ⟨⟨0, ⟨#[]⟩, ⟨#[]⟩, 0, 0⟩⟩
theorem weightsAll_in {H : Type} {P : Program} {e : TypeId} : ∀ (l : List (DataW H)) (d : DataW H), d ∈ l → ∀ n ∈ DataW.weights P e d, n ∈ DataW.weightsAll P e l
  | x :: l, d, h, n, hn => by
    rw [DataW.weightsAll, List.mem_append]
    rcases List.mem_cons.1 h with rfl | h
    · exact .inl hn
    · exact .inr (weightsAll_in l d h n hn)

theorem oprs_of {H : Type} {enc : TypeId × Value → H} {P : Program} {W : World} {T e : TypeId} {f0 f1 f2 f3 f4 : Field} (ht : P.underlying T = some (.slice e)) (he : P.underlying e = some (.struct #[f0, f1, f2, f3, f4]))
    (ce : P.cellsOf e = 5) (o0 : f0.offset = 0) (o1 : f1.offset = 1) (o2 : f2.offset = 2) (o3 : f3.offset = 3) (o4 : f4.offset = 4)
    (c0 : P.cellsOf f0.type = 1) (c1 : P.cellsOf f1.type = 1) (c2 : P.cellsOf f2.type = 1) (c3 : P.cellsOf f3.type = 1) (c4 : P.cellsOf f4.type = 1)
    (t0 : P.underlying f0.type = some (.int .i64)) (t1 : P.underlying f1.type = some .string) (t2 : P.underlying f2.type = some .string) (t3 : P.underlying f3.type = some (.int .i64)) (t4 : P.underlying f4.type = some (.int .i64)) (hby : 1 ≤ P.bytesOf e)
    {ts : List TypeId} {ds : List (DataW H)} (hsz : (DataW.weightsEach P ts ds).all (· ≤ reachBytes) = true) {j : Nat} (hj : ts[j]? = some T) {d : DataW H} (hd : ds[j]? = some d) {A : Option Addr} {len cap : Nat} {ps : List MemPlace}
    (h : DataW.Trod enc P W 0 (fun _ => true) true T (.slice A len cap) d ps) :
    ∃ xs : List Opr, len = xs.length ∧ OprsAt W A xs ∧ xs.length ≤ 140737488351232 ∧ (∀ x ∈ xs, x.name.size ≤ 140737488351232 ∧ x.value.size ≤ 140737488351232) ∧ xs.length ≤ cap := by
  obtain ⟨fuel, hf⟩ := h
  have hf' : DataW.trod enc P W 0 (fun _ => true) true fuel T [.slice A len cap] = some (d, ps) := hf
  rcases open_slice ht hf' with ⟨hcs, hx⟩ | ⟨a, len', cap', m, n, D, Pl, hcs, _, hl, hm, hmm, hx, hel⟩
  · simp at hcs
    obtain ⟨rfl, rfl, rfl⟩ := hcs
    exact ⟨[], rfl, fun j x h => by simp at h, by simp, by simp, by simp⟩
  · simp at hcs
    obtain ⟨rfl, rfl, rfl⟩ := hcs
    obtain ⟨rfl, rfl⟩ := Prod.mk.inj hx
    simp only [if_true] at hmm
    subst hmm
    have hw := fun n hn => List.all_eq_true.1 hsz n (DataW.weights_mem_each hj hd n hn)
    simp only [DataW.weights, ht] at hw
    have h1 := hw _ (List.mem_cons_self)
    have h2 : ∀ i, i < len → ∀ k ∈ DataW.weights P e (D i), k ≤ 140737488351232 := fun i hi k hk => by
      have : k ≤ reachBytes := of_decide_eq_true (hw k (List.mem_cons_of_mem _ (List.mem_append_left _ (weightsAll_in _ (D i) (List.mem_map.2 ⟨i, List.mem_range.2 hi, rfl⟩) k hk))))
      simpa [reachBytes] using this
    have each : ∀ i, i < len → ∃ x : Opr, W.cell? (a.add (i * 5)) = some (.int .i64 x.kind) ∧ W.cell? (a.add (i * 5 + 1)) = some (.string x.name) ∧ W.cell? (a.add (i * 5 + 2)) = some (.string x.value) ∧ W.cell? (a.add (i * 5 + 3)) = some (.int .i64 x.flav) ∧ W.cell? (a.add (i * 5 + 4)) = some (.int .i64 x.origin) ∧
        x.name.size ≤ 140737488351232 ∧ x.value.size ≤ 140737488351232 := by
      intro i hi
      obtain ⟨cs', q1, q2⟩ := hel i (by omega)
      rw [ce] at q1
      obtain ⟨_, hlen, hcell⟩ := World.cells?_some q1
      obtain ⟨xs, k, hk, hxy, _, hxl, hfl⟩ := DataW.trod_struct he q2
      match xs, hxl, cs', hlen with
      | [y0, y1, y2, y3, y4], _, [v0, v1, v2, v3, v4], _ =>
        have g0 := hfl 0 f0 rfl
        have g1 := hfl 1 f1 rfl
        have g2 := hfl 2 f2 rfl
        have g3 := hfl 3 f3 rfl
        have g4 := hfl 4 f4 rfl
        simp [o0, o1, o2, o3, o4, c0, c1, c2, c3, c4] at g0 g1 g2 g3 g4
        obtain ⟨n0, r0, u0, _⟩ := DataW.trod_int t0 g0
        obtain ⟨n1, r1, u1, _⟩ := DataW.trod_string t1 g1
        obtain ⟨n2, r2, u2, _⟩ := DataW.trod_string t2 g2
        obtain ⟨n3, r3, u3, _⟩ := DataW.trod_int t3 g3
        obtain ⟨n4, r4, u4, _⟩ := DataW.trod_int t4 g4
        simp at r0 r1 r2 r3 r4
        subst r0 r1 r2 r3 r4 u0 u1 u2 u3 u4
        simp only [Prod.mk.injEq] at hxy
        have hD : D i = .agg [.lit (.int .i64 n0), .lit (.string n1.data.toList), .lit (.string n2.data.toList), .lit (.int .i64 n3), .lit (.int .i64 n4)] := by simpa using hxy.1
        have e0 := hcell 0 (by omega)
        have e1 := hcell 1 (by omega)
        have e2 := hcell 2 (by omega)
        have e3 := hcell 3 (by omega)
        have e4 := hcell 4 (by omega)
        rw [add_add] at e0 e1 e2 e3 e4
        have hwt := h2 i hi
        rw [hD] at hwt
        simp only [DataW.weights, he] at hwt
        refine ⟨⟨n0, n1, n2, n3, n4⟩, by simpa using e0, by simpa using e1, by simpa using e2, by simpa using e3, by simpa using e4, ?_, ?_⟩
        · have := hwt n1.data.toList.length (by simp [DataW.weightsEach, DataW.weights]); simpa using this
        · have := hwt n2.data.toList.length (by simp [DataW.weightsEach, DataW.weights]); simpa using this
    obtain ⟨q, hq⟩ := choose_lt each
    have hxl : ((List.range len).map q).length = len := by simp
    refine ⟨(List.range len).map q, hxl.symm, ?_, ?_, ?_, by rw [hxl]; exact hl⟩
    · intro i x hx2
      have hil : i < len := by have := (List.getElem?_eq_some_iff.1 hx2).1; simpa using this
      have hqi : q i = x := by
        rw [List.getElem?_map, List.getElem?_range hil] at hx2
        simpa using hx2
      obtain ⟨a0, a1, a2, a3, a4, _⟩ := hq i hil
      rw [hqi] at a0 a1 a2 a3 a4
      obtain ⟨b, off, spot⟩ := a
      have hspot : spot = none := by
        obtain ⟨z0, _⟩ := hq 0 (by omega)
        simpa [Addr.add] using World.cell?_spot z0
      subst hspot
      have hA : ∀ k, (⟨b, off, none⟩ : Addr).add k = ⟨b, off + k, none⟩ := fun k => by
        simp only [Addr.add]
        split
        · subst_vars; rfl
        · simp
      rw [hA] at a0 a1 a2 a3 a4
      exact ⟨b, off, rfl, a0, a1, a2, a3, a4⟩
    · rw [hxl]
      have h3 : (len + (m - len)) * P.bytesOf e ≤ 140737488351232 := by simpa [reachBytes] using h1
      have := Nat.le_trans (Nat.le_mul_of_pos_right (len + (m - len)) hby) h3
      omega
    · intro x hx2
      obtain ⟨i, hi, rfl⟩ := List.mem_map.1 hx2
      obtain ⟨_, _, _, _, _, b1, b2⟩ := hq i (List.mem_range.1 hi)
      exact ⟨b1, b2⟩
end Go.Proofs.Ytndoloohdloflab
