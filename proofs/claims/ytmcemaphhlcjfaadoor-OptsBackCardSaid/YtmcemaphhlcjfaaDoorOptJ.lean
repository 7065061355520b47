/- What Parse tells, in plain words; structs of fourteen cells; no condition. -/
import Derived.Test.YtmcemaphhlcjfaaDoorOptO
namespace Go.Proofs.YtmcemaphhlcjfaaDoor
open Go.RowKit Go.Maps

theorem splitP_le (p : UInt8 → Bool) : ∀ l : List UInt8, ∀ y ∈ splitP p l, y.length ≤ l.length
  | [], y, h => by simp [splitP] at h; simp [h]
  | c :: l, y, h => by
    have ih := splitP_le p l
    rw [splitP] at h
    split at h
    · rcases List.mem_cons.1 h with rfl | h
      · simp
      · have := ih y h; simp; omega
    · cases hs : splitP p l with
      | nil => exact absurd hs (splitP_ne p l)
      | cons x xs =>
        rw [hs] at h ih
        rcases List.mem_cons.1 h with rfl | h
        · have := ih x (by simp); simp; omega
        · have := ih y (by simp [h]); simp; omega
theorem words_sz (s : ByteArray) : ∀ x ∈ wordsB s, x.size ≤ s.size := by
  intro x hx
  unfold wordsB fieldsL at hx
  obtain ⟨y, hy, rfl⟩ := List.mem_map.1 hx
  have := splitP_le isB s.data.toList y (List.mem_filter.1 hy).1
  rw [Array.length_toList] at this
  exact this
def put14 (w : World) (b : Nat) (a0 a1 a2 a3 a4 a5 a6 a7 a8 a9 a10 a11 a12 a13 : Value) : World := ((((((((((((((w.setCell ⟨b, 0, none⟩ a0).setCell ⟨b, 1, none⟩ a1).setCell ⟨b, 2, none⟩ a2).setCell ⟨b, 3, none⟩ a3).setCell ⟨b, 4, none⟩ a4).setCell ⟨b, 5, none⟩ a5).setCell ⟨b, 6, none⟩ a6).setCell ⟨b, 7, none⟩ a7).setCell ⟨b, 8, none⟩ a8).setCell ⟨b, 9, none⟩ a9).setCell ⟨b, 10, none⟩ a10).setCell ⟨b, 11, none⟩ a11).setCell ⟨b, 12, none⟩ a12).setCell ⟨b, 13, none⟩ a13)
theorem set14 {w : World} {b : Nat} {z0 z1 z2 z3 z4 z5 z6 z7 z8 z9 z10 z11 z12 z13 : Value} {t : TypeId} (h : w.heap[b]? = some (.cells #[z0, z1, z2, z3, z4, z5, z6, z7, z8, z9, z10, z11, z12, z13] t (0, 0))) (a0 a1 a2 a3 a4 a5 a6 a7 a8 a9 a10 a11 a12 a13 : Value) :
    (put14 w b a0 a1 a2 a3 a4 a5 a6 a7 a8 a9 a10 a11 a12 a13).heap[b]? = some (.cells #[a0, a1, a2, a3, a4, a5, a6, a7, a8, a9, a10, a11, a12, a13] t (0, 0)) := by
  have h0 := heap_setCell_same _ b 0 _ t a0 h
  have h1 := heap_setCell_same _ b 1 _ t a1 h0
  have h2 := heap_setCell_same _ b 2 _ t a2 h1
  have h3 := heap_setCell_same _ b 3 _ t a3 h2
  have h4 := heap_setCell_same _ b 4 _ t a4 h3
  have h5 := heap_setCell_same _ b 5 _ t a5 h4
  have h6 := heap_setCell_same _ b 6 _ t a6 h5
  have h7 := heap_setCell_same _ b 7 _ t a7 h6
  have h8 := heap_setCell_same _ b 8 _ t a8 h7
  have h9 := heap_setCell_same _ b 9 _ t a9 h8
  have h10 := heap_setCell_same _ b 10 _ t a10 h9
  have h11 := heap_setCell_same _ b 11 _ t a11 h10
  have h12 := heap_setCell_same _ b 12 _ t a12 h11
  have h13 := heap_setCell_same _ b 13 _ t a13 h12
  simpa [put14] using h13
theorem put14_other {w : World} {b k : Nat} (h : k ≠ b) (a0 a1 a2 a3 a4 a5 a6 a7 a8 a9 a10 a11 a12 a13 : Value) : (put14 w b a0 a1 a2 a3 a4 a5 a6 a7 a8 a9 a10 a11 a12 a13).heap[k]? = w.heap[k]? := by
  unfold put14
  rw [Below.heap_setCell _ _ _ _ h, Below.heap_setCell _ _ _ _ h, Below.heap_setCell _ _ _ _ h, Below.heap_setCell _ _ _ _ h, Below.heap_setCell _ _ _ _ h, Below.heap_setCell _ _ _ _ h, Below.heap_setCell _ _ _ _ h, Below.heap_setCell _ _ _ _ h, Below.heap_setCell _ _ _ _ h, Below.heap_setCell _ _ _ _ h, Below.heap_setCell _ _ _ _ h, Below.heap_setCell _ _ _ _ h, Below.heap_setCell _ _ _ _ h, Below.heap_setCell _ _ _ _ h]
theorem put14_below {B b : Nat} {w0 w : World} (h : Below B w0 w) (hb : B ≤ b) (a0 a1 a2 a3 a4 a5 a6 a7 a8 a9 a10 a11 a12 a13 : Value) : Below B w0 (put14 w b a0 a1 a2 a3 a4 a5 a6 a7 a8 a9 a10 a11 a12 a13) :=
  ((((((((((((((h.setCell (p := ⟨b, 0, none⟩) hb _).setCell (p := ⟨b, 1, none⟩) hb _).setCell (p := ⟨b, 2, none⟩) hb _).setCell (p := ⟨b, 3, none⟩) hb _).setCell (p := ⟨b, 4, none⟩) hb _).setCell (p := ⟨b, 5, none⟩) hb _).setCell (p := ⟨b, 6, none⟩) hb _).setCell (p := ⟨b, 7, none⟩) hb _).setCell (p := ⟨b, 8, none⟩) hb _).setCell (p := ⟨b, 9, none⟩) hb _).setCell (p := ⟨b, 10, none⟩) hb _).setCell (p := ⟨b, 11, none⟩) hb _).setCell (p := ⟨b, 12, none⟩) hb _).setCell (p := ⟨b, 13, none⟩) hb _)
theorem load14 {W : World} {b : Nat} {a0 a1 a2 a3 a4 a5 a6 a7 a8 a9 a10 a11 a12 a13 : Value} (h : W.heap[b]? = some (.cells #[a0, a1, a2, a3, a4, a5, a6, a7, a8, a9, a10, a11, a12, a13] 47 (0, 0))) : (loadVar 47 ⟨b, 0, none⟩).run Tryd.prog W = .ok (.agg #[a0, a1, a2, a3, a4, a5, a6, a7, a8, a9, a10, a11, a12, a13]) W := by
  refine run_loadVar_mid W b 0 47 [a0, a1, a2, a3, a4, a5, a6, a7, a8, a9, a10, a11, a12, a13] _ (fun j v hv => ?_) Tryd.underlying47 rfl (by kernel_rfl)
  rw [Nat.zero_add, cell_of_row W b j _ 47 (0, 0) h]
  simpa using hv
theorem results_c2 {P : Program} {fn : Func} {tmps : Array Value} {t i : Tmp} {ty : TypeId} {a : Addr} {v x : Value} {w : World} (h : fn.results = #[.cell t ty, .tmp i]) (hp : tmps.getD t undef = .pointer (some a)) (hl : (loadVar ty a).run P w = .ok v w) (hx : tmps.getD i undef = x) :
    (results fn tmps).run P w = .ok (.tuple #[v, x]) w := by
  have ha : (asAddr (tmps.getD t undef)).run P w = .ok a w := by rw [hp]; rfl
  unfold results
  rw [h]
  simp only [List.mapM_toArray, List.mapM_cons, List.mapM_nil, Sem.run_map, Sem.run_bind, Sem.run_pure, Result.andThen_ok, ha, hl, hx]
  rfl
theorem wstep_fit {own plain : Bool} {l : List ByteArray} {w : ByteArray} {p n : Nat} {x : Opx} {q : Bool × Opx × Nat} (h : wstep own plain l w p x = some q) (hf : fitB n x) : fitB (n + 1) q.2.1 := by
  unfold wstep at h
  split at h
  · cases h; exact hf.up (Nat.le_succ n)
  split at h
  · cases h; exact hf.up (Nat.le_succ n)
  split at h
  · cases hl : longP (cutP w).1 (cutP w).2.1 (cutP w).2.2 x with
    | none => rw [hl] at h; cases h
    | some y => rw [hl] at h; cases h; exact longP_fit hl hf
  split at h
  · cases hl : letF w l (w.size + 1) 1 p x with
    | none => rw [hl] at h; cases h
    | some y => rw [hl] at h; cases h; exact (letF_fit w l _ 1 p x y.1 y.2 n hl hf).1
  split at h
  · cases h
    refine ⟨Nat.le_trans hf.1 (Nat.le_succ n), Nat.le_trans hf.2.1 (Nat.le_succ n), ?_⟩
    show (x.vs ++ [w]).length ≤ n + 1
    have := hf.2.2
    rw [List.length_append]; simpa using this
  split at h
  · cases h
    refine ⟨Nat.le_trans hf.1 (Nat.le_succ n), ?_, Nat.le_trans hf.2.2 (Nat.le_succ n)⟩
    show (x.gs ++ [nameB w]).length ≤ n + 1
    have := hf.2.1
    rw [List.length_append]; simpa using this
  · cases h; exact hf.up (Nat.le_succ n)
theorem wordsF_fit (own : Bool) (l : List ByteArray) : ∀ (f p : Nat) (plain : Bool) (x x' : Opx) (n : Nat), wordsF own l f p plain x = some x' → fitB n x → fitB (n + f) x' := by
  intro f
  induction f with
  | zero => intro p plain x x' n h hf; cases h; exact hf
  | succ f ih =>
    intro p plain x x' n h hf
    cases hlp : l[p]? with
    | none => rw [wordsF_none hlp] at h; cases h; exact hf.up (by omega)
    | some w =>
      rw [wordsF_some hlp] at h
      cases hs : wstep own plain l w (p + 1) x with
      | none => rw [hs] at h; cases h
      | some q =>
        rw [hs] at h
        exact (ih q.2.2 q.1 q.2.1 x' (n + 1) h (wstep_fit hs hf)).up (by omega)
theorem words_ne (s : ByteArray) : ∀ x ∈ wordsB s, 1 ≤ x.size := by
  intro x hx
  unfold wordsB at hx
  obtain ⟨y, hy, rfl⟩ := List.mem_map.1 hx
  unfold fieldsL at hy
  have hn := (List.mem_filter.1 hy).2
  have : y ≠ [] := by intro h; rw [h] at hn; simp at hn
  have h1 : (mk y).size = y.length := List.size_toArray ..
  have h2 : y.length ≠ 0 := fun h => this (List.eq_nil_of_length_eq_zero h)
  omega
/-- the first word of flags gets its dash -/
noncomputable def dashB (h : ByteArray) : ByteArray := if h.get! 0 ≠ 45 ∧ ¬ 0 ≤ Lib.indexByte h.data.toList 61 then ⟨#[45]⟩ ++ h else h
noncomputable def fixL : List ByteArray → List ByteArray
  | [] => []
  | h :: tl => dashB h :: tl
def x0 : Opx := ⟨1, fun _ => false, false, [], [], []⟩
/-- Parse: the options, or none -/
noncomputable def parseF (args : List ByteArray) (f : ByteArray) : Option Opx := match wordsF false (fixL (wordsB f)) ((fixL (wordsB f)).length + 1) 0 false x0 with
  | none => none
  | some x => wordsF true args (args.length + 1) 0 false x
theorem OpAt.trim {W : World} {ob : Nat} {S : Nat → Prop} {x : Opx} (h : OpAt W ob S x) : OpAt W ob (fun k => S k ∧ k < W.heap.size) x := by
  obtain ⟨vf, vg, vv, h1, h2, h3, h4, h5, h6, h7, hS, r1, r2, r3⟩ := h
  exact ⟨vf, vg, vv, h1, h2, h3, h4, h5, h6, h7, ⟨hS, lt_of_block h1⟩, fun k hk => ⟨r1 k hk, (h2.block_lt k hk).2⟩, fun k hk => ⟨r2 k hk, (h3.block_lt k hk).2⟩, fun k hk => ⟨r3 k hk, (h4.block_lt k hk).2⟩⟩
theorem Nx.trim {W W' : World} {S S' : Nat → Prop} (h : Nx W S W' S') : Nx W S W' (fun k => S' k ∧ k < W'.heap.size) := ⟨h.os, h.tape, h.output, h.size, h.block, fun k hk => h.grow k hk.1⟩
def zeroO : Value := .agg (opRow 0 (fun _ => false) false (.slice none 0 0) (.slice none 0 0) (.slice none 0 0))
/-- the lists of options that were told -/
def OpsIn (W : World) (x : Opx) (v : Value) : Prop := ∃ vf vg vv, v = .agg (opRow x.j x.bs x.nv vf vg vv) ∧ OwnG W 0 9 1 vf x.fs.length (strV x.fs) ∧ OwnG W 0 9 1 vg x.gs.length (strV x.gs) ∧ OwnG W 0 9 1 vv x.vs.length (strV x.vs)
def PsA (w : World) (r : Option Opx) (e : Ending) (w' : World) : Prop := Below w.heap.size w w' ∧ match r with
  | none => e = .returned (.tuple #[zeroO, .int .i64 60])
  | some x => ∃ v, e = .returned (.tuple #[v, .int .i64 0]) ∧ OpsIn w' x v
theorem opAt_new {w : World} {ob : Nat} {cs : Array Value} (h : w.heap[ob]? = some (.cells cs 47 (0, 0))) (hc : cs = opRow 1 (fun _ => false) false (.slice none 0 0) (.slice none 0 0) (.slice none 0 0)) : OpAt w ob (fun k => k = ob) x0 := by
  subst hc
  exact ⟨.slice none 0 0, .slice none 0 0, .slice none 0 0, h, OwnG.nil _ _ _ _, OwnG.nil _ _ _ _, OwnG.nil _ _ _ _, fun k hk => by simp [Value.ownBlock] at hk, fun k hk => by simp [Value.ownBlock] at hk, fun k hk => by simp [Value.ownBlock] at hk, rfl, fun k hk => by simp [Value.ownBlock] at hk, fun k hk => by simp [Value.ownBlock] at hk, fun k hk => by simp [Value.ownBlock] at hk⟩
end Go.Proofs.YtmcemaphhlcjfaaDoor
