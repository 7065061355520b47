/- A range over a function that keeps its state in one variable's box, which it writes between two rounds; each round ends normally. -/
import Derived.Test.YtndoloohdloflabDoorOwn
import Derived.RangeFuncNested
import Derived.RangeFuncBound
import Derived.RangeFuncCalls
import Derived.RangeFuncLeaves
import Derived.RangeFuncBox
namespace Go.Proofs.YtndoloohdloflabDoor
open Go.RowKit

/-- what the box holds stays, whatever it is -/
def KeepAny (bs : Nat) (t : TypeId) (W W' : World) : Prop := ∀ v, Boxed W bs t v → Boxed W' bs t v
theorem KeepAny.put {bs l : Nat} {t : TypeId} {W : World} {o : Obj} (o' : Obj) (h : W.heap[l]? = some o) (hc : o.isCells = false) : KeepAny bs t W (W.putObj l o') := fun v x => by
  have ne : bs ≠ l := fun e => by subst e; rw [show W.heap[bs]? = _ from x] at h; cases h; cases hc
  exact (World.putObj_heap_other ne).trans x
theorem box_ne {bs l : Nat} {t : TypeId} {v : Value} {W : World} {o : Obj} (x : Boxed W bs t v) (h : W.heap[l]? = some o) (hc : o.isCells = false) : l ≠ bs := fun e => by
  subst e; rw [show W.heap[l]? = _ from x] at h; cases h; cases hc

theorem range_box {α : Type} {P : Program} {n : Nat} {g : Operand} {ps : Array Tmp} {assign body : Code} {Q : Exit → Act → World → Prop} {a : Act} {w : World} (bs : Nat) (t : TypeId)
    (h1 : 1 ≤ n) {gf : Nat} {lb : Array Value} (hg : a.eval g = .func (.func gf) #[] lb) (eg : ∀ args w, (callFunc gf args).run P w = .ok (.enter gf args) w)
    (encs : α → Array Value) (S : List α → Prop) (N : Nat) (Fa : World → Prop)
    (hseq : ∀ (l : Nat) (J : List α → World → Prop) (W : World), Below w.heap.size w W →
      (∀ pre W v v', J pre W → Boxed W bs t v → J pre (W.setCell ⟨bs, 0, none⟩ v')) → (∀ pre W k, J pre W → J pre (W.drewN k)) → (∀ pre W, J pre W → Fa W) →
      (∀ pre x W1, J pre W1 → pre.length < N → YieldAt Fence.wide (n - 1 - 1) P l (encs x) W1 fun e W' => e = .returned (.bool true) ∧ J (pre ++ [x]) W' ∧ KeepAny bs t W1 W') →
      J [] W → CallsIn Fence.wide (n - 1) P gf (#[.func (.yield l) #[] #[]] ++ lb) W fun e W' => (∃ v, e = .returned v) ∧ ∃ xs, S xs ∧ J xs W')
    (hps : ∀ x, (encs x).size = ps.size) (I : List α → World → Prop) (hI : OwnFrom w.heap.size I)
    (hIs : ∀ pre W v v', I pre W → Boxed W bs t v → I pre (W.setCell ⟨bs, 0, none⟩ v')) (hId : ∀ pre W k, I pre W → I pre (W.drewN k)) (hIf : ∀ pre W, I pre W → Fa W) (h0 : I [] w) (a₁ : α → Act)
    (hassign : ∀ (l : Nat) (x : α) (W : World) (K : Act → World → Prop), K (a₁ x) W →
      assign.wpIn (Fence.wide.inRound l) (n - 1 - 1) P (Exit.then K (fun _ _ _ => False)) { tmps := (ps.zip (encs x)).foldl (fun t (p, v) => t.setIfInBounds p v) a.tmps, defers := [] } W)
    (hbody : ∀ (l : Nat) (pre : List α) (x : α) (W : World), I pre W → pre.length < N → body.wpIn (Fence.wide.inRound l) (n - 1 - 1) P (ownPostG w.heap.size (KeepAny bs t) I (fun _ _ _ => False) (pre ++ [x]) W) (a₁ x) W)
    (hdone : ∀ (xs : List α) (W : World), S xs → I xs W → W.heap[w.heap.size]? = some (.deferred (some [])) → Q .normal { a with defers := { target := .collected w.heap.size, args := #[] } :: a.defers } W) :
    (Code.rangeFunc g ps assign body).wpIn Fence.wide n P Q a w := by
  refine wpIn_rangeFunc fun fn hfn => ?_
  let R : LoopState → Option Code → Loop := fun st pe => { state := st, pending := pe, fn, tmps := a.tmps, params := ps, assign, body, defers := w.heap.size }
  let D : World := w.alloc (.deferred (some []))
  let L := w.heap.size + 1
  have hDs : D.heap.size = L := World.size_alloc _ _
  have hLoop : (D.alloc (.loop (R .ready none))).heap[L]? = some (.loop (R .ready none)) := by rw [← hDs]; exact World.alloc_heap_new D _
  have hDef : (D.alloc (.loop (R .ready none))).heap[w.heap.size]? = some (.deferred (some [])) := (Below.heap_alloc _ _ _ (by rw [hDs]; exact Nat.lt_succ_self _)).trans (World.alloc_heap_new w _)
  -- the two facts of the statement's own blocks, in every world of the run
  let Own2 : LoopState → Option Code → World → Prop := fun st pe W => W.heap[L]? = some (.loop (R st pe)) ∧ W.heap[w.heap.size]? = some (.deferred (some []))
  refine ⟨L, [{ target := .collected w.heap.size, args := #[] }], D.alloc (.loop (R .ready none)), { target := .fn (.func gf) lb, args := #[.func (.yield L) #[] #[]] }, D.alloc (.loop (R .ready none)), gf,
    #[.func (.yield L) #[] #[]] ++ lb, D.alloc (.loop (R .ready none)), run_enterLoop_outer _ _ _ _ _, ?_, ?_, ?_, fun _ => h1, ?_⟩
  · simp only [resolve, hg]
    simp [go_sem]
  · intro f' hf'; trivial
  · simp [invoke, go_sem, eg]
  refine (hseq L (fun pre W => I pre W ∧ Own2 .ready none W) _ (((Below.refl _ w).alloc (Nat.le_refl _) _).alloc (by rw [hDs]; exact Nat.le_succ _) _) ?_ ?_ (fun pre W h => hIf pre W h.1) ?_ ⟨hI.alloc _ (hI.alloc _ h0), hLoop, hDef⟩).mono ?_
  · rintro pre W v v' ⟨hi, hl, hk⟩ hbx
    exact ⟨hIs pre W v v' hi hbx, (Below.heap_setCell W _ _ _ (box_ne hbx hl rfl)).trans hl, (Below.heap_setCell W _ _ _ (box_ne hbx hk rfl)).trans hk⟩
  · rintro pre W k ⟨hi, hl, hk⟩
    exact ⟨hId pre W k hi, hl, hk⟩
  · rintro pre x W ⟨hi, hl, hk⟩ hlen
    have hlt : L < W.heap.size := (Array.getElem?_eq_some_iff.1 hl).1
    refine ⟨fn, _, assign, body, run_yield (P := P) (args := encs x) hl (hps x), roundIn_of_wpIn hfn (hassign _ x W _ ⟨_, run_beginRound hl rfl, ?_⟩)⟩
    have hl2 : (W.putObj L (.loop (R .busy none))).heap[L]? = some (.loop (R .busy none)) := World.putObj_heap_same hlt
    have hk2 : (W.putObj L (.loop (R .busy none))).heap[w.heap.size]? = some (.deferred (some [])) := (World.putObj_heap_other (by show w.heap.size ≠ w.heap.size + 1; omega)).trans hk
    refine wpIn_mono (hbody _ pre x _ (hI.putObj _ hi (Nat.le_succ _) hl rfl) hlen) ?_
    rintro e a3 W3 hp
    cases e with
    | normal =>
      obtain ⟨hk3, hkp3, hi3⟩ := hp
      have hl3 := hk3.same _ _ (Nat.le_succ _) hl2 rfl
      have hd3 := hk3.same _ _ (Nat.le_refl _) hk2 rfl
      refine ⟨_, _, run_endRound (P := P) Option.none hl3, rfl, ⟨hI.putObj _ hi3 (Nat.le_succ _) hl3 rfl, World.putObj_heap_same (Array.getElem?_eq_some_iff.1 hl3).1, (World.putObj_heap_other (by show w.heap.size ≠ w.heap.size + 1; omega)).trans hd3⟩, ?_⟩
      exact fun v hv => KeepAny.put _ hl3 rfl v (hkp3 v (KeepAny.put _ hl rfl v hv))
    | ret => exact hp.2.elim
    | exit id => exact hp.2.elim
    | goto t => exact hp.2.elim
    | panic ch => exact hp.elim
    | outgrown => exact hp.elim
  · rintro e W2 ⟨⟨v, rfl⟩, xs, hS, hi, hl, hk⟩
    exact ⟨Option.none, _, run_endLoop (P := P) hl (by simp [R]), hdone xs _ hS (hI.putObj _ hi (Nat.le_succ _) hl rfl) ((World.putObj_heap_other (by show w.heap.size ≠ w.heap.size + 1; omega)).trans hk)⟩
end Go.Proofs.YtndoloohdloflabDoor
