/- The lexer's state, and the small functions that turn it; conditions: a text of at most 65,536 bytes. -/
import Derived.Test.YtioddclglemlmaaGreatDoorBaseO
import Derived.Test.YtioddclglemlmaaGreatDoorPlB
import Derived.BigRegion
import Derived.Deep.RegionLaw
namespace Go.Proofs.YtioddclglemlmaaGreatDoor
open Go.RowKit

theorem lt_of_block {w : World} {k : Nat} {o : Obj} (h : w.heap[k]? = some o) : k < w.heap.size := (Array.getElem?_eq_some_iff.1 h).1
theorem rowc {W : World} {b : Nat} {cs : Array Value} {t : TypeId} {j : Nat} {v : Value} (h : W.heap[b]? = some (.cells cs t (0, 0))) (hj : cs[j]? = some v) : W.cell? ⟨b, j, none⟩ = some v ∧ W.frozen? ⟨b, j, none⟩ = false :=
  ⟨by rw [cell_of_row W b j cs t (0, 0) h]; exact hj, frozen_of_row W _ _ _ _ h⟩
theorem mk_size (l : List UInt8) : (mk l).size = l.length := rfl

def u8s (l : List UInt8) : List Value := l.map fun c => .int .u8 c.toNat
def tokV : List (Int × ByteArray) → List Value
  | [] => []
  | (k, t) :: l => .int .i64 k :: .string t :: tokV l
theorem tokV_app (a b : List (Int × ByteArray)) : tokV (a ++ b) = tokV a ++ tokV b := by
  induction a with
  | nil => rfl
  | cons x a ih => obtain ⟨k, t⟩ := x; simp [tokV, ih]
theorem u8s_app (a b : List UInt8) : u8s (a ++ b) = u8s a ++ u8s b := by simp [u8s]
/-- where a lexer stands: the place, the word, what is open, the tokens -/
structure LxS where
  i : Nat
  word : List UInt8
  op : List UInt8
  out : List (Int × ByteArray)
def LxS.fits (x : LxS) (s : ByteArray) : Prop := x.word.length ≤ x.i ∧ x.i ≤ s.size ∧ x.op.length ≤ 61 ∧ x.out.length ≤ 5001
def LxRow (s : ByteArray) (i : Nat) (vw vo vt : Value) : Array Value := #[.string s, .int .i64 i, vw, vo, vt]
def LxAt (W : World) (xb : Nat) (s : ByteArray) (x : LxS) : Prop :=
  x.fits s ∧ ∃ vw vo vt, W.heap[xb]? = some (.cells (LxRow s x.i vw vo vt) 79 (0, 0)) ∧ OwnG W xb 5 1 vw x.word.length (u8s x.word) ∧ OwnG W xb 5 1 vo x.op.length (u8s x.op) ∧ OwnG W xb 116 2 vt x.out.length (tokV x.out) ∧ (∀ k, vw.ownBlock = some k → vo.ownBlock ≠ some k)
theorem LxAt.drewN {W : World} {xb : Nat} {s : ByteArray} {x : LxS} (h : LxAt W xb s x) (n : Nat) : LxAt (W.drewN n) xb s x := by
  obtain ⟨hf, vw, vo, vt, h1, h2, h3, h4, h5⟩ := h
  have hb := below_drewN (Below.refl W.heap.size W) n
  exact ⟨hf, vw, vo, vt, h1, h2.below hb, h3.below hb, h4.below hb, h5⟩
theorem lx_row {W : World} {xb i : Nat} {s : ByteArray} {vw vo vt : Value} (h : W.heap[xb]? = some (.cells (LxRow s i vw vo vt) 79 (0, 0))) :
    W.cell? ⟨xb, 0, none⟩ = some (.string s) ∧ W.cell? ⟨xb, 1, none⟩ = some (.int .i64 i) ∧ W.cell? ⟨xb, 2, none⟩ = some vw ∧ W.cell? ⟨xb, 3, none⟩ = some vo ∧ W.cell? ⟨xb, 4, none⟩ = some vt ∧
    W.frozen? ⟨xb, 0, none⟩ = false ∧ W.frozen? ⟨xb, 1, none⟩ = false ∧ W.frozen? ⟨xb, 2, none⟩ = false ∧ W.frozen? ⟨xb, 3, none⟩ = false ∧ W.frozen? ⟨xb, 4, none⟩ = false :=
  ⟨(rowc h (j := 0) rfl).1, (rowc h (j := 1) rfl).1, (rowc h (j := 2) rfl).1, (rowc h (j := 3) rfl).1, (rowc h (j := 4) rfl).1, frozen_of_row W _ _ _ _ h, frozen_of_row W _ _ _ _ h, frozen_of_row W _ _ _ _ h, frozen_of_row W _ _ _ _ h, frozen_of_row W _ _ _ _ h⟩
/-- what leaves a lexer as it is -/
theorem LxAt.below {W W' : World} {xb : Nat} {s : ByteArray} {x : LxS} (h : LxAt W xb s x) (hb : Below W.heap.size W W') : LxAt W' xb s x := by
  obtain ⟨hf, vw, vo, vt, h1, h2, h3, h4, h5⟩ := h
  exact ⟨hf, vw, vo, vt, (hb.block _ (lt_of_block h1)).trans h1, h2.below hb, h3.below hb, h4.below hb, h5⟩
/-- the panic that a lexer gives up with -/
def stopV (e : Int) : List PanicEntry := [{ v := .iface 101 (.agg #[.int .i64 e]), recovered := false }]

set_option maxRecDepth 100000 in
theorem fail_any (p : Value) (n : Int) (w : World) : Calls Tryz.prog 51 #[p, .int .i64 n] w fun e w' => e = .panicked (stopV n) ∧ w' = w := by
  go_enter Tryz.func51, Tryz.ntmps51
  go_wp2
  exact ⟨rfl, rfl, rfl⟩

set_option maxRecDepth 100000 in
theorem more_q (xb : Nat) (s : ByteArray) (x : LxS) (w : World) (h : LxAt w xb s x) : Calls Tryz.prog 35 #[.pointer (some ⟨xb, 0, none⟩)] w fun e w' => e = .returned (.bool (decide (x.i < s.size))) ∧ ∃ m, w' = w.drewN m := by
  obtain ⟨_, vw, vo, vt, h1, _⟩ := id h
  obtain ⟨c0, c1, c2, c3, c4, f0, f1, f2, f3, f4⟩ := lx_row h1
  clear h h1
  go_enter Tryz.func35, Tryz.ntmps35
  go_wp2
  go_quiet (fail)
  go_wp2
  go_ret
  refine ⟨ret_bool ?_, _, rfl⟩
  by_cases hh : x.i < s.size
  · rw [decide_eq_true hh]
  · rw [decide_eq_false hh]
theorem lx_quiet {xb : Nat} {s : ByteArray} {x : LxS} {w w' : World} {P : Ending → Prop} {e : Ending} (h : LxAt w xb s x) (k : P e ∧ ∃ m, w' = w.drewN m) : P e ∧ LxAt w' xb s x ∧ Below xb w w' := by
  obtain ⟨h1, m, rfl⟩ := k
  exact ⟨h1, h.drewN m, below_drewN (Below.refl _ _) m⟩
theorem more_any (xb : Nat) (s : ByteArray) (x : LxS) (w : World) (h : LxAt w xb s x) : Calls Tryz.prog 35 #[.pointer (some ⟨xb, 0, none⟩)] w fun e w' => e = .returned (.bool (decide (x.i < s.size))) ∧ LxAt w' xb s x ∧ Below xb w w' :=
  (more_q xb s x w h).mono fun _ _ k => lx_quiet (P := fun e => e = _) h k

theorem top_get (l : List UInt8) (c : UInt8) : (u8s (l ++ [c]))[l.length]? = some (.int .u8 c.toNat) := by
  rw [u8s_app, List.getElem?_append_right (by simp [u8s])]; simp [u8s]
theorem OwnG.at_ {w : World} {base : Nat} {e : TypeId} {size : Nat} {v : Value} {n : Nat} {xs : List Value} (h : OwnG w base e size v n xs) (hn : 0 < n) : ∃ g cap cur, v = .slice (some ⟨g, 0, none⟩) n cap ∧ base ≤ g ∧ n ≤ cap ∧ cap ≤ maxLen ∧ w.heap[g]? = some (.cells cur e (0, 0)) ∧ ∀ j u, xs[j]? = some u → w.cell? ⟨g, j, none⟩ = some u := by
  rcases id h.2 with ⟨_, h0⟩ | ⟨g, cap, cur, rfl, hb, hg, hnc, hcm, _, _⟩
  · omega
  · exact ⟨g, cap, cur, rfl, hb, hnc, hcm, hg, h.cells⟩

set_option maxRecDepth 100000 in
theorem top_q (xb : Nat) (s : ByteArray) (x : LxS) (o : List UInt8) (c : UInt8) (w : World) (h : LxAt w xb s x) (ho : x.op = o ++ [c]) : Calls Tryz.prog 78 #[.pointer (some ⟨xb, 3, none⟩)] w fun e w' => e = .returned (.int .u8 c.toNat) ∧ ∃ m, w' = w.drewN m := by
  obtain ⟨hf, vw, vo, vt, h1, _, h3, _⟩ := id h
  obtain ⟨c0, c1, c2, c3, c4, f0, f1, f2, f3, f4⟩ := lx_row h1
  rw [ho] at h3
  obtain ⟨g, cap, cur, rfl, hg, hc1, hc2, _, hce⟩ := h3.at_ (by simp)
  have kc := hce o.length _ (top_get o c)
  have hl : (o ++ [c]).length = o.length + 1 := by simp
  obtain ⟨n, hn⟩ : ∃ n, (o ++ [c]).length = n := ⟨_, rfl⟩
  rw [hn] at c3 hc1
  have hn2 : o.length = n - 1 := by omega
  have hn3 : 1 ≤ n := by omega
  have hn4 : n ≤ 61 := by have := hf.2.2.1; rw [ho] at this; omega
  rw [hn2] at kc
  have wl : IntKind.i64.wrap ((n : Int) - 1) = ((n - 1 : Nat) : Int) := by
    rw [IntWalk.i64_in _ (by omega)]; omega
  clear h h1 h3 hce hf ho hl hn hn2
  go_enter Tryz.func78, Tryz.ntmps78
  go_wp2
  go_quiet (fail)
  go_wp2
  go_ret
  exact ⟨rfl, _, rfl⟩
theorem top_any (xb : Nat) (s : ByteArray) (x : LxS) (o : List UInt8) (c : UInt8) (w : World) (h : LxAt w xb s x) (ho : x.op = o ++ [c]) : Calls Tryz.prog 78 #[.pointer (some ⟨xb, 3, none⟩)] w fun e w' => e = .returned (.int .u8 c.toNat) ∧ LxAt w' xb s x ∧ Below xb w w' :=
  (top_q xb s x o c w h ho).mono fun _ _ k => lx_quiet (P := fun e => e = _) h k

theorem OwnG.ne_row {w : World} {base b : Nat} {e t : TypeId} {size : Nat} {v : Value} {n : Nat} {xs : List Value} {cs : Array Value} (h : OwnG w base e size v n xs) (hb : w.heap[b]? = some (.cells cs t (0, 0))) (ht : t ≠ e) : v.ownBlock ≠ some b := by
  intro hk
  rcases h.2 with ⟨rfl, _⟩ | ⟨g, cap, cur, rfl, _, hg, _⟩
  · simp [Value.ownBlock] at hk
  · obtain rfl : g = b := by simpa [Value.ownBlock] using hk
    rw [hb] at hg
    cases hg; exact ht rfl
theorem OwnG.ne_own {w : World} {base base' : Nat} {e t : TypeId} {size size' : Nat} {v v' : Value} {n n' : Nat} {xs xs' : List Value} (h : OwnG w base e size v n xs) (h' : OwnG w base' t size' v' n' xs') (ht : t ≠ e) (k : Nat) (hk : v.ownBlock = some k) : v'.ownBlock ≠ some k := by
  rcases h.2 with ⟨rfl, _⟩ | ⟨g, cap, cur, rfl, _, hg, _⟩
  · simp [Value.ownBlock] at hk
  · obtain rfl : g = k := by simpa [Value.ownBlock] using hk
    exact h'.ne_row hg (Ne.symm ht)
/-- from w to w1 one of the lexer's own lists may have been written, or a new one made -/
structure Grew (w w1 : World) (v v' : Value) : Prop where
  below : ∀ xb, xb ≤ w.heap.size → (∀ k, v.ownBlock = some k → xb ≤ k) → Below xb w w1
  block : ∀ k, k < w.heap.size → v.ownBlock ≠ some k → w1.heap[k]? = w.heap[k]?
  new : ∀ k, v'.ownBlock = some k → v.ownBlock = some k ∨ w.heap.size ≤ k
theorem Grew.of {w w1 : World} {o : Obj} {v : Value} {g n cap : Nat} (hg : (w.alloc o).grownBy w1 v.ownBlock) (h : v.ownBlock = some g ∨ g = (w.alloc o).heap.size) : Grew w w1 v (.slice (some ⟨g, 0, none⟩) n cap) := by
  refine ⟨fun xb hx hv => ((Below.refl xb w).alloc hx o).grown hg (by simp; omega) hv, fun k hk hn => ?_, fun k hk => ?_⟩
  · rw [hg.block k (by simp; omega) (fun e => hn e.symm), Below.heap_alloc _ _ _ hk]
  · obtain rfl : g = k := by simpa [Value.ownBlock] using hk
    rcases h with h | h
    · exact .inl h
    · right; simp at h; omega
section
variable {w w1 : World} {xb : Nat} {s : ByteArray} {x : LxS} {vw vo vt v' : Value}
theorem lxs_op (hf : x.fits s) (h1 : w.heap[xb]? = some (.cells (LxRow s x.i vw vo vt) 79 (0, 0))) (h2 : OwnG w xb 5 1 vw x.word.length (u8s x.word)) (h3 : OwnG w xb 5 1 vo x.op.length (u8s x.op)) (h4 : OwnG w xb 116 2 vt x.out.length (tokV x.out)) (h5 : ∀ k, vw.ownBlock = some k → vo.ownBlock ≠ some k)
    (hg : Grew w w1 vo v') (op' : List UInt8) (hl : op'.length ≤ 61) (h6 : OwnG w1 xb 5 1 v' op'.length (u8s op')) : LxAt (w1.setCell ⟨xb, 3, none⟩ v') xb s { x with op := op' } ∧ Below xb w (w1.setCell ⟨xb, 3, none⟩ v') := by
  have hlt := lt_of_block h1
  have hr : w1.heap[xb]? = some (.cells (LxRow s x.i vw vo vt) 79 (0, 0)) := (hg.block xb hlt (h3.ne_row h1 (by decide))).trans h1
  have hb := hg.below xb (by omega) (fun k hk => (h3.block_lt k hk).1)
  refine ⟨⟨⟨hf.1, hf.2.1, hl, hf.2.2.2⟩, vw, v', vt, ?_, ?_, ?_, ?_, ?_⟩, hb.setCell (p := ⟨xb, 3, none⟩) (Nat.le_refl _) _⟩
  · have := heap_setCell_same w1 xb 3 _ 79 v' hr
    simpa [LxRow] using this
  · exact h2.move fun k hk => by
      rw [Below.heap_setCell _ _ _ _ (fun e => h2.ne_row h1 (by decide) (by rw [hk, e]))]
      exact hg.block k (h2.block_lt k hk).2 (h5 k hk)
  · exact h6.move fun k hk => Below.heap_setCell _ _ _ _ (fun e => h6.ne_row hr (by decide) (by rw [hk, e]))
  · exact h4.move fun k hk => by
      rw [Below.heap_setCell _ _ _ _ (fun e => h4.ne_row h1 (by decide) (by rw [hk, e]))]
      exact hg.block k (h4.block_lt k hk).2 (h4.ne_own h3 (by decide) k hk)
  · intro k hk hk2
    rcases hg.new k hk2 with h | h
    · exact h5 k hk h
    · have := (h2.block_lt k hk).2; omega
theorem lxs_word (hf : x.fits s) (h1 : w.heap[xb]? = some (.cells (LxRow s x.i vw vo vt) 79 (0, 0))) (h2 : OwnG w xb 5 1 vw x.word.length (u8s x.word)) (h3 : OwnG w xb 5 1 vo x.op.length (u8s x.op)) (h4 : OwnG w xb 116 2 vt x.out.length (tokV x.out)) (h5 : ∀ k, vw.ownBlock = some k → vo.ownBlock ≠ some k)
    (hg : Grew w w1 vw v') (wd : List UInt8) (hl : wd.length ≤ x.i) (h6 : OwnG w1 xb 5 1 v' wd.length (u8s wd)) : LxAt (w1.setCell ⟨xb, 2, none⟩ v') xb s { x with word := wd } ∧ Below xb w (w1.setCell ⟨xb, 2, none⟩ v') := by
  have hlt := lt_of_block h1
  have hr : w1.heap[xb]? = some (.cells (LxRow s x.i vw vo vt) 79 (0, 0)) := (hg.block xb hlt (h2.ne_row h1 (by decide))).trans h1
  have hb := hg.below xb (by omega) (fun k hk => (h2.block_lt k hk).1)
  refine ⟨⟨⟨hl, hf.2.1, hf.2.2.1, hf.2.2.2⟩, v', vo, vt, ?_, ?_, ?_, ?_, ?_⟩, hb.setCell (p := ⟨xb, 2, none⟩) (Nat.le_refl _) _⟩
  · have := heap_setCell_same w1 xb 2 _ 79 v' hr
    simpa [LxRow] using this
  · exact h6.move fun k hk => Below.heap_setCell _ _ _ _ (fun e => h6.ne_row hr (by decide) (by rw [hk, e]))
  · exact h3.move fun k hk => by
      rw [Below.heap_setCell _ _ _ _ (fun e => h3.ne_row h1 (by decide) (by rw [hk, e]))]
      exact hg.block k (h3.block_lt k hk).2 (fun e => h5 k e hk)
  · exact h4.move fun k hk => by
      rw [Below.heap_setCell _ _ _ _ (fun e => h4.ne_row h1 (by decide) (by rw [hk, e]))]
      exact hg.block k (h4.block_lt k hk).2 (h4.ne_own h2 (by decide) k hk)
  · intro k hk hk2
    rcases hg.new k hk with h | h
    · exact h5 k h hk2
    · have := (h3.block_lt k hk2).2; omega
theorem lx_out (hf : x.fits s) (h1 : w.heap[xb]? = some (.cells (LxRow s x.i vw vo vt) 79 (0, 0))) (h2 : OwnG w xb 5 1 vw x.word.length (u8s x.word)) (h3 : OwnG w xb 5 1 vo x.op.length (u8s x.op)) (h4 : OwnG w xb 116 2 vt x.out.length (tokV x.out)) (h5 : ∀ k, vw.ownBlock = some k → vo.ownBlock ≠ some k)
    (hg : Grew w w1 vt v') (out' : List (Int × ByteArray)) (hl : out'.length ≤ 5001) (h6 : OwnG w1 xb 116 2 v' out'.length (tokV out')) : LxAt (w1.setCell ⟨xb, 4, none⟩ v') xb s { x with out := out' } ∧ Below xb w (w1.setCell ⟨xb, 4, none⟩ v') := by
  have hlt := lt_of_block h1
  have hr : w1.heap[xb]? = some (.cells (LxRow s x.i vw vo vt) 79 (0, 0)) := (hg.block xb hlt (h4.ne_row h1 (by decide))).trans h1
  have hb := hg.below xb (by omega) (fun k hk => (h4.block_lt k hk).1)
  refine ⟨⟨⟨hf.1, hf.2.1, hf.2.2.1, hl⟩, vw, vo, v', ?_, ?_, ?_, ?_, h5⟩, hb.setCell (p := ⟨xb, 4, none⟩) (Nat.le_refl _) _⟩
  · have := heap_setCell_same w1 xb 4 _ 79 v' hr
    simpa [LxRow] using this
  · exact h2.move fun k hk => by
      rw [Below.heap_setCell _ _ _ _ (fun e => h2.ne_row h1 (by decide) (by rw [hk, e]))]
      exact hg.block k (h2.block_lt k hk).2 (h2.ne_own h4 (by decide) k hk)
  · exact h3.move fun k hk => by
      rw [Below.heap_setCell _ _ _ _ (fun e => h3.ne_row h1 (by decide) (by rw [hk, e]))]
      exact hg.block k (h3.block_lt k hk).2 (h3.ne_own h4 (by decide) k hk)
  · exact h6.move fun k hk => Below.heap_setCell _ _ _ _ (fun e => h6.ne_row hr (by decide) (by rw [hk, e]))
theorem lx_i (hf : x.fits s) (h1 : w.heap[xb]? = some (.cells (LxRow s x.i vw vo vt) 79 (0, 0))) (h2 : OwnG w xb 5 1 vw x.word.length (u8s x.word)) (h3 : OwnG w xb 5 1 vo x.op.length (u8s x.op)) (h4 : OwnG w xb 116 2 vt x.out.length (tokV x.out)) (h5 : ∀ k, vw.ownBlock = some k → vo.ownBlock ≠ some k)
    (i' : Nat) (h6 : x.i ≤ i') (h7 : i' ≤ s.size) : LxAt (w.setCell ⟨xb, 1, none⟩ (.int .i64 i')) xb s { x with i := i' } ∧ Below xb w (w.setCell ⟨xb, 1, none⟩ (.int .i64 i')) := by
  refine ⟨⟨⟨Nat.le_trans hf.1 h6, h7, hf.2.2.1, hf.2.2.2⟩, vw, vo, vt, ?_, ?_, ?_, ?_, h5⟩, (Below.refl _ _).setCell (p := ⟨xb, 1, none⟩) (Nat.le_refl _) _⟩
  · have := heap_setCell_same w xb 1 _ 79 (.int .i64 i') h1
    simpa [LxRow] using this
  · exact h2.move fun k hk => Below.heap_setCell _ _ _ _ (fun e => h2.ne_row h1 (by decide) (by rw [hk, e]))
  · exact h3.move fun k hk => Below.heap_setCell _ _ _ _ (fun e => h3.ne_row h1 (by decide) (by rw [hk, e]))
  · exact h4.move fun k hk => Below.heap_setCell _ _ _ _ (fun e => h4.ne_row h1 (by decide) (by rw [hk, e]))
end

set_option maxRecDepth 100000 in
theorem push_any (xb : Nat) (s : ByteArray) (x : LxS) (c : UInt8) (w : World) (h : LxAt w xb s x) (hl : x.op.length ≤ 60) : Calls Tryz.prog 76 #[.pointer (some ⟨xb, 3, none⟩), .int .u8 c.toNat] w fun e w' => e = .returned (.tuple #[]) ∧ LxAt w' xb s { x with op := x.op ++ [c] } ∧ Below xb w w' := by
  obtain ⟨hf, vw, vo, vt, h1, h2, h3, h4, h5⟩ := h
  obtain ⟨Ao, co, rfl, _, _⟩ := h3.form
  obtain ⟨c0, c1, c2, c3, c4, f0, f1, f2, f3, f4⟩ := lx_row h1
  have hlt := lt_of_block h1
  obtain ⟨i5, hi, hz0, hz1, hz2⟩ := info_parts Tryz.info5
  have HF := Lib.hid hf
  have H1 := Lib.hid h1
  have H2 := Lib.hid h2
  have H3 := Lib.hid h3
  have H4 := Lib.hid h4
  have H5 := Lib.hid h5
  have HX := Lib.hid fun (w1 : World) (v' : Value) (hg : Grew w w1 (.slice Ao x.op.length co) v') (h6 : OwnG w1 xb 5 1 v' (x.op.length + 1) (u8s x.op ++ [.int .u8 c.toNat])) => lxs_op hf h1 h2 h3 h4 h5 hg (x.op ++ [c]) (by simp; omega) (by rw [u8s_app]; simpa [u8s] using h6)
  clear h1 h2 h3 h4 h5 hf
  go_enter Tryz.func76, Tryz.ntmps76
  go_wp2_with (at_builtin; refine wpList_append_G _ rfl _ _ 75 rfl xb 5 i5 (.int .u8 0) 1 1 Tryz.underlying75 hi hz0 hz1 hz2 rfl (.slice Ao x.op.length co) x.op.length (u8s x.op) rfl (H3.out.below ((Below.refl _ _).alloc (Nat.le_refl _) _)) ⟨_, 0, none⟩ 1 1 [.int .u8 c.toNat] rfl rfl (cell_one_new _ _ _) (by simp [Value.oneCell']) (by decide) (by unfold maxLen; omega) (by omega) (by simp; omega) ?_; intro g cap w1 hown hgrow hnew hglt; have HG := Lib.hid (Grew.of (n := x.op.length + 1) (cap := cap) hgrow hnew); have hc3 := (HG.out.block xb hlt (H3.out.ne_row H1.out (by decide))).trans H1.out; have hk3 := (lx_row hc3).2.2.2.1; have hf3 := frozen_of_row w1 _ 3 _ _ hc3; have HO := Lib.hid hown; clear hown hgrow hnew hc3)
  first | go_end0 | refine bodyPost_ret (results_none rfl _ _ _) rfl ?_
  exact ⟨rfl, (HX.out w1 _ HG.out HO.out).1, (HX.out w1 _ HG.out HO.out).2⟩

theorem Grew.same {w : World} {A : Option Addr} {n c n' c' : Nat} : Grew w w (.slice A n c) (.slice A n' c') := by
  refine ⟨fun xb _ _ => Below.refl _ _, fun _ _ _ => rfl, fun k hk => .inl ?_⟩
  cases A with
  | none => simp [Value.ownBlock] at hk
  | some a => simpa [Value.ownBlock] using hk

set_option maxRecDepth 100000 in
theorem pop_any (xb : Nat) (s : ByteArray) (x : LxS) (o : List UInt8) (c : UInt8) (w : World) (h : LxAt w xb s x) (ho : x.op = o ++ [c]) : Calls Tryz.prog 77 #[.pointer (some ⟨xb, 3, none⟩)] w fun e w' => e = .returned (.tuple #[]) ∧ LxAt w' xb s { x with op := o } ∧ Below xb w w' := by
  obtain ⟨hf, vw, vo, vt, h1, h2, h3, h4, h5⟩ := h
  obtain ⟨Ao, co, rfl, hc1, hc2⟩ := h3.form
  obtain ⟨c0, c1, c2, c3, c4, f0, f1, f2, f3, f4⟩ := lx_row h1
  have hlt := lt_of_block h1
  have hl : x.op.length = o.length + 1 := by rw [ho]; simp
  have hf61 := hf.2.2.1
  obtain ⟨n, hn⟩ : ∃ n, x.op.length = n := ⟨_, rfl⟩
  have wl : IntKind.i64.wrap ((n : Int) - 1) = ((n - 1 : Nat) : Int) := by
    rw [IntWalk.i64_in _ (by omega)]; omega
  have hn1 : 1 ≤ n := by omega
  have hown : OwnG w xb 5 1 (.slice Ao (n - 1) co) o.length (u8s o) := by
    have := h3.take (n - 1) co (by omega) (by omega) (Nat.le_refl _)
    have e : (u8s x.op).take ((n - 1) * 1) = u8s o := by
      rw [ho, u8s_app, Nat.mul_one, show n - 1 = (u8s o).length by simp [u8s]; omega, List.take_left]
    rw [e] at this
    rw [show o.length = n - 1 by omega]
    exact this
  have HX := Lib.hid (lxs_op hf h1 h2 h3 h4 h5 (Grew.same (n' := n - 1) (c' := co)) o (by omega) hown)
  rw [hn] at c3 hc1
  clear h1 h2 h3 h4 h5 hf hown hl ho hn
  go_enter Tryz.func77, Tryz.ntmps77
  go_wp2
  go_region
  all_goals
    first | go_end0 | refine bodyPost_ret (results_none rfl _ _ _) rfl ?_
    exact ⟨rfl, HX.out.1.drewN _, below_drewN HX.out.2 _⟩
end Go.Proofs.YtioddclglemlmaaGreatDoor
