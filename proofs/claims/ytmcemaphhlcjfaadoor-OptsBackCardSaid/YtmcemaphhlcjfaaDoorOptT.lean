/- Setting an option, its number of jobs, its files; conditions: lists and texts that lie in memory. -/
import Derived.Test.YtmcemaphhlcjfaaDoorOptS
namespace Go.Proofs.YtmcemaphhlcjfaaDoor
open Go.RowKit

theorem rowo {W : World} {b : Nat} {cs : Array Value} {t : TypeId} {j : Nat} {v : Value} (h : W.heap[b]? = some (.cells cs t (0, 0))) (hj : cs[j]? = some v) : W.cell? ⟨b, j, none⟩ = some v ∧ W.frozen? ⟨b, j, none⟩ = false :=
  ⟨by rw [cell_of_row W b j cs t (0, 0) h]; exact hj, frozen_of_row W _ _ _ _ h⟩
theorem op_put {W : World} {ob : Nat} {S : Nat → Prop} {x x' : Opx} (h : OpAt W ob S x) (j : Nat) (u : Value) (hr : ∀ vf vg vv, (opRow x.j x.bs x.nv vf vg vv).setIfInBounds j u = opRow x'.j x'.bs x'.nv vf vg vv) (e1 : x'.fs = x.fs) (e2 : x'.gs = x.gs) (e3 : x'.vs = x.vs) :
    OpAt (W.setCell ⟨ob, j, none⟩ u) ob S x' ∧ Nx W S (W.setCell ⟨ob, j, none⟩ u) S := by
  obtain ⟨vf, vg, vv, h1, h2, h3, h4, h5, h6, h7, hS, r⟩ := h
  have mv : ∀ {v : Value} {n : Nat} {xs : List Value}, OwnG W 0 9 1 v n xs → OwnG (W.setCell ⟨ob, j, none⟩ u) 0 9 1 v n xs := fun h => h.move fun k hk => Below.heap_setCell _ _ _ _ (fun e => own_ne h h1 (by decide) (by rw [hk, e]))
  refine ⟨⟨vf, vg, vv, ?_, by rw [e1]; exact mv h2, by rw [e2]; exact mv h3, by rw [e3]; exact mv h4, h5, h6, h7, hS, r⟩, ?_⟩
  · have := heap_setCell_same W ob j _ 47 u h1
    rw [hr] at this
    exact this
  · exact ⟨rfl, rfl, rfl, by simp [World.setCell], fun k _ hn => Below.heap_setCell _ _ _ _ (fun e => hn (by rw [e]; exact hS)), fun _ h => .inl h⟩
def upd (bs : Nat → Bool) (n : Nat) : Nat → Bool := fun m => m == n || bs m
theorem upd_row (j : Int) (bs : Nat → Bool) (nv : Bool) (vf vg vv : Value) (n : Nat) (h1 : 1 ≤ n) (h9 : n ≤ 9) : (opRow j bs nv vf vg vv).setIfInBounds n (.bool true) = opRow j (upd bs n) nv vf vg vv := by
  have : n = 1 ∨ n = 2 ∨ n = 3 ∨ n = 4 ∨ n = 5 ∨ n = 6 ∨ n = 7 ∨ n = 8 ∨ n = 9 := by omega
  rcases this with rfl | rfl | rfl | rfl | rfl | rfl | rfl | rfl | rfl <;> simp [opRow, upd]
theorem op_cells {W : World} {ob : Nat} {S : Nat → Prop} {x : Opx} (h : OpAt W ob S x) : W.cell? ⟨ob, 0, none⟩ = some (.int .i64 x.j) ∧ (∀ n, 1 ≤ n → n ≤ 9 → W.cell? ⟨ob, n, none⟩ = some (.bool (x.bs n))) ∧ ∀ j, W.frozen? ⟨ob, j, none⟩ = false := by
  obtain ⟨vf, vg, vv, h1, _⟩ := h
  refine ⟨(rowo h1 (j := 0) rfl).1, fun n a b => ?_, fun j => frozen_of_row W _ _ _ _ h1⟩
  have : n = 1 ∨ n = 2 ∨ n = 3 ∨ n = 4 ∨ n = 5 ∨ n = 6 ∨ n = 7 ∨ n = 8 ∨ n = 9 := by omega
  rcases this with rfl | rfl | rfl | rfl | rfl | rfl | rfl | rfl | rfl <;> exact (rowo h1 rfl).1
theorem pl_le (c : UInt8) : plN c ≤ 9 := by rcases pl_cases c with h | h | h | h | h | h | h | h | h | h <;> omega

set_option maxRecDepth 100000 in
set_option maxHeartbeats 1000000 in
theorem set_any (ob : Nat) (S : Nat → Prop) (x : Opx) (c : UInt8) (w : World) (h : OpAt w ob S x) :
    Calls Tryd.prog 106 #[.pointer (some ⟨ob, 0, none⟩), .int .u8 c.toNat] w fun e w' => e = .returned (.bool (decide (plN c ≠ 0))) ∧ OpAt w' ob S (if plN c ≠ 0 then { x with bs := upd x.bs (plN c) } else x) ∧ Nx w S w' S := by
  have HP := Lib.hid (place_any ob c w)
  have hle := pl_le c
  obtain ⟨n, hn⟩ : ∃ n, plN c = n := ⟨_, rfl⟩
  rw [hn] at HP hle ⊢
  clear hn
  obtain ⟨_, hb, hf⟩ := op_cells h
  by_cases h0 : n = 0
  · subst h0
    have HX := Lib.hid h
    rw [if_neg (by decide)]
    clear h hb hf
    unfold plV at HP
    rw [if_pos rfl] at HP
    go_enter Tryd.func106, Tryd.ntmps106
    go_wp2_with fail
    refine HP.out.mono ?_
    rintro e w1 ⟨rfl, hw1⟩
    obtain rfl := hw1.symm
    go_wp2
    go_ret
    exact ⟨rfl, HX.out, Nx.refl _ _⟩
  · have HX := Lib.hid (op_put (x' := { x with bs := upd x.bs n }) h n (.bool true) (fun vf vg vv => upd_row _ _ _ _ _ _ n (by omega) hle) rfl rfl rfl)
    have hc := hb n (by omega) hle
    have hfn := hf n
    rw [if_pos h0, decide_eq_true h0]
    clear h hb hf
    unfold plV at HP
    rw [if_neg h0] at HP
    go_enter Tryd.func106, Tryd.ntmps106
    go_wp2_with fail
    refine HP.out.mono ?_
    rintro e w1 ⟨rfl, hw1⟩
    obtain rfl := hw1.symm
    go_wp2
    go_ret
    exact ⟨rfl, HX.out.1, HX.out.2⟩

/-- the number that a text of jobs tells -/
def jobsP (v : ByteArray) : Option Int := match numB v with
  | none => none
  | some n => if n < 1 ∨ 16 < n then none else some n
def JbA (ob : Nat) (S : Nat → Prop) (x : Opx) (w : World) (r : Option Opx) (e : Ending) (W' : World) : Prop := match r with
  | none => e = .returned (.bool false) ∧ ∃ S' x', OpAt W' ob S' x' ∧ Nx w S W' S'
  | some x' => e = .returned (.bool true) ∧ ∃ S', OpAt W' ob S' x' ∧ Nx w S W' S'
set_option maxRecDepth 100000 in
set_option maxHeartbeats 1000000 in
theorem jobs_any (ob : Nat) (S : Nat → Prop) (x : Opx) (v : ByteArray) (w : World) (h : OpAt w ob S x) (hv : v.size ≤ 140737488351232) :
    Calls Tryd.prog 107 #[.pointer (some ⟨ob, 0, none⟩), .string v] w fun e w' => JbA ob S x w ((jobsP v).map fun n => { x with j := n }) e w' := by
  have HN := Lib.hid (Number_any v w hv)
  unfold jobsP
  cases hq : numB v with
  | none =>
    rw [hq] at HN
    unfold numV at HN
    have HX := Lib.hid h
    clear h hq
    go_enter Tryd.func107, Tryd.ntmps107
    go_wp2_with fail
    refine HN.out.mono ?_
    rintro e w1 ⟨rfl, hw1⟩
    obtain rfl := hw1.symm
    go_wp2
    go_ret
    exact ⟨rfl, S, x, HX.out, Nx.refl _ _⟩
  | some n =>
    rw [hq] at HN
    unfold numV at HN
    by_cases h1 : n < 1
    · have HX := Lib.hid h
      simp only [if_pos (show n < 1 ∨ 16 < n from .inl h1), Option.map_none]
      clear h hq
      go_enter Tryd.func107, Tryd.ntmps107
      go_wp2_with fail
      refine HN.out.mono ?_
      rintro e w1 ⟨rfl, hw1⟩
      obtain rfl := hw1.symm
      go_wp2
      go_ret
      exact ⟨rfl, S, x, HX.out, Nx.refl _ _⟩
    · by_cases h2 : 16 < n
      · have HX := Lib.hid h
        simp only [if_pos (show n < 1 ∨ 16 < n from .inr h2), Option.map_none]
        clear h hq
        go_enter Tryd.func107, Tryd.ntmps107
        go_wp2_with fail
        refine HN.out.mono ?_
        rintro e w1 ⟨rfl, hw1⟩
        obtain rfl := hw1.symm
        go_wp2
        go_ret
        exact ⟨rfl, S, x, HX.out, Nx.refl _ _⟩
      · have HX := Lib.hid (op_put (x' := { x with j := n }) h 0 (.int .i64 n) (fun vf vg vv => by simp [opRow]) rfl rfl rfl)
        obtain ⟨hc, _, hf⟩ := op_cells h
        have hf0 := hf 0
        simp only [if_neg (show ¬ (n < 1 ∨ 16 < n) by omega), Option.map_some]
        clear h hq hf
        go_enter Tryd.func107, Tryd.ntmps107
        go_wp2_with fail
        refine HN.out.mono ?_
        rintro e w1 ⟨rfl, hw1⟩
        obtain rfl := hw1.symm
        go_wp2
        go_ret
        exact ⟨rfl, S, HX.out.1, HX.out.2⟩
/-- one of the lists was appended to -/
structure GrX (w w1 : World) (v v' : Value) : Prop where
  os : w1.os = w.os
  tape : w1.tape = w.tape
  output : w1.output = w.output
  size : w.heap.size ≤ w1.heap.size
  block : ∀ k, k < w.heap.size → v.ownBlock ≠ some k → w1.heap[k]? = w.heap[k]?
  new : ∀ k, v'.ownBlock = some k → v.ownBlock = some k ∨ w.heap.size ≤ k
theorem GrX.of {w w1 : World} {o : Obj} {v : Value} {g n cap : Nat} (hg : (w.alloc o).grownBy w1 v.ownBlock) (h : v.ownBlock = some g ∨ g = (w.alloc o).heap.size) : GrX w w1 v (.slice (some ⟨g, 0, none⟩) n cap) := by
  refine ⟨hg.os, hg.tape, hg.output, by have := hg.size; simp at this; omega, fun k hk hn => ?_, fun k hk => ?_⟩
  · rw [hg.block k (by simp; omega) (fun e => hn e.symm), Below.heap_alloc _ _ _ hk]
  · obtain rfl : g = k := by simpa [Value.ownBlock] using hk
    rcases h with h | h
    · exact .inl h
    · right; simp at h; omega
theorem op_fs {w w1 : World} {ob : Nat} {S : Nat → Prop} {x : Opx} {vf vg vv v' : Value} (h1 : w.heap[ob]? = some (.cells (opRow x.j x.bs x.nv vf vg vv) 47 (0, 0))) (h2 : OwnG w 0 9 1 vf x.fs.length (strV x.fs)) (h3 : OwnG w 0 9 1 vg x.gs.length (strV x.gs)) (h4 : OwnG w 0 9 1 vv x.vs.length (strV x.vs))
    (h5 : Dj vf vg) (h6 : Dj vf vv) (h7 : Dj vg vv) (hS : S ob) (r1 : ∀ k, vf.ownBlock = some k → S k) (r2 : ∀ k, vg.ownBlock = some k → S k) (r3 : ∀ k, vv.ownBlock = some k → S k) (t : ByteArray) (hg : GrX w w1 vf v') (h8 : OwnG w1 0 9 1 v' (x.fs.length + 1) (strV x.fs ++ [.string t])) :
    ∃ S', OpAt (w1.setCell ⟨ob, 11, none⟩ v') ob S' { x with fs := x.fs ++ [t] } ∧ Nx w S (w1.setCell ⟨ob, 11, none⟩ v') S' := by
  have hlt := lt_of_block h1
  have hr : w1.heap[ob]? = some (.cells (opRow x.j x.bs x.nv vf vg vv) 47 (0, 0)) := (hg.block ob hlt (own_ne h2 h1 (by decide))).trans h1
  have st : ∀ {v : Value} {n : Nat} {xs : List Value}, OwnG w1 0 9 1 v n xs → OwnG (w1.setCell ⟨ob, 11, none⟩ v') 0 9 1 v n xs := fun h => h.move fun k hk => Below.heap_setCell _ _ _ _ (fun e => own_ne h hr (by decide) (by rw [hk, e]))
  have mv : ∀ {v : Value} {n : Nat} {xs : List Value}, OwnG w 0 9 1 v n xs → (∀ k, v.ownBlock = some k → vf.ownBlock ≠ some k) → OwnG (w1.setCell ⟨ob, 11, none⟩ v') 0 9 1 v n xs := fun h hd => st (h.move fun k hk => hg.block k (h.block_lt k hk).2 (hd k hk))
  have h9 : OwnG (w1.setCell ⟨ob, 11, none⟩ v') 0 9 1 v' (x.fs ++ [t]).length (strV (x.fs ++ [t])) := by
    have e1 : (x.fs ++ [t]).length = x.fs.length + 1 := by simp
    have e2 : strV (x.fs ++ [t]) = strV x.fs ++ [.string t] := by simp [strV]
    rw [e1, e2]; exact st h8
  refine ⟨fun k => S k ∨ (w.heap.size ≤ k ∧ v'.ownBlock = some k), ⟨v', vg, vv, ?_, h9, mv h3 (fun k hk e => h5 k e hk), mv h4 (fun k hk e => h6 k e hk), (fun k hk e => (hg.new k hk).elim (fun q => h5 k q e) (fun q => by have := (h3.block_lt k e).2; omega)), (fun k hk e => (hg.new k hk).elim (fun q => h6 k q e) (fun q => by have := (h4.block_lt k e).2; omega)), h7, .inl hS, ?_, ?_, ?_⟩, ?_⟩
  · have := heap_setCell_same w1 ob 11 _ 47 v' hr
    simpa [opRow] using this
  · intro k hk
    rcases hg.new k hk with q | q
    · exact .inl (r1 k q)
    · exact .inr ⟨q, hk⟩
  · exact fun k hk => .inl (r2 k hk)
  · exact fun k hk => .inl (r3 k hk)
  · refine ⟨hg.os, hg.tape, hg.output, by have := hg.size; simpa [World.setCell] using this, fun k hk hn => ?_, fun k hk => ?_⟩
    · rw [Below.heap_setCell _ _ _ _ (fun e => hn (by rw [e]; exact hS))]
      exact hg.block k hk (fun e => hn (r1 k e))
    · rcases hk with q | q
      · exact .inl q
      · exact .inr q.1
theorem op_gs {w w1 : World} {ob : Nat} {S : Nat → Prop} {x : Opx} {vf vg vv v' : Value} (h1 : w.heap[ob]? = some (.cells (opRow x.j x.bs x.nv vf vg vv) 47 (0, 0))) (h2 : OwnG w 0 9 1 vf x.fs.length (strV x.fs)) (h3 : OwnG w 0 9 1 vg x.gs.length (strV x.gs)) (h4 : OwnG w 0 9 1 vv x.vs.length (strV x.vs))
    (h5 : Dj vf vg) (h6 : Dj vf vv) (h7 : Dj vg vv) (hS : S ob) (r1 : ∀ k, vf.ownBlock = some k → S k) (r2 : ∀ k, vg.ownBlock = some k → S k) (r3 : ∀ k, vv.ownBlock = some k → S k) (t : ByteArray) (hg : GrX w w1 vg v') (h8 : OwnG w1 0 9 1 v' (x.gs.length + 1) (strV x.gs ++ [.string t])) :
    ∃ S', OpAt (w1.setCell ⟨ob, 12, none⟩ v') ob S' { x with gs := x.gs ++ [t] } ∧ Nx w S (w1.setCell ⟨ob, 12, none⟩ v') S' := by
  have hlt := lt_of_block h1
  have hr : w1.heap[ob]? = some (.cells (opRow x.j x.bs x.nv vf vg vv) 47 (0, 0)) := (hg.block ob hlt (own_ne h3 h1 (by decide))).trans h1
  have st : ∀ {v : Value} {n : Nat} {xs : List Value}, OwnG w1 0 9 1 v n xs → OwnG (w1.setCell ⟨ob, 12, none⟩ v') 0 9 1 v n xs := fun h => h.move fun k hk => Below.heap_setCell _ _ _ _ (fun e => own_ne h hr (by decide) (by rw [hk, e]))
  have mv : ∀ {v : Value} {n : Nat} {xs : List Value}, OwnG w 0 9 1 v n xs → (∀ k, v.ownBlock = some k → vg.ownBlock ≠ some k) → OwnG (w1.setCell ⟨ob, 12, none⟩ v') 0 9 1 v n xs := fun h hd => st (h.move fun k hk => hg.block k (h.block_lt k hk).2 (hd k hk))
  have h9 : OwnG (w1.setCell ⟨ob, 12, none⟩ v') 0 9 1 v' (x.gs ++ [t]).length (strV (x.gs ++ [t])) := by
    have e1 : (x.gs ++ [t]).length = x.gs.length + 1 := by simp
    have e2 : strV (x.gs ++ [t]) = strV x.gs ++ [.string t] := by simp [strV]
    rw [e1, e2]; exact st h8
  refine ⟨fun k => S k ∨ (w.heap.size ≤ k ∧ v'.ownBlock = some k), ⟨vf, v', vv, ?_, mv h2 (fun k hk e => h5 k hk e), h9, mv h4 (fun k hk e => h7 k e hk), (fun k hk e => (hg.new k e).elim (fun q => h5 k hk q) (fun q => by have := (h2.block_lt k hk).2; omega)), h6, (fun k hk e => (hg.new k hk).elim (fun q => h7 k q e) (fun q => by have := (h4.block_lt k e).2; omega)), .inl hS, ?_, ?_, ?_⟩, ?_⟩
  · have := heap_setCell_same w1 ob 12 _ 47 v' hr
    simpa [opRow] using this
  · exact fun k hk => .inl (r1 k hk)
  · intro k hk
    rcases hg.new k hk with q | q
    · exact .inl (r2 k q)
    · exact .inr ⟨q, hk⟩
  · exact fun k hk => .inl (r3 k hk)
  · refine ⟨hg.os, hg.tape, hg.output, by have := hg.size; simpa [World.setCell] using this, fun k hk hn => ?_, fun k hk => ?_⟩
    · rw [Below.heap_setCell _ _ _ _ (fun e => hn (by rw [e]; exact hS))]
      exact hg.block k hk (fun e => hn (r2 k e))
    · rcases hk with q | q
      · exact .inl q
      · exact .inr q.1
theorem op_vs {w w1 : World} {ob : Nat} {S : Nat → Prop} {x : Opx} {vf vg vv v' : Value} (h1 : w.heap[ob]? = some (.cells (opRow x.j x.bs x.nv vf vg vv) 47 (0, 0))) (h2 : OwnG w 0 9 1 vf x.fs.length (strV x.fs)) (h3 : OwnG w 0 9 1 vg x.gs.length (strV x.gs)) (h4 : OwnG w 0 9 1 vv x.vs.length (strV x.vs))
    (h5 : Dj vf vg) (h6 : Dj vf vv) (h7 : Dj vg vv) (hS : S ob) (r1 : ∀ k, vf.ownBlock = some k → S k) (r2 : ∀ k, vg.ownBlock = some k → S k) (r3 : ∀ k, vv.ownBlock = some k → S k) (t : ByteArray) (hg : GrX w w1 vv v') (h8 : OwnG w1 0 9 1 v' (x.vs.length + 1) (strV x.vs ++ [.string t])) :
    ∃ S', OpAt (w1.setCell ⟨ob, 13, none⟩ v') ob S' { x with vs := x.vs ++ [t] } ∧ Nx w S (w1.setCell ⟨ob, 13, none⟩ v') S' := by
  have hlt := lt_of_block h1
  have hr : w1.heap[ob]? = some (.cells (opRow x.j x.bs x.nv vf vg vv) 47 (0, 0)) := (hg.block ob hlt (own_ne h4 h1 (by decide))).trans h1
  have st : ∀ {v : Value} {n : Nat} {xs : List Value}, OwnG w1 0 9 1 v n xs → OwnG (w1.setCell ⟨ob, 13, none⟩ v') 0 9 1 v n xs := fun h => h.move fun k hk => Below.heap_setCell _ _ _ _ (fun e => own_ne h hr (by decide) (by rw [hk, e]))
  have mv : ∀ {v : Value} {n : Nat} {xs : List Value}, OwnG w 0 9 1 v n xs → (∀ k, v.ownBlock = some k → vv.ownBlock ≠ some k) → OwnG (w1.setCell ⟨ob, 13, none⟩ v') 0 9 1 v n xs := fun h hd => st (h.move fun k hk => hg.block k (h.block_lt k hk).2 (hd k hk))
  have h9 : OwnG (w1.setCell ⟨ob, 13, none⟩ v') 0 9 1 v' (x.vs ++ [t]).length (strV (x.vs ++ [t])) := by
    have e1 : (x.vs ++ [t]).length = x.vs.length + 1 := by simp
    have e2 : strV (x.vs ++ [t]) = strV x.vs ++ [.string t] := by simp [strV]
    rw [e1, e2]; exact st h8
  refine ⟨fun k => S k ∨ (w.heap.size ≤ k ∧ v'.ownBlock = some k), ⟨vf, vg, v', ?_, mv h2 (fun k hk e => h6 k hk e), mv h3 (fun k hk e => h7 k hk e), h9, h5, (fun k hk e => (hg.new k e).elim (fun q => h6 k hk q) (fun q => by have := (h2.block_lt k hk).2; omega)), (fun k hk e => (hg.new k e).elim (fun q => h7 k hk q) (fun q => by have := (h3.block_lt k hk).2; omega)), .inl hS, ?_, ?_, ?_⟩, ?_⟩
  · have := heap_setCell_same w1 ob 13 _ 47 v' hr
    simpa [opRow] using this
  · exact fun k hk => .inl (r1 k hk)
  · exact fun k hk => .inl (r2 k hk)
  · intro k hk
    rcases hg.new k hk with q | q
    · exact .inl (r3 k q)
    · exact .inr ⟨q, hk⟩
  · refine ⟨hg.os, hg.tape, hg.output, by have := hg.size; simpa [World.setCell] using this, fun k hk hn => ?_, fun k hk => ?_⟩
    · rw [Below.heap_setCell _ _ _ _ (fun e => hn (by rw [e]; exact hS))]
      exact hg.block k hk (fun e => hn (r3 k e))
    · rcases hk with q | q
      · exact .inl q
      · exact .inr q.1

set_option maxRecDepth 100000 in
set_option maxHeartbeats 1000000 in
theorem file_any (ob : Nat) (S : Nat → Prop) (x : Opx) (v : ByteArray) (w : World) (h : OpAt w ob S x) (hl : x.fs.length ≤ 1000000) :
    Calls Tryd.prog 108 #[.pointer (some ⟨ob, 0, none⟩), .string v] w fun e w' => JbA ob S x w (some { x with fs := x.fs ++ [v] }) e w' := by
  obtain ⟨vf, vg, vv, h1, h2, h3, h4, h5, h6, h7, hS, r1, r2, r3⟩ := h
  obtain ⟨Af, cf, rfl, _, _⟩ := h2.form
  have kc := (rowo h1 (j := 11) (v := .slice Af x.fs.length cf) rfl)
  obtain ⟨c11, f11⟩ := kc
  have hlt := lt_of_block h1
  obtain ⟨i0, hi, hz0, hz1, hz2⟩ := info_parts Tryd.info9
  have H1 := Lib.hid h1
  have H2 := Lib.hid h2
  have HX := Lib.hid fun (w1 : World) (v' : Value) (hg : GrX w w1 (.slice Af x.fs.length cf) v') (h8 : OwnG w1 0 9 1 v' (x.fs.length + 1) (strV x.fs ++ [.string v])) => op_fs h1 h2 h3 h4 h5 h6 h7 hS r1 r2 r3 v hg h8
  clear h1 h2 h3 h4 h5 h6 h7 r1 r2 r3 hS
  go_enter Tryd.func108, Tryd.ntmps108
  go_wp2_with (at_builtin; refine wpList_append_G _ rfl _ _ 27 rfl 0 9 i0 (.string ⟨#[]⟩) 1 16 Tryd.underlying27 hi hz0 hz1 hz2 rfl (.slice Af x.fs.length cf) x.fs.length (strV x.fs) rfl (H2.out.below ((Below.refl _ _).alloc (Nat.le_refl _) _)) ⟨_, 0, none⟩ 1 1 [.string v] rfl rfl (cell_one_new _ _ _) (by simp [Value.oneCell']) (by decide) (by unfold maxLen; omega) (by omega) (Nat.zero_le _) ?_; intro g cap w1 hown hgrow hnew hglt; have HG := Lib.hid (GrX.of (n := x.fs.length + 1) (cap := cap) hgrow hnew); have hc3 := (HG.out.block ob hlt (own_ne H2.out H1.out (by decide))).trans H1.out; have hk3 := (rowo hc3 (j := 11) (v := .slice Af x.fs.length cf) rfl).1; have hf3 := frozen_of_row w1 _ 11 _ _ hc3; have HO := Lib.hid hown; clear hown hgrow hnew hc3)
  go_ret
  exact ⟨rfl, HX.out w1 _ HG.out HO.out⟩
end Go.Proofs.YtmcemaphhlcjfaaDoor
