/- A command that is being built: its variable, its lists, whose blocks are all apart; no condition. -/
import Derived.Test.YtioddclglemlmaaGreatDoorGramR
import Derived.Deep.MidRow
namespace Go.Proofs.YtioddclglemlmaaGreatDoor
open Go.RowKit

def cty : Nat → TypeId
  | 2 => 9
  | 3 => 9
  | 4 => 52
  | 5 => 28
  | _ => 37
def csz : Nat → Nat
  | 2 => 1
  | 3 => 1
  | 4 => 2
  | 5 => 7
  | _ => 8
def up {α : Type} (V : Nat → α) (f : Nat) (v : α) : Nat → α := fun k => if k = f then v else V k
theorem up_same {α : Type} (V : Nat → α) (f : Nat) (v : α) : up V f v f = v := if_pos rfl
theorem up_ne {α : Type} (V : Nat → α) {f k : Nat} (v : α) (h : k ≠ f) : up V f v k = V k := if_neg h
def CRow (kind : Int) (no : Bool) (V : Nat → Value) : Array Value := #[.int .i64 kind, .bool no, V 2, V 3, V 4, V 5, V 6]
/-- the variable at cb, the result's at rb; col: which block is whose (0: trees that are done) -/
structure Bld (W : World) (rb cb base : Nat) (kind : Int) (no : Bool) (V : Nat → Value) (N : Nat → Nat) (X : Nat → List Value) (col : Nat → Nat) (fz : Nat → Bool) : Prop where
  row : W.heap[cb]? = some (.cells (CRow kind no V) 28 (0, 0))
  rrow : ∃ z0 z1 z2 z3 z4 z5 z6, W.heap[rb]? = some (.cells #[z0, z1, z2, z3, z4, z5, z6] 28 (0, 0))
  own : ∀ f, 2 ≤ f → f ≤ 6 → OwnG W base (cty f) (csz f) (V f) (N f) (X f)
  cl : ∀ f, 2 ≤ f → f ≤ 6 → ∀ k, (V f).ownBlock = some k → col k = f ∨ (col k = 0 ∧ fz f = true)
  c1 : col cb = 1
  c8 : col rb = 8
  hc : base ≤ cb
  hr : base ≤ rb
  zero : ∀ k, col k = 0 → base ≤ k ∧ k < W.heap.size
  r0 : X 4 = [] → V 4 = .slice none 0 0
def colN (col : Nat → Nat) (f : Nat) (v' : Value) (a b : Nat) : Nat → Nat := fun k => if v'.ownBlock = some k then f else if k < a then col k else if k < b then 0 else 7
section
variable {w w2 w3 W W' : World} {rb cb base : Nat} {kind : Int} {no : Bool} {V : Nat → Value} {N : Nat → Nat} {X : Nat → List Value} {col : Nat → Nat} {fz : Nat → Bool}
theorem Bld.cells (h : Bld W rb cb base kind no V N X col fz) : W.cell? ⟨cb, 0, none⟩ = some (.int .i64 kind) ∧ W.cell? ⟨cb, 1, none⟩ = some (.bool no) ∧ W.cell? ⟨cb, 2, none⟩ = some (V 2) ∧ W.cell? ⟨cb, 3, none⟩ = some (V 3) ∧ W.cell? ⟨cb, 4, none⟩ = some (V 4) ∧ W.cell? ⟨cb, 5, none⟩ = some (V 5) ∧ W.cell? ⟨cb, 6, none⟩ = some (V 6) :=
  ⟨(rowc h.row (j := 0) rfl).1, (rowc h.row (j := 1) rfl).1, (rowc h.row (j := 2) rfl).1, (rowc h.row (j := 3) rfl).1, (rowc h.row (j := 4) rfl).1, (rowc h.row (j := 5) rfl).1, (rowc h.row (j := 6) rfl).1⟩
theorem Bld.free (h : Bld W rb cb base kind no V N X col fz) (j : Nat) : W.frozen? ⟨cb, j, none⟩ = false := frozen_of_row W _ _ _ _ h.row
theorem Bld.keep {T : Nat → Prop} (h : Bld W rb cb base kind no V N X col fz) (hk : Kept T W W') (hT : ∀ k, T k → k < base) : Bld W' rb cb base kind no V N X col fz := by
  have hb : ∀ k, base ≤ k → k < W.heap.size → W'.heap[k]? = W.heap[k]? := fun k h1 h2 => hk.block k h2 fun e => by have := hT k e; omega
  obtain ⟨z0, z1, z2, z3, z4, z5, z6, hr⟩ := h.rrow
  exact ⟨(hb _ h.hc (lt_of_block h.row)).trans h.row, ⟨z0, z1, z2, z3, z4, z5, z6, (hb _ h.hr (lt_of_block hr)).trans hr⟩, fun f h2 h6 => (h.own f h2 h6).move fun k hk => hb k ((h.own f h2 h6).block_lt k hk).1 ((h.own f h2 h6).block_lt k hk).2, h.cl, h.c1, h.c8, h.hc, h.hr, fun k hk' => ⟨(h.zero k hk').1, Nat.lt_of_lt_of_le (h.zero k hk').2 hk.size⟩, h.r0⟩
/-- behind an append the variable is as it was -/
theorem Bld.rowg {T : Nat → Prop} {o : Obj} {f : Nat} (h : Bld w rb cb base kind no V N X col fz) (h2 : 2 ≤ f) (h6 : f ≤ 6) (hz : fz f = false) (hk : Kept T w w2) (hT : ∀ k, T k → k < base) (hg : (w2.alloc o).grownBy w3 (V f).ownBlock) : w3.heap[cb]? = some (.cells (CRow kind no V) 28 (0, 0)) := by
  have hbw := h.keep hk hT
  have hne : (V f).ownBlock ≠ some cb := fun e => by
    have := (h.cl f h2 h6 cb e).elim id fun e => by rw [hz] at e; cases e.2
    rw [h.c1] at this; omega
  have hcb := lt_of_block hbw.row
  exact ((hg.block cb (by simp; omega) (fun e => hne e.symm)).trans (Below.heap_alloc _ _ _ hcb)).trans hbw.row
theorem CRow_set (kind : Int) (no : Bool) (V : Nat → Value) (f : Nat) (v : Value) (h2 : 2 ≤ f) (h6 : f ≤ 6) : (CRow kind no V).setIfInBounds f v = CRow kind no (up V f v) := by
  obtain rfl | rfl | rfl | rfl | rfl : f = 2 ∨ f = 3 ∨ f = 4 ∨ f = 5 ∨ f = 6 := by omega
  all_goals rfl
/-- something is put to one of the lists -/
theorem Bld.push {T : Nat → Prop} {o : Obj} {f n' : Nat} {v' : Value} {xs' : List Value} (h : Bld w rb cb base kind no V N X col fz) (h2 : 2 ≤ f) (h6 : f ≤ 6) (hz : fz f = false) (hk : Kept T w w2) (hT : ∀ k, T k → k < base)
    (hg : (w2.alloc o).grownBy w3 (V f).ownBlock) (ho : OwnG w3 base (cty f) (csz f) v' n' xs') (hn : ∀ k, v'.ownBlock = some k → (V f).ownBlock = some k ∨ k = (w2.alloc o).heap.size)
    (hne : f = 4 → xs' ≠ [] := by first | (intro h; exact absurd h (by decide)) | (intro _; simp)) :
    Bld (w3.setCell ⟨cb, f, none⟩ v') rb cb base kind no (up V f v') (up N f n') (up X f xs') (colN col f v' w.heap.size w2.heap.size) fz ∧
    Kept (fun k => T k ∨ k = cb ∨ (V f).ownBlock = some k) w (w3.setCell ⟨cb, f, none⟩ v') ∧
    (∀ k, col k = 0 ∨ (w.heap.size ≤ k ∧ k < w2.heap.size) → colN col f v' w.heap.size w2.heap.size k = 0 ∧ ((w3.setCell ⟨cb, f, none⟩ v').heap[k]? = w2.heap[k]?)) := by
  have hbw := h.keep hk hT
  have hcl : ∀ k, (V f).ownBlock = some k → col k = f := fun k hk => (h.cl f h2 h6 k hk).elim id fun e => by rw [hz] at e; cases e.2
  have hlt : ∀ k, (V f).ownBlock = some k → base ≤ k ∧ k < w.heap.size := (h.own f h2 h6).block_lt
  have hcb := lt_of_block h.row
  have hs2 := hk.size
  have hsa : (w2.alloc o).heap.size = w2.heap.size + 1 := by simp
  have hs3 := hg.size
  -- what is not the list's block is in w3 as in w2
  have hb3 : ∀ k, k < w2.heap.size → (V f).ownBlock ≠ some k → w3.heap[k]? = w2.heap[k]? := fun k h1 h2 => (hg.block k (by omega) (fun e => h2 e.symm)).trans (Below.heap_alloc _ _ _ h1)
  have hcbne : (V f).ownBlock ≠ some cb := fun e => by have := hcl cb e; rw [h.c1] at this; omega
  have hrow3 := (hb3 cb (by omega) hcbne).trans hbw.row
  have hset : ∀ k, k ≠ cb → (w3.setCell ⟨cb, f, none⟩ v').heap[k]? = w3.heap[k]? := fun k hk => Below.heap_setCell _ _ _ _ hk
  have hvne : ∀ k, v'.ownBlock = some k → k ≠ cb := fun k hk => by
    rcases hn k hk with e | e
    · intro e2; exact hcbne (by rw [← e2]; exact e)
    · omega
  have hzero : ∀ k, col k = 0 ∨ (w.heap.size ≤ k ∧ k < w2.heap.size) → colN col f v' w.heap.size w2.heap.size k = 0 ∧ ((w3.setCell ⟨cb, f, none⟩ v').heap[k]? = w2.heap[k]?) := by
    intro k hk0
    have hkl : k < w2.heap.size := by
      rcases hk0 with e | e
      · have := (h.zero k e).2; omega
      · exact e.2
    have hne : (V f).ownBlock ≠ some k := fun e => by
      have e1 := hcl k e
      have e2 := (hlt k e).2
      rcases hk0 with e3 | e3 <;> omega
    have hnv : v'.ownBlock ≠ some k := fun e => by
      rcases hn k e with e | e
      · exact hne e
      · omega
    have hkc : k ≠ cb := fun e => by
      rcases hk0 with e3 | e3
      · rw [e, h.c1] at e3; cases e3
      · omega
    refine ⟨?_, (hset k hkc).trans (hb3 k hkl hne)⟩
    unfold colN
    rw [if_neg hnv]
    rcases hk0 with e | e
    · rw [if_pos (h.zero k e).2, e]
    · rw [if_neg (by omega), if_pos e.2]
  obtain ⟨z0, z1, z2, z3, z4, z5, z6, hr⟩ := hbw.rrow
  have hrlt : rb < w.heap.size := by
    obtain ⟨_, _, _, _, _, _, _, hr⟩ := h.rrow
    exact lt_of_block hr
  have hrne : (V f).ownBlock ≠ some rb := fun e => by have := hcl rb e; rw [h.c8] at this; omega
  have hrc : rb ≠ cb := fun e => by have h8 := h.c8; rw [e, h.c1] at h8; cases h8
  refine ⟨⟨?_, ⟨z0, z1, z2, z3, z4, z5, z6, (hset rb hrc).trans ((hb3 rb (by omega) hrne).trans hr)⟩, ?_, ?_, ?_, ?_, h.hc, h.hr, ?_, by
      by_cases q : f = 4
      · subst q; intro e; rw [up_same] at e; exact absurd e (hne rfl)
      · intro e; rw [up_ne _ _ (Ne.symm q)] at e ⊢; exact h.r0 e⟩, ?_, hzero⟩
  · have := heap_setCell_same w3 cb f _ 28 v' hrow3
    rw [CRow_set kind no V f v' h2 h6] at this
    exact this
  · intro j j2 j6
    by_cases q : j = f
    · subst q
      rw [up_same, up_same, up_same]
      exact ho.move fun k hk => hset k (hvne k hk)
    · rw [up_ne _ _ q, up_ne _ _ q, up_ne _ _ q]
      refine (hbw.own j j2 j6).move fun k hk => ?_
      have hjk := h.cl j j2 j6 k hk
      have hkw := ((h.own j j2 j6).block_lt k hk).2
      have hkc : k ≠ cb := fun e => by rw [e, h.c1] at hjk; rcases hjk with e | e; omega; cases e.1
      have hne : (V f).ownBlock ≠ some k := fun e => by have := hcl k e; rcases hjk with e | e; omega; omega
      exact (hset k hkc).trans (hb3 k (by omega) hne)
  · intro j j2 j6 k hk
    by_cases q : j = f
    · subst q
      rw [up_same] at hk
      left
      unfold colN
      rw [if_pos hk]
    · rw [up_ne _ _ q] at hk
      have hjk := h.cl j j2 j6 k hk
      have hkw := ((h.own j j2 j6).block_lt k hk).2
      have hnv : v'.ownBlock ≠ some k := fun e => by
        rcases hn k e with e | e
        · have := hcl k e; rcases hjk with e | e <;> omega
        · omega
      unfold colN
      rw [if_neg hnv, if_pos hkw]
      exact hjk
  · unfold colN
    rw [if_neg (fun e => hvne cb e rfl), if_pos hcb, h.c1]
  · have hnv : v'.ownBlock ≠ some rb := fun e => by
      rcases hn rb e with e | e
      · exact hrne e
      · omega
    unfold colN
    rw [if_neg hnv, if_pos hrlt, h.c8]
  · intro k hk0
    have hsz : (w3.setCell ⟨cb, f, none⟩ v').heap.size = w3.heap.size := by simp
    rw [hsz]
    unfold colN at hk0
    split at hk0
    · omega
    · split at hk0
      · have := h.zero k hk0; omega
      · split at hk0
        · have := h.hc; omega
        · cases hk0
  · refine ((((hk.mono fun i e _ => Or.inl e).alloc o).grown hg fun k e => .inl (.inr (.inr e))).setCell (p := ⟨cb, f, none⟩) (.inl (.inr (.inl rfl))) v')
end
/-- what the lists hold -/
structure TreeX (W : World) (S : Nat → Prop) (N : Nat → Nat) (X : Nat → List Value) (az ws : List ByteArray) (rs : List (ByteArray × ByteArray)) (kids : List CmdT) (pats : List (List ByteArray)) (bodies : List CmdT) : Prop where
  n2 : N 2 = az.length
  x2 : X 2 = strV az
  n3 : N 3 = ws.length
  x3 : X 3 = strV ws
  n4 : N 4 = rs.length
  x4 : X 4 = redV rs
  n5 : N 5 = kids.length
  x5 : ∃ kc, X 5 = kc.flatten ∧ KidsAt W S kc kids
  n6 : N 6 = pats.length
  x6 : ∃ pc bc, X 6 = ArmC pc bc ∧ ArmsAt W S pc bc pats bodies
section
variable {W W' : World} {S S' : Nat → Prop} {N : Nat → Nat} {X : Nat → List Value} {az ws : List ByteArray} {rs : List (ByteArray × ByteArray)} {kids : List CmdT} {pats : List (List ByteArray)} {bodies : List CmdT}
theorem TreeX.move (h : TreeX W S N X az ws rs kids pats bodies) (hs : ∀ k, S k → S' k) (hw : ∀ k, S k → W'.heap[k]? = W.heap[k]?) : TreeX W' S' N X az ws rs kids pats bodies := by
  obtain ⟨h1, h2, h3, h4, h5, h6, h7, ⟨kc, e1, e2⟩, h9, pc, bc, e3, e4⟩ := h
  exact ⟨h1, h2, h3, h4, h5, h6, h7, ⟨kc, e1, e2.move hs hw⟩, h9, pc, bc, e3, e4.move hs hw⟩
theorem TreeX.asg (h : TreeX W S N X az ws rs kids pats bodies) (s : ByteArray) : TreeX W S (up N 2 (N 2 + 1)) (up X 2 (X 2 ++ [.string s])) (az ++ [s]) ws rs kids pats bodies :=
  ⟨by rw [up_same, h.n2]; simp, by rw [up_same, h.x2, strV_app]; rfl, h.n3, h.x3, h.n4, h.x4, h.n5, h.x5, h.n6, h.x6⟩
theorem TreeX.wrd (h : TreeX W S N X az ws rs kids pats bodies) (s : ByteArray) : TreeX W S (up N 3 (N 3 + 1)) (up X 3 (X 3 ++ [.string s])) az (ws ++ [s]) rs kids pats bodies :=
  ⟨h.n2, h.x2, by rw [up_same, h.n3]; simp, by rw [up_same, h.x3, strV_app]; rfl, h.n4, h.x4, h.n5, h.x5, h.n6, h.x6⟩
theorem TreeX.red (h : TreeX W S N X az ws rs kids pats bodies) (s t : ByteArray) : TreeX W S (up N 4 (N 4 + 1)) (up X 4 (X 4 ++ [.string s, .string t])) az ws (rs ++ [(s, t)]) kids pats bodies :=
  ⟨h.n2, h.x2, h.n3, h.x3, by rw [up_same, h.n4]; simp, by rw [up_same, h.x4, redV_app]; rfl, h.n5, h.x5, h.n6, h.x6⟩
theorem TreeX.kid (h : TreeX W S N X az ws rs kids pats bodies) {c : List Value} {t : CmdT} (hc : CmdAt W S c t) : TreeX W S (up N 5 (N 5 + 1)) (up X 5 (X 5 ++ c)) az ws rs (kids ++ [t]) pats bodies := by
  obtain ⟨kc, e1, e2⟩ := h.x5
  exact ⟨h.n2, h.x2, h.n3, h.x3, h.n4, h.x4, by rw [up_same, h.n5]; simp, ⟨kc ++ [c], by rw [up_same, e1]; simp, e2.snoc hc⟩, h.n6, h.x6⟩
theorem TreeX.arm (h : TreeX W S N X az ws rs kids pats bodies) {v : Value} {c : List Value} {ps : List ByteArray} {t : CmdT} (hp : RdG W S 9 1 v ps.length (strV ps)) (hc : CmdAt W S c t) : TreeX W S (up N 6 (N 6 + 1)) (up X 6 (X 6 ++ (v :: c))) az ws rs kids (pats ++ [ps]) (bodies ++ [t]) := by
  obtain ⟨pc, bc, e1, e2⟩ := h.x6
  exact ⟨h.n2, h.x2, h.n3, h.x3, h.n4, h.x4, h.n5, h.x5, by rw [up_same, h.n6]; simp, pc ++ [v], bc ++ [c], by rw [up_same, e1, ArmC_snoc (by rw [e2.1, e2.2.1, e2.2.2.1])], e2.snoc hp hc⟩
end
/-- a command that is being built -/
def BT (W : World) (rb cb base : Nat) (kind : Int) (no : Bool) (fz : Nat → Bool) (az ws : List ByteArray) (rs : List (ByteArray × ByteArray)) (kids : List CmdT) (pats : List (List ByteArray)) (bodies : List CmdT) (V : Nat → Value) (N : Nat → Nat) (X : Nat → List Value) (col : Nat → Nat) : Prop :=
  Bld W rb cb base kind no V N X col fz ∧ TreeX W (fun k => col k = 0) N X az ws rs kids pats bodies
section
variable {w w2 w3 W W' : World} {rb cb base : Nat} {kind : Int} {no : Bool} {V : Nat → Value} {N : Nat → Nat} {X : Nat → List Value} {col : Nat → Nat} {fz : Nat → Bool} {az ws : List ByteArray} {rs : List (ByteArray × ByteArray)} {kids : List CmdT} {pats : List (List ByteArray)} {bodies : List CmdT}
theorem BT.keep {T : Nat → Prop} (h : BT W rb cb base kind no fz az ws rs kids pats bodies V N X col) (hk : Kept T W W') (hT : ∀ k, T k → k < base) : BT W' rb cb base kind no fz az ws rs kids pats bodies V N X col :=
  ⟨h.1.keep hk hT, h.2.move (fun _ e => e) fun k e => hk.block k (h.1.zero k e).2 fun e2 => by have := hT k e2; have := (h.1.zero k e).1; omega⟩
variable {T : Nat → Prop} {o : Obj} {v' : Value} (h : BT w rb cb base kind no fz az ws rs kids pats bodies V N X col) (hk : Kept T w w2) (hT : ∀ k, T k → k < base)
include h hk hT
theorem BT.asg (s : ByteArray) (hz : fz 2 = false) (hg : (w2.alloc o).grownBy w3 (V 2).ownBlock) (ho : OwnG w3 base 9 1 v' (N 2 + 1) (X 2 ++ [.string s])) (hn : ∀ k, v'.ownBlock = some k → (V 2).ownBlock = some k ∨ k = (w2.alloc o).heap.size) :
    BT (w3.setCell ⟨cb, 2, none⟩ v') rb cb base kind no fz (az ++ [s]) ws rs kids pats bodies (up V 2 v') (up N 2 (N 2 + 1)) (up X 2 (X 2 ++ [.string s])) (colN col 2 v' w.heap.size w2.heap.size) ∧ Kept (fun k => T k ∨ k = cb ∨ (V 2).ownBlock = some k) w (w3.setCell ⟨cb, 2, none⟩ v') := by
  obtain ⟨p1, p2, p3⟩ := h.1.push (f := 2) (by decide) (by decide) hz hk hT hg ho hn
  exact ⟨⟨p1, ((h.keep hk hT).2.move (fun k e => (p3 k (.inl e)).1) fun k e => (p3 k (.inl e)).2).asg s⟩, p2⟩
theorem BT.wrd (s : ByteArray) (hz : fz 3 = false) (hg : (w2.alloc o).grownBy w3 (V 3).ownBlock) (ho : OwnG w3 base 9 1 v' (N 3 + 1) (X 3 ++ [.string s])) (hn : ∀ k, v'.ownBlock = some k → (V 3).ownBlock = some k ∨ k = (w2.alloc o).heap.size) :
    BT (w3.setCell ⟨cb, 3, none⟩ v') rb cb base kind no fz az (ws ++ [s]) rs kids pats bodies (up V 3 v') (up N 3 (N 3 + 1)) (up X 3 (X 3 ++ [.string s])) (colN col 3 v' w.heap.size w2.heap.size) ∧ Kept (fun k => T k ∨ k = cb ∨ (V 3).ownBlock = some k) w (w3.setCell ⟨cb, 3, none⟩ v') := by
  obtain ⟨p1, p2, p3⟩ := h.1.push (f := 3) (by decide) (by decide) hz hk hT hg ho hn
  exact ⟨⟨p1, ((h.keep hk hT).2.move (fun k e => (p3 k (.inl e)).1) fun k e => (p3 k (.inl e)).2).wrd s⟩, p2⟩
theorem BT.red (s t : ByteArray) (hz : fz 4 = false) (hg : (w2.alloc o).grownBy w3 (V 4).ownBlock) (ho : OwnG w3 base 52 2 v' (N 4 + 1) (X 4 ++ [.string s, .string t])) (hn : ∀ k, v'.ownBlock = some k → (V 4).ownBlock = some k ∨ k = (w2.alloc o).heap.size) :
    BT (w3.setCell ⟨cb, 4, none⟩ v') rb cb base kind no fz az ws (rs ++ [(s, t)]) kids pats bodies (up V 4 v') (up N 4 (N 4 + 1)) (up X 4 (X 4 ++ [.string s, .string t])) (colN col 4 v' w.heap.size w2.heap.size) ∧ Kept (fun k => T k ∨ k = cb ∨ (V 4).ownBlock = some k) w (w3.setCell ⟨cb, 4, none⟩ v') := by
  obtain ⟨p1, p2, p3⟩ := h.1.push (f := 4) (by decide) (by decide) hz hk hT hg ho hn
  exact ⟨⟨p1, ((h.keep hk hT).2.move (fun k e => (p3 k (.inl e)).1) fun k e => (p3 k (.inl e)).2).red s t⟩, p2⟩
theorem BT.kid {c : List Value} {t : CmdT} (hc : CmdAt w2 (fun k => w.heap.size ≤ k ∧ k < w2.heap.size) c t) (hz : fz 5 = false) (hg : (w2.alloc o).grownBy w3 (V 5).ownBlock) (ho : OwnG w3 base 28 7 v' (N 5 + 1) (X 5 ++ c)) (hn : ∀ k, v'.ownBlock = some k → (V 5).ownBlock = some k ∨ k = (w2.alloc o).heap.size) :
    BT (w3.setCell ⟨cb, 5, none⟩ v') rb cb base kind no fz az ws rs (kids ++ [t]) pats bodies (up V 5 v') (up N 5 (N 5 + 1)) (up X 5 (X 5 ++ c)) (colN col 5 v' w.heap.size w2.heap.size) ∧ Kept (fun k => T k ∨ k = cb ∨ (V 5).ownBlock = some k) w (w3.setCell ⟨cb, 5, none⟩ v') := by
  obtain ⟨p1, p2, p3⟩ := h.1.push (f := 5) (by decide) (by decide) hz hk hT hg ho hn
  exact ⟨⟨p1, ((h.keep hk hT).2.move (fun k e => (p3 k (.inl e)).1) fun k e => (p3 k (.inl e)).2).kid (hc.move (fun k e => (p3 k (.inr e)).1) fun k e => (p3 k (.inr e)).2)⟩, p2⟩
theorem BT.arm {v : Value} {c : List Value} {ps : List ByteArray} {t : CmdT} (hp : RdG w2 (fun k => w.heap.size ≤ k ∧ k < w2.heap.size) 9 1 v ps.length (strV ps)) (hc : CmdAt w2 (fun k => w.heap.size ≤ k ∧ k < w2.heap.size) c t) (hz : fz 6 = false) (hg : (w2.alloc o).grownBy w3 (V 6).ownBlock) (ho : OwnG w3 base 37 8 v' (N 6 + 1) (X 6 ++ (v :: c))) (hn : ∀ k, v'.ownBlock = some k → (V 6).ownBlock = some k ∨ k = (w2.alloc o).heap.size) :
    BT (w3.setCell ⟨cb, 6, none⟩ v') rb cb base kind no fz az ws rs kids (pats ++ [ps]) (bodies ++ [t]) (up V 6 v') (up N 6 (N 6 + 1)) (up X 6 (X 6 ++ (v :: c))) (colN col 6 v' w.heap.size w2.heap.size) ∧ Kept (fun k => T k ∨ k = cb ∨ (V 6).ownBlock = some k) w (w3.setCell ⟨cb, 6, none⟩ v') := by
  obtain ⟨p1, p2, p3⟩ := h.1.push (f := 6) (by decide) (by decide) hz hk hT hg ho hn
  exact ⟨⟨p1, ((h.keep hk hT).2.move (fun k e => (p3 k (.inl e)).1) fun k e => (p3 k (.inl e)).2).arm (hp.move (fun k e => (p3 k (.inr e)).1) fun k e => (p3 k (.inr e)).2) (hc.move (fun k e => (p3 k (.inr e)).1) fun k e => (p3 k (.inr e)).2)⟩, p2⟩
end
def put7 (w : World) (b : Nat) (a0 a1 a2 a3 a4 a5 a6 : Value) : World := ((((((w.setCell ⟨b, 0, none⟩ a0).setCell ⟨b, 1, none⟩ a1).setCell ⟨b, 2, none⟩ a2).setCell ⟨b, 3, none⟩ a3).setCell ⟨b, 4, none⟩ a4).setCell ⟨b, 5, none⟩ a5).setCell ⟨b, 6, none⟩ a6
theorem set7 {w : World} {b : Nat} {z0 z1 z2 z3 z4 z5 z6 : Value} {t : TypeId} (h : w.heap[b]? = some (.cells #[z0, z1, z2, z3, z4, z5, z6] t (0, 0))) (a0 a1 a2 a3 a4 a5 a6 : Value) :
    (put7 w b a0 a1 a2 a3 a4 a5 a6).heap[b]? = some (.cells #[a0, a1, a2, a3, a4, a5, a6] t (0, 0)) := by
  have h0 := heap_setCell_same _ b 0 _ t a0 h
  have h1 := heap_setCell_same _ b 1 _ t a1 h0
  have h2 := heap_setCell_same _ b 2 _ t a2 h1
  have h3 := heap_setCell_same _ b 3 _ t a3 h2
  have h4 := heap_setCell_same _ b 4 _ t a4 h3
  have h5 := heap_setCell_same _ b 5 _ t a5 h4
  have h6 := heap_setCell_same _ b 6 _ t a6 h5
  simpa [put7] using h6
theorem put7_other {w : World} {b k : Nat} (h : k ≠ b) (a0 a1 a2 a3 a4 a5 a6 : Value) : (put7 w b a0 a1 a2 a3 a4 a5 a6).heap[k]? = w.heap[k]? := by
  unfold put7
  rw [Below.heap_setCell _ _ _ _ h, Below.heap_setCell _ _ _ _ h, Below.heap_setCell _ _ _ _ h, Below.heap_setCell _ _ _ _ h, Below.heap_setCell _ _ _ _ h, Below.heap_setCell _ _ _ _ h, Below.heap_setCell _ _ _ _ h]
theorem put7_kept {T : Nat → Prop} {b : Nat} {w0 w : World} (h : Kept T w0 w) (hb : T b ∨ w0.heap.size ≤ b) (a0 a1 a2 a3 a4 a5 a6 : Value) : Kept T w0 (put7 w b a0 a1 a2 a3 a4 a5 a6) :=
  ((((((h.setCell (p := ⟨b, 0, none⟩) hb _).setCell (p := ⟨b, 1, none⟩) hb _).setCell (p := ⟨b, 2, none⟩) hb _).setCell (p := ⟨b, 3, none⟩) hb _).setCell (p := ⟨b, 4, none⟩) hb _).setCell (p := ⟨b, 5, none⟩) hb _).setCell (p := ⟨b, 6, none⟩) hb _
theorem load7 {W : World} {b : Nat} {a0 a1 a2 a3 a4 a5 a6 : Value} (h : W.heap[b]? = some (.cells #[a0, a1, a2, a3, a4, a5, a6] 28 (0, 0))) : (loadVar 28 ⟨b, 0, none⟩).run Tryz.prog W = .ok (.agg #[a0, a1, a2, a3, a4, a5, a6]) W := by
  refine run_loadVar_mid W b 0 28 [a0, a1, a2, a3, a4, a5, a6] _ (fun j v hv => ?_) Tryz.underlying28 rfl (by kernel_rfl)
  rw [Nat.zero_add, cell_of_row W b j _ 28 (0, 0) h]
  simpa using hv
theorem Bld.tree {W : World} {rb cb base : Nat} {kind : Int} {no : Bool} {V : Nat → Value} {N : Nat → Nat} {X : Nat → List Value} {col : Nat → Nat} {fz : Nat → Bool} {az ws : List ByteArray} {rs : List (ByteArray × ByteArray)} {kids : List CmdT} {pats : List (List ByteArray)} {bodies : List CmdT}
    (h : BT W rb cb base kind no fz az ws rs kids pats bodies V N X col) : CmdAt W (fun k => base ≤ k ∧ k < W.heap.size ∧ k ≠ rb ∧ k ≠ cb) [.int .i64 kind, .bool no, V 2, V 3, V 4, V 5, V 6] (.mk kind no az ws rs kids pats bodies) := by
  obtain ⟨h1, h2, h3, h4, h5, h6, h7, h8, ⟨kc, e1, e2⟩, h9, pc, bc, e3, e4⟩ := h
  have hs : ∀ k, col k = 0 → base ≤ k ∧ k < W.heap.size ∧ k ≠ rb ∧ k ≠ cb := fun k e => ⟨(h1.zero k e).1, (h1.zero k e).2, (fun e2 => by rw [e2, h1.c8] at e; cases e), (fun e2 => by rw [e2, h1.c1] at e; cases e)⟩
  have hr : ∀ f, (h2' : 2 ≤ f) → (h6' : f ≤ 6) → RdG W (fun k => base ≤ k ∧ k < W.heap.size ∧ k ≠ rb ∧ k ≠ cb) (cty f) (csz f) (V f) (N f) (X f) := fun f h2' h6' =>
    ⟨(h1.own f h2' h6').lower (Nat.zero_le _), fun k hk => ⟨((h1.own f h2' h6').block_lt k hk).1, ((h1.own f h2' h6').block_lt k hk).2, (fun e => by have := h1.cl f h2' h6' k hk; rw [e, h1.c8] at this; omega), (fun e => by have := h1.cl f h2' h6' k hk; rw [e, h1.c1] at this; omega)⟩⟩
  have r2 := hr 2 (by decide) (by decide)
  have r3 := hr 3 (by decide) (by decide)
  have r4 := hr 4 (by decide) (by decide)
  have r5 := hr 5 (by decide) (by decide)
  have r6 := hr 6 (by decide) (by decide)
  rw [h2, h3] at r2
  rw [h4, h5] at r3
  rw [h6, h7] at r4
  rw [h8, e1] at r5
  rw [h9, e3] at r6
  exact CmdAt.of r2 r3 r4 r5 (e2.move hs fun _ _ => rfl) r6 (e4.move hs fun _ _ => rfl) (fun e => h1.r0 (by rw [h7, e]; rfl))
/-- the command is told -/
theorem BT.ret {W : World} {rb cb base : Nat} {kind : Int} {no : Bool} {V : Nat → Value} {N : Nat → Nat} {X : Nat → List Value} {col : Nat → Nat} {fz : Nat → Bool} {az ws : List ByteArray} {rs : List (ByteArray × ByteArray)} {kids : List CmdT} {pats : List (List ByteArray)} {bodies : List CmdT}
    (h : BT W rb cb base kind no fz az ws rs kids pats bodies V N X col) : ∃ W6, W6 = put7 W rb (.int .i64 kind) (.bool no) (V 2) (V 3) (V 4) (V 5) (V 6) ∧ (loadVar 28 ⟨rb, 0, none⟩).run Tryz.prog W6 = .ok (.agg #[.int .i64 kind, .bool no, V 2, V 3, V 4, V 5, V 6]) W6 ∧
      CmdR base W6 (.agg #[.int .i64 kind, .bool no, V 2, V 3, V 4, V 5, V 6]) (.mk kind no az ws rs kids pats bodies) ∧ Kept (fun k => k = rb) W W6 := by
  obtain ⟨z0, z1, z2, z3, z4, z5, z6, hr⟩ := h.1.rrow
  have hs := set7 hr (.int .i64 kind) (.bool no) (V 2) (V 3) (V 4) (V 5) (V 6)
  have ho : ∀ k, k ≠ rb → (put7 W rb (.int .i64 kind) (.bool no) (V 2) (V 3) (V 4) (V 5) (V 6)).heap[k]? = W.heap[k]? := fun k hk => put7_other hk _ _ _ _ _ _ _
  have hk := put7_kept (Kept.refl (fun k => k = rb) W) (.inl rfl) (.int .i64 kind) (.bool no) (V 2) (V 3) (V 4) (V 5) (V 6)
  obtain ⟨W6, hW⟩ : ∃ W6, W6 = put7 W rb (.int .i64 kind) (.bool no) (V 2) (V 3) (V 4) (V 5) (V 6) := ⟨_, rfl⟩
  rw [← hW] at hs ho hk
  refine ⟨W6, hW, load7 hs, ⟨_, rfl, (Bld.tree h).move (fun k e => ⟨e.1, Nat.lt_of_lt_of_le e.2.1 hk.size⟩) fun k e => ho k e.2.2.1⟩, hk⟩
end Go.Proofs.YtioddclglemlmaaGreatDoor
