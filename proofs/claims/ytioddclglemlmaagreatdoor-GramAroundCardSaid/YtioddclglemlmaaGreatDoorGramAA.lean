/- An arm's variable. An arm. Conditions: as each part says. -/
import Derived.Test.YtioddclglemlmaaGreatDoorGramEa
import Derived.RegionDies
/- An arm's variable; no condition. -/
namespace Go.Proofs.YtioddclglemlmaaGreatDoor
open Go.RowKit


theorem Tryz.info37 : (Tryz.prog.info? 37).map (fun i => (i.zero, i.size, i.bytes)) = some (some (.agg #[.slice none 0 0, .int .i64 0, .bool false, .slice none 0 0, .slice none 0 0, .slice none 0 0, .slice none 0 0, .slice none 0 0]), 8, 160) := by kernel_rfl
/-- an arm's variable: its patterns, its body's cells -/
structure AT (W : World) (ab base : Nat) (vp : Value) (bc : List Value) (ps : List ByteArray) : Prop where
  row : W.heap[ab]? = some (.cells (vp :: bc).toArray 37 (0, 0))
  own : OwnG W base 9 1 vp ps.length (strV ps)
  hb : base ≤ ab
section
variable {w w2 w3 W W' : World} {ab base : Nat} {vp : Value} {bc : List Value} {ps : List ByteArray}
theorem AT.keep {T : Nat → Prop} (h : AT W ab base vp bc ps) (hk : Kept T W W') (hT : ∀ k, T k → k < base) : AT W' ab base vp bc ps := by
  have hb : ∀ k, base ≤ k → k < W.heap.size → W'.heap[k]? = W.heap[k]? := fun k h1 h2 => hk.block k h2 fun e => by have := hT k e; omega
  exact ⟨(hb _ h.hb (lt_of_block h.row)).trans h.row, h.own.move fun k e => hb k (h.own.block_lt k e).1 (h.own.block_lt k e).2, h.hb⟩
/-- what an append to the patterns needs -/
theorem AT.ops (h : AT w ab base vp bc ps) : (∀ o, OwnG (w.alloc o) base 9 1 vp ps.length (strV ps)) ∧ (∀ o, (w.alloc o).cell? ⟨ab, 0, none⟩ = some vp) ∧ (∀ o w6, (w.alloc o).grownBy w6 vp.ownBlock → w6.cell? ⟨ab, 0, none⟩ = some vp ∧ w6.frozen? ⟨ab, 0, none⟩ = false) ∧ w.cell? ⟨ab, 0, none⟩ = some vp ∧ w.frozen? ⟨ab, 0, none⟩ = false ∧ base ≤ w.heap.size := by
  have hlt := lt_of_block h.row
  have hne : vp.ownBlock ≠ some ab := h.own.ne_row h.row (by decide)
  refine ⟨fun o => h.own.move fun k hk => Below.heap_alloc w o k (h.own.block_lt k hk).2, fun o => (rowc ((Below.heap_alloc w o ab hlt).trans h.row) (j := 0) rfl).1, fun o w6 hg => ?_, (rowc h.row (j := 0) rfl).1, frozen_of_row w _ _ _ _ h.row, Nat.le_trans h.hb (Nat.le_of_lt hlt)⟩
  exact rowc (((hg.block ab (by simp; omega) (fun e => hne e.symm)).trans (Below.heap_alloc _ _ _ hlt)).trans h.row) (j := 0) rfl
theorem AT.push {o : Obj} {v' : Value} {n' : Nat} (s : ByteArray) (h : AT w ab base vp bc ps) (hg : (w.alloc o).grownBy w3 vp.ownBlock) (ho : OwnG w3 base 9 1 v' n' (strV ps ++ [.string s])) (hn' : n' = ps.length + 1) (hn : ∀ k, v'.ownBlock = some k → vp.ownBlock = some k ∨ k = (w.alloc o).heap.size) :
    AT (w3.setCell ⟨ab, 0, none⟩ v') ab base v' bc (ps ++ [s]) ∧ Kept (fun k => k = ab ∨ vp.ownBlock = some k) w (w3.setCell ⟨ab, 0, none⟩ v') := by
  have hlt := lt_of_block h.row
  have hne : vp.ownBlock ≠ some ab := h.own.ne_row h.row (by decide)
  have hrow3 := ((hg.block ab (by simp; omega) (fun e => hne e.symm)).trans (Below.heap_alloc _ _ _ hlt)).trans h.row
  refine ⟨⟨by simpa using heap_setCell_same w3 ab 0 _ 37 v' hrow3, ?_, h.hb⟩, ((((Kept.refl _ w).alloc o).grown hg fun k e => .inl (.inr e)).setCell (p := ⟨ab, 0, none⟩) (.inl (.inl rfl)) v')⟩
  rw [strV_app, List.length_append, List.length_singleton, ← hn']
  exact ho.move fun k hk => Below.heap_setCell _ _ _ _ (fun e => by
    rcases hn k hk with e2 | e2
    · have e3 : k = ab := e
      exact hne (by rw [← e3]; exact e2)
    · have e3 : k = ab := e
      have : (w.alloc o).heap.size = w.heap.size + 1 := by simp
      omega)
def putB (w : World) (b : Nat) (a0 a1 a2 a3 a4 a5 a6 : Value) : World := ((((((w.setCell ⟨b, 1, none⟩ a0).setCell ⟨b, 2, none⟩ a1).setCell ⟨b, 3, none⟩ a2).setCell ⟨b, 4, none⟩ a3).setCell ⟨b, 5, none⟩ a4).setCell ⟨b, 6, none⟩ a5).setCell ⟨b, 7, none⟩ a6
/-- the body is stored -/
theorem AT.body {z0 z1 z2 z3 z4 z5 z6 : Value} (h : AT W ab base vp [z0, z1, z2, z3, z4, z5, z6] ps) (a0 a1 a2 a3 a4 a5 a6 : Value) : AT (putB W ab a0 a1 a2 a3 a4 a5 a6) ab base vp [a0, a1, a2, a3, a4, a5, a6] ps ∧ Kept (fun k => k = ab) W (putB W ab a0 a1 a2 a3 a4 a5 a6) := by
  have hne : vp.ownBlock ≠ some ab := h.own.ne_row h.row (by decide)
  have h0 := heap_setCell_same _ ab 1 _ 37 a0 h.row
  have h1 := heap_setCell_same _ ab 2 _ 37 a1 h0
  have h2 := heap_setCell_same _ ab 3 _ 37 a2 h1
  have h3 := heap_setCell_same _ ab 4 _ 37 a3 h2
  have h4 := heap_setCell_same _ ab 5 _ 37 a4 h3
  have h5 := heap_setCell_same _ ab 6 _ 37 a5 h4
  have h6 := heap_setCell_same _ ab 7 _ 37 a6 h5
  have hk : Kept (fun k => k = ab) W (putB W ab a0 a1 a2 a3 a4 a5 a6) :=
    (((((((Kept.refl (fun k => k = ab) W).setCell (p := ⟨ab, 1, none⟩) (.inl rfl) _).setCell (p := ⟨ab, 2, none⟩) (.inl rfl) _).setCell (p := ⟨ab, 3, none⟩) (.inl rfl) _).setCell (p := ⟨ab, 4, none⟩) (.inl rfl) _).setCell (p := ⟨ab, 5, none⟩) (.inl rfl) _).setCell (p := ⟨ab, 6, none⟩) (.inl rfl) _).setCell (p := ⟨ab, 7, none⟩) (.inl rfl) _
  refine ⟨⟨by simpa [putB] using h6, h.own.move fun k e => hk.block k (h.own.block_lt k e).2 fun e2 => hne (by rw [← e2]; exact e), h.hb⟩, hk⟩
end
end Go.Proofs.YtioddclglemlmaaGreatDoor

/- An arm; conditions: a parser that stands among tokens, the last one the end; a command that is being built; what a list tells. -/
namespace Go.Proofs.YtioddclglemlmaaGreatDoor
open Go.RowKit


/-- behind an arm's patterns -/
def armE (T : List (Int × ByteArray)) (C : Nat → PR CmdT) (ps : List ByteArray) (j : Nat) : PR (List ByteArray × CmdT × Bool) := (mustO T j bShut).bind fun _ j =>
    (if begP T (lineP T j) then lisP T C (lineP T j) else .ok (CmdT.leaf 5) (lineP T j)).bind fun b j =>
      if isO T j bDD then .ok (ps, b, true) (lineP T (j + 1)) else .ok (ps, b, false) j
/-- behind an arm's body -/
def armG (T : List (Int × ByteArray)) (ps : List ByteArray) (b : CmdT) (j : Nat) : PR (List ByteArray × CmdT × Bool) := if isO T j bDD then .ok (ps, b, true) (lineP T (j + 1)) else .ok (ps, b, false) j
def ArmA (pb : Nat) (T : List (Int × ByteArray)) (g cap i d : Nat) (rb cb base : Nat) (kind : Int) (no : Bool) (fz : Nat → Bool) (az ws : List ByteArray) (rs : List (ByteArray × ByteArray)) (kids : List CmdT) (pats : List (List ByteArray)) (bodies : List CmdT) (w : World) (r : PR (List ByteArray × CmdT × Bool)) (e : Ending) (w' : World) : Prop :=
  Kept (OwnB pb base) w w' ∧ match r with
  | .ok a j => e = .returned (.bool a.2.2) ∧ (∃ V N X col, BT w' rb cb base kind no fz az ws rs kids (pats ++ [a.1]) (bodies ++ [a.2.1]) V N X col) ∧ PAt w' pb T j d g cap ∧ i < j
  | .err n => ∃ k : Int, e = .panicked (faultV k n)

theorem AT.np {W : World} {ab base np cp : Nat} {Ap : Option Addr} {bc : List Value} {ps : List ByteArray} (h : AT W ab base (.slice Ap np cp) bc ps) : np = ps.length := by
  obtain ⟨A, c, e, _, _⟩ := h.own.form
  cases e; rfl
def put8 (w : World) (g o : Nat) (a0 a1 a2 a3 a4 a5 a6 a7 : Value) : World := (((((((w.setCell ⟨g, o, none⟩ a0).setCell ⟨g, o + 1, none⟩ a1).setCell ⟨g, o + 2, none⟩ a2).setCell ⟨g, o + 3, none⟩ a3).setCell ⟨g, o + 4, none⟩ a4).setCell ⟨g, o + 5, none⟩ a5).setCell ⟨g, o + 6, none⟩ a6).setCell ⟨g, o + 7, none⟩ a7
theorem setCell_comm (w : World) (a b : Addr) (x y : Value) (h : a.block ≠ b.block) : (w.setCell a x).setCell b y = (w.setCell b y).setCell a x := by
  unfold World.setCell
  simp only
  congr 1
  apply Array.ext_getElem?
  intro k
  rw [Array.getElem?_modify, Array.getElem?_modify, Array.getElem?_modify, Array.getElem?_modify]
  by_cases h1 : a.block = k
  · by_cases h2 : b.block = k
    · exact absurd (h1.trans h2.symm) h
    · rw [if_neg h2, if_pos h1, if_pos h1, if_neg h2]
  · by_cases h2 : b.block = k
    · rw [if_pos h2, if_neg h1, if_neg h1, if_pos h2]
    · rw [if_neg h2, if_neg h1, if_neg h1, if_neg h2]
theorem put8_comm {g cb : Nat} (h : g ≠ cb) (w : World) (o f : Nat) (a0 a1 a2 a3 a4 a5 a6 a7 v : Value) : (put8 w g o a0 a1 a2 a3 a4 a5 a6 a7).setCell ⟨cb, f, none⟩ v = put8 (w.setCell ⟨cb, f, none⟩ v) g o a0 a1 a2 a3 a4 a5 a6 a7 := by
  unfold put8
  rw [setCell_comm _ ⟨g, o + 7, none⟩ ⟨cb, f, none⟩ _ _ h, setCell_comm _ ⟨g, o + 6, none⟩ ⟨cb, f, none⟩ _ _ h, setCell_comm _ ⟨g, o + 5, none⟩ ⟨cb, f, none⟩ _ _ h, setCell_comm _ ⟨g, o + 4, none⟩ ⟨cb, f, none⟩ _ _ h, setCell_comm _ ⟨g, o + 3, none⟩ ⟨cb, f, none⟩ _ _ h, setCell_comm _ ⟨g, o + 2, none⟩ ⟨cb, f, none⟩ _ _ h, setCell_comm _ ⟨g, o + 1, none⟩ ⟨cb, f, none⟩ _ _ h, setCell_comm _ ⟨g, o, none⟩ ⟨cb, f, none⟩ _ _ h]
theorem set_arm (X : List Value) (z0 z1 z2 z3 z4 z5 z6 z7 a0 a1 a2 a3 a4 a5 a6 a7 : Value) {o : Nat} (h : X.length = o) : ((((((((X ++ [z0, z1, z2, z3, z4, z5, z6, z7]).set o a0).set (o + 1) a1).set (o + 2) a2).set (o + 3) a3).set (o + 4) a4).set (o + 5) a5).set (o + 6) a6).set (o + 7) a7 = X ++ [a0, a1, a2, a3, a4, a5, a6, a7] := by
  rw [List.set_append_right _ _ (by omega), List.set_append_right _ _ (by omega), List.set_append_right _ _ (by omega), List.set_append_right _ _ (by omega), List.set_append_right _ _ (by omega), List.set_append_right _ _ (by omega), List.set_append_right _ _ (by omega), List.set_append_right _ _ (by omega), h]
  simp only [Nat.sub_self, Nat.add_sub_cancel_left]
  rfl
theorem OwnG.setAt {W : World} {base n c g : Nat} {e : TypeId} {size : Nat} {xs : List Value} (h : OwnG W base e size (.slice (some ⟨g, 0, none⟩) n c) n xs) (i : Nat) (x : Value) :
    OwnG (W.setCell ⟨g, i, none⟩ x) base e size (.slice (some ⟨g, 0, none⟩) n c) n (xs.set i x) := by
  rcases h.2 with ⟨h0, _⟩ | ⟨g', cap, cur, e, hg, hbk, hnc, hcm, hcs, ht⟩
  · cases h0
  · cases e
    refine ⟨by rw [List.length_set]; exact h.1, .inr ⟨g, c, cur.setIfInBounds i x, rfl, hg, heap_setCell_same W g i cur _ x hbk, hnc, hcm, by rw [Array.size_setIfInBounds]; exact hcs, ?_⟩⟩
    rw [Array.toList_setIfInBounds, ← ht, List.take_set]
theorem OwnG.ice {W : World} {base n c g : Nat} {e : TypeId} {size : Nat} {xs : List Value} (h : OwnG W base e size (.slice (some ⟨g, 0, none⟩) n c) n xs) (i : Nat) : W.frozen? ⟨g, i, none⟩ = false := by
  rcases h.2 with ⟨h0, _⟩ | ⟨g', cap, cur, e, hg, hbk, hnc, hcm, hcs, ht⟩
  · cases h0
  · cases e; exact frozen_of_row W _ _ _ _ hbk
/-- an arm is stored over the zero arm that was appended -/
theorem arm_over {W w6 : World} {base nn g6 cap6 : Nat} {X : List Value} {row : Option Nat} (h : OwnG w6 base 37 8 (.slice (some ⟨g6, 0, none⟩) (nn + 1) cap6) (nn + 1) (X ++ [.slice none 0 0, .int .i64 0, .bool false, .slice none 0 0, .slice none 0 0, .slice none 0 0, .slice none 0 0, .slice none 0 0])) (hX : X.length = nn * 8) (hg : W.grownBy w6 row) (hr : row = some g6 ∨ W.heap.size ≤ g6) (a0 a1 a2 a3 a4 a5 a6 a7 : Value) :
    OwnG (put8 w6 g6 (nn * 8) a0 a1 a2 a3 a4 a5 a6 a7) base 37 8 (.slice (some ⟨g6, 0, none⟩) (nn + 1) cap6) (nn + 1) (X ++ (a0 :: [a1, a2, a3, a4, a5, a6, a7])) ∧ W.grownBy (put8 w6 g6 (nn * 8) a0 a1 a2 a3 a4 a5 a6 a7) row := by
  refine ⟨?_, ?_⟩
  · have := (((((((h.setAt (nn * 8) a0).setAt (nn * 8 + 1) a1).setAt (nn * 8 + 2) a2).setAt (nn * 8 + 3) a3).setAt (nn * 8 + 4) a4).setAt (nn * 8 + 5) a5).setAt (nn * 8 + 6) a6).setAt (nn * 8 + 7) a7
    rw [set_arm X _ _ _ _ _ _ _ _ _ _ _ _ _ _ _ _ hX] at this
    exact this
  · have hk : ∀ k, k ≠ g6 → (put8 w6 g6 (nn * 8) a0 a1 a2 a3 a4 a5 a6 a7).heap[k]? = w6.heap[k]? := fun k hk => by
      unfold put8
      rw [Below.heap_setCell _ _ _ _ hk, Below.heap_setCell _ _ _ _ hk, Below.heap_setCell _ _ _ _ hk, Below.heap_setCell _ _ _ _ hk, Below.heap_setCell _ _ _ _ hk, Below.heap_setCell _ _ _ _ hk, Below.heap_setCell _ _ _ _ hk, Below.heap_setCell _ _ _ _ hk]
    have hb : Below 0 w6 (put8 w6 g6 (nn * 8) a0 a1 a2 a3 a4 a5 a6 a7) := ((((((((Below.refl 0 w6).setCell (p := ⟨g6, _, none⟩) (Nat.zero_le _) _).setCell (p := ⟨g6, _, none⟩) (Nat.zero_le _) _).setCell (p := ⟨g6, _, none⟩) (Nat.zero_le _) _).setCell (p := ⟨g6, _, none⟩) (Nat.zero_le _) _).setCell (p := ⟨g6, _, none⟩) (Nat.zero_le _) _).setCell (p := ⟨g6, _, none⟩) (Nat.zero_le _) _).setCell (p := ⟨g6, _, none⟩) (Nat.zero_le _) _).setCell (p := ⟨g6, _, none⟩) (Nat.zero_le _) _
    exact ⟨hb.os.trans hg.os, hb.tape.trans hg.tape, hb.output.trans hg.output, Nat.le_trans hg.size hb.size, fun k h1 h2 => (hk k (fun e => by
      rcases hr with e2 | e2
      · rw [e, e2] at h2; exact h2 rfl
      · omega)).trans (hg.block k h1 h2)⟩
theorem arm_cells {w6 : World} {base nn g6 cap6 : Nat} {X : List Value} (h : OwnG w6 base 37 8 (.slice (some ⟨g6, 0, none⟩) (nn + 1) cap6) (nn + 1) (X ++ [.slice none 0 0, .int .i64 0, .bool false, .slice none 0 0, .slice none 0 0, .slice none 0 0, .slice none 0 0, .slice none 0 0])) (hX : X.length = nn * 8) (j : Nat) (v : Value) (hj : ([.slice none 0 0, .int .i64 0, .bool false, .slice none 0 0, .slice none 0 0, .slice none 0 0, .slice none 0 0, .slice none 0 0] : List Value)[j]? = some v) : w6.cell? ⟨g6, nn * 8 + j, none⟩ = some v :=
  h.cells _ _ (by rw [List.getElem?_append_right (by omega), hX, Nat.add_sub_cancel_left]; exact hj)
theorem leaf_at (W : World) (S : Nat → Prop) : CmdAt W S [.int .i64 5, .bool false, .slice none 0 0, .slice none 0 0, .slice none 0 0, .slice none 0 0, .slice none 0 0] (CmdT.leaf 5) :=
  CmdAt.of (RdG.nil _ _ _ _) (RdG.nil _ _ _ _) (RdG.nil _ _ _ _) (kc := []) (RdG.nil _ _ _ _) KidsAt.nil (pc := []) (bc := []) (RdG.nil _ _ _ _) ArmsAt.nil
section
variable {pb d g cap : Nat} {T : List (Int × ByteArray)} {C : Nat → PR CmdT} {rb cb base : Nat} {kind : Int} {no : Bool} {V : Nat → Value} {N : Nat → Nat} {X : Nat → List Value} {col : Nat → Nat} {fz : Nat → Bool} {az ws : List ByteArray} {rs : List (ByteArray × ByteArray)} {kids : List CmdT} {pats : List (List ByteArray)} {bodies : List CmdT}
set_option maxRecDepth 100000 in
set_option maxHeartbeats 8000000 in
theorem arm_any (i0 : Nat) (HLI : FnOK 91 pb T g cap d i0 (lisP T C)) (i : Nat) (w : World) (hi : i0 ≤ i) (h : PAt w pb T i d g cap) (hbt : BT w rb cb base kind no fz az ws rs kids pats bodies V N X col) (hz : fz 6 = false) (hp : pb < base) (hg : g < base) (hr6 : pats.length ≤ 5001) :
    Calls Tryz.prog 97 #[.pointer (some ⟨pb, 0, none⟩), .pointer (some ⟨cb, 0, none⟩)] w fun e w' => ArmA pb T g cap i d rb cb base kind no fz az ws rs kids pats bodies w (armP T C i) e w' := by
  obtain ⟨R, hR⟩ : ∃ R, armP T C i = R := ⟨_, rfl⟩
  rw [hR]
  unfold armP at hR
  have HLI := Lib.hid HLI
  have HBT := Lib.hid hbt
  have hbl := h.blt
  have hb1 := h.p1
  have hcbw := lt_of_block hbt.1.row
  have hbw : base ≤ w.heap.size := Nat.le_trans hbt.1.hc (Nat.le_of_lt hcbw)
  obtain ⟨i9, hi9, hz90, hz91, hz92⟩ := info_parts Tryz.info9
  obtain ⟨i37, hi37, hz70, hz71, hz72⟩ := info_parts Tryz.info37
  have HO := Lib.hid (op_any bOpen (h.alloc (.cells #[.slice none 0 0, .int .i64 0, .bool false, .slice none 0 0, .slice none 0 0, .slice none 0 0, .slice none 0 0, .slice none 0 0] 37)))
  obtain ⟨b, hb⟩ : ∃ b, isO T i bOpen = b := ⟨_, rfl⟩
  rw [hb] at HO hR
  have hR2 : ((textP T (bump b i)).bind fun x j => (patF T (T.length + 1) j [x]).bind fun ps j => armE T C ps j) = R := hR
  obtain ⟨j0, hj0⟩ : ∃ j0, bump b i = j0 := ⟨_, rfl⟩
  have hij : i ≤ j0 := by rw [← hj0]; unfold bump; split <;> omega
  rw [hj0] at HO hR2
  have HR := Lib.hid hR2
  unfold bOpen at HO
  clear hR hR2 hb hj0 hbt
  go_enter Tryz.func97, Tryz.ntmps97
  go_wp2_with fail
  refine HO.out.mono ?_
  rintro e w2 ⟨rfl, hp2, hk2⟩
  have hk02 : Kept (Own1 pb) w w2 := ((Kept.refl _ w).alloc _).trans hk2
  have ha2 : AT w2 w.heap.size w.heap.size (.slice none 0 0) [.int .i64 0, .bool false, .slice none 0 0, .slice none 0 0, .slice none 0 0, .slice none 0 0, .slice none 0 0] [] := ⟨(hk2.block _ (by simp) (by show ¬ _ = pb; omega)).trans (heap_alloc_last w _), OwnG.nil _ _ _ _, Nat.le_refl _⟩
  have HP2 := Lib.hid hp2
  have HK2 := Lib.hid hk02
  have HA2 := Lib.hid ha2
  clear hp2 hk2 hk02 ha2
  go_upto_region 3 with fail
  go_cut [] from 15 (fun wi => Hid (∃ (x : ByteArray) (np cp : Nat) (Ap : Option Addr), textP T j0 = .ok x (j0 + 1) ∧ PAt wi pb T (j0 + 1) d g cap ∧ AT wi w.heap.size w.heap.size (.slice Ap np cp) [.int .i64 0, .bool false, .slice none 0 0, .slice none 0 0, .slice none 0 0, .slice none 0 0, .slice none 0 0] [x] ∧ Kept (Own1 pb) w wi))
  case first =>
    obtain ⟨Ap, hAp⟩ : ∃ A : Option Addr, A = none := ⟨_, rfl⟩
    obtain ⟨np, hnp⟩ : ∃ n : Nat, n = ([] : List ByteArray).length := ⟨_, rfl⟩
    obtain ⟨cp, hcp⟩ : ∃ n : Nat, n = 0 := ⟨_, rfl⟩
    have hnp0 : np = 0 := hnp
    have HA2 : Hid (AT w2 w.heap.size w.heap.size (.slice Ap np cp) [.int .i64 0, .bool false, .slice none 0 0, .slice none 0 0, .slice none 0 0, .slice none 0 0, .slice none 0 0] []) := by rw [hAp, hnp0, hcp]; exact HA2
    have HNP := Lib.hid hnp
    have hnp2 : np ≤ 5001 := by omega
    clear hAp hcp hnp hnp0
    have HTXW := Lib.hid (text_any (HP2.out.drewN 1))
    obtain ⟨r, hr⟩ : ∃ r, textP T j0 = r := ⟨_, rfl⟩
    have HRR := Lib.hid hr
    rw [hr] at HTXW
    have hjr : ∀ x k, r = .ok x k → k = j0 + 1 := by
      intro x k e
      rw [e] at hr
      unfold textP at hr
      split at hr
      · cases hr; rfl
      · cases hr
    have HTXW : Hid (Calls Tryz.prog 93 #[.pointer (some ⟨pb, 0, none⟩)] w2.drew (PaR pb T g cap j0 d w2.drew (fun _ u s => u = .string s) r)) := HTXW
    clear hr
    have k5 := HA2.out.ops.2.2.2.1
    cases r with
    | err n =>
      clear hjr
      go_upto_region 3 with fail
      go_region_dies
      all_goals
        go_at_call 93
        refine HTXW.out.mono ?_
        rintro e w4 ⟨hk4, k2, rfl⟩
        have e : R = .err n := (by have := HR.out; rw [HRR.out] at this; exact this.symm)
        subst e
        exact ⟨rfl, (HK2.out.drew.trans hk4).mono (fun k e _ => .inl e), _, rfl⟩
    | ok x1 jx =>
      obtain rfl : jx = j0 + 1 := hjr x1 jx rfl
      clear hjr
      go_upto_region 3 with fail
      first | (go_region_law (first
        | (refine step_append_G rfl _ _ 22 rfl w.heap.size 9 i9 (.string ⟨#[]⟩) 1 16 Tryz.underlying22 hi9 hz90 hz91 hz92 rfl (.slice Ap np cp) np (strV []) rfl (hO.out _) ⟨w4.heap.size, 0, none⟩ 1 1 [.string x1] rfl rfl (World.news_of_block (heap_alloc_last w4 _)) (by simp [Value.oneCell']) (by decide) (by unfold maxLen; omega) (by omega) (by simp; omega) ?_; intro g6 cap6 w6 hown6 hgrow6 hnew6 _; obtain ⟨j1', j2'⟩ := HJ.out _ _ hgrow6; have HYA := Lib.hid (HXX.out _ _ _ hgrow6 hown6 (fun k hk => by have e6 : g6 = k := (by simpa [Value.ownBlock] using hk); rw [← e6]; exact hnew6)); clear hown6 hgrow6 hnew6)
        | (go_simp; go_at_call 93; refine HTXW.out.mono ?_; rintro e w4 ⟨hk4, u, rfl, rfl, hp4, _⟩; have hk34 : Kept (Own1 pb) w2 w4 := (Kept.refl _ _).drew.trans hk4; have ha4 := HA2.out.keep hk34 (by intro k (e : k = pb); omega); obtain ⟨hO, ka5, hJ, kk5, kf5, hbs⟩ := ha4.ops; have hO : Hid (∀ o, OwnG (w4.alloc o) w.heap.size 9 1 (.slice Ap np cp) np (strV [])) := Lib.hid (by rw [HNP.out]; rw [HNP.out] at hO; exact hO); have HJ := Lib.hid hJ; have HXX := Lib.hid fun (o : Obj) (w6 : World) (v' : Value) (hg : (w4.alloc o).grownBy w6 (Value.slice Ap np cp).ownBlock) (ho : OwnG w6 w.heap.size 9 1 v' (np + 1) (strV [] ++ [.string x1])) hn => ha4.push (v' := v') (o := o) (n' := np + 1) x1 hg ho (by rw [HNP.out]) hn; have HP4 := Lib.hid hp4; have HK4 := Lib.hid (HK2.out.trans hk34); have HTC : Hid (∀ k, (k = w.heap.size ∨ (Value.slice Ap np cp).ownBlock = some k) → w.heap.size ≤ k) := Lib.hid (fun k e => e.elim (fun e => Nat.le_of_eq e.symm) fun e => (ha4.own.block_lt k e).1); clear hJ ha4 hk34 hk4 hp4)
        | fail)) | fail
      all_goals
        have HK6 := Lib.hid (HK4.out.on HYA.out.2 (fun k e => .inr (HTC.out k e)))
        have HP6 := Lib.hid (HP4.out.keep HYA.out.2 (fun e => by have := HTC.out _ e; omega) (fun e => by have := HTC.out _ e; omega) (fun e => by have := HTC.out _ e; omega))
        go_wp2
        go_meet
        case rel => exact ⟨x1, _, _, _, HRR.out, HP6.out, HYA.out.1, HK6.out⟩
  case rest =>
    obtain ⟨x, np0, cp0, Ap0, htx, hp3, ha3, hk3⟩ := hcut.out
    have HR2 : Hid (((patF T (T.length + 1) (j0 + 1) [x]).bind fun ps j => armE T C ps j) = R) := by
      have hx := HR.out
      rw [htx] at hx
      exact hx
    have HP3 := Lib.hid hp3
    have HA3 := Lib.hid ha3
    have HK3 := Lib.hid hk3
    clear hcut htx hp3 ha3 hk3 HP2 HK2 HA2 HO
    go_wp2
    go_loopw [] (fun wi => ∃ (j f : Nat) (ps : List ByteArray) (np cp : Nat) (Ap : Option Addr), PAt wi pb T j d g cap ∧ AT wi w.heap.size w.heap.size (.slice Ap np cp) [.int .i64 0, .bool false, .slice none 0 0, .slice none 0 0, .slice none 0 0, .slice none 0 0, .slice none 0 0] ps ∧ Kept (Own1 pb) w wi ∧ i < j ∧ T.length < f + j ∧ ps.length ≤ j ∧ Hid (((patF T f j ps).bind fun ps j => armE T C ps j) = R)) (fun wi => T.length - iOf wi pb)
    case atStart => exact ⟨j0 + 1, T.length + 1, [x], _, _, _, HP3.out, HA3.out, HK3.out, by omega, by omega, by simp, HR2⟩
    case round =>
      clear HP3 HA3 HK3 HR2 HR
      obtain ⟨j, f, ps, np, cp, Ap, hp, ha, hk, hij2, hf, hlen, hr⟩ := hrel
      have hlt := hp.lt
      have hsm := hp.small
      obtain ⟨f, rfl⟩ : ∃ g, f = g + 1 := ⟨f - 1, by omega⟩
      have hst := hr.out
      rw [patF] at hst
      have HM := Lib.hid (iOf_p hp)
      have HNP := Lib.hid ha.np
      have hnp2 : np ≤ 5001 := by rw [ha.np]; omega
      have HA5 := Lib.hid ha
      have HK5 := Lib.hid hk
      have HOP := Lib.hid (op_any bPipe hp)
      obtain ⟨o1, ho1⟩ : ∃ o, isO T j bPipe = o := ⟨_, rfl⟩
      rw [ho1] at HOP hst
      unfold bPipe at HOP
      clear hr hp ha hk ho1
      cases o1 with
      | true =>
        rw [if_pos rfl] at hst
        have hst' : ((textP T (j + 1)).bind fun x j => (patF T f j (ps ++ [x])).bind fun ps j => armE T C ps j) = R := by
          rw [← hst]
          cases textP T (j + 1) <;> rfl
        have HST := Lib.hid hst'
        have HSTQ := HST
        clear hst hst'
        go_wp2_with fail
        refine HOP.out.mono ?_
        rintro e w6 ⟨rfl, hp6, hk6⟩
        have HP6a := Lib.hid (show PAt w6 pb T (j + 1) d g cap from hp6)
        have HK6a := Lib.hid (HK5.out.trans hk6)
        have HA6a := Lib.hid (HA5.out.keep hk6 (by intro k (e : k = pb); omega))
        clear hp6 hk6
        have HTXW := Lib.hid (text_any (HP6a.out.drewN 1))
        obtain ⟨r, hr⟩ : ∃ r, textP T (j + 1) = r := ⟨_, rfl⟩
        have HRR := Lib.hid hr
        rw [hr] at HTXW
        have hjr : ∀ x k, r = .ok x k → k = (j + 1) + 1 := by
          intro x k e
          rw [e] at hr
          unfold textP at hr
          split at hr
          · cases hr; rfl
          · cases hr
        have HTXW : Hid (Calls Tryz.prog 93 #[.pointer (some ⟨pb, 0, none⟩)] w6.drew (PaR pb T g cap (j + 1) d w6.drew (fun _ u s => u = .string s) r)) := HTXW
        clear hr
        have k5 := HA6a.out.ops.2.2.2.1
        cases r with
        | err n =>
          clear hjr
          go_upto_region 5 with fail
          go_region_dies
          all_goals
            go_at_call 93
            refine HTXW.out.mono ?_
            rintro e w4 ⟨hk4, k2, rfl⟩
            have e : R = .err n := (by have := HSTQ.out; rw [HRR.out] at this; exact this.symm)
            subst e
            first | exact ⟨rfl, (HK6a.out.drew.trans hk4).mono (fun k e _ => .inl e), _, rfl⟩ | (show bodyPost _ _ _ (Exit.panic _) _ _; exact ⟨rfl, (HK6a.out.drew.trans hk4).mono (fun k e _ => .inl e), _, rfl⟩) | (go_wp2; exact ⟨rfl, (HK6a.out.drew.trans hk4).mono (fun k e _ => .inl e), _, rfl⟩)
        | ok x1 jx =>
          obtain rfl : jx = (j + 1) + 1 := hjr x1 jx rfl
          clear hjr
          go_upto_region 5 with fail
          first | (go_region_law (first
            | (refine step_append_G rfl _ _ 22 rfl w.heap.size 9 i9 (.string ⟨#[]⟩) 1 16 Tryz.underlying22 hi9 hz90 hz91 hz92 rfl (.slice Ap np cp) np (strV ps) rfl (hO.out _) ⟨w4.heap.size, 0, none⟩ 1 1 [.string x1] rfl rfl (World.news_of_block (heap_alloc_last w4 _)) (by simp [Value.oneCell']) (by decide) (by unfold maxLen; omega) (by omega) (by simp; omega) ?_; intro g6 cap6 w6 hown6 hgrow6 hnew6 _; obtain ⟨j1', j2'⟩ := HJ.out _ _ hgrow6; have HYA := Lib.hid (HXX.out _ _ _ hgrow6 hown6 (fun k hk => by have e6 : g6 = k := (by simpa [Value.ownBlock] using hk); rw [← e6]; exact hnew6)); clear hown6 hgrow6 hnew6)
            | (go_simp; go_at_call 93; refine HTXW.out.mono ?_; rintro e w4 ⟨hk4, u, rfl, rfl, hp4, _⟩; have hk34 : Kept (Own1 pb) w6 w4 := (Kept.refl _ _).drew.trans hk4; have ha4 := HA6a.out.keep hk34 (by intro k (e : k = pb); omega); obtain ⟨hO, ka5, hJ, kk5, kf5, hbs⟩ := ha4.ops; have hO : Hid (∀ o, OwnG (w4.alloc o) w.heap.size 9 1 (.slice Ap np cp) np (strV ps)) := Lib.hid (by rw [HNP.out]; rw [HNP.out] at hO; exact hO); have HJ := Lib.hid hJ; have HXX := Lib.hid fun (o : Obj) (w6 : World) (v' : Value) (hg : (w4.alloc o).grownBy w6 (Value.slice Ap np cp).ownBlock) (ho : OwnG w6 w.heap.size 9 1 v' (np + 1) (strV ps ++ [.string x1])) hn => ha4.push (v' := v') (o := o) (n' := np + 1) x1 hg ho (by rw [HNP.out]) hn; have HP4 := Lib.hid hp4; have HK4 := Lib.hid (HK6a.out.trans hk34); have HTC : Hid (∀ k, (k = w.heap.size ∨ (Value.slice Ap np cp).ownBlock = some k) → w.heap.size ≤ k) := Lib.hid (fun k e => e.elim (fun e => Nat.le_of_eq e.symm) fun e => (ha4.own.block_lt k e).1); clear hJ ha4 hk34 hk4 hp4)
            | fail)) | fail
          all_goals
            have HK6 := Lib.hid (HK4.out.on HYA.out.2 (fun k e => .inr (HTC.out k e)))
            have HP6 := Lib.hid (HP4.out.keep HYA.out.2 (fun e => by have := HTC.out _ e; omega) (fun e => by have := HTC.out _ e; omega) (fun e => by have := HTC.out _ e; omega))
            have HM6 := Lib.hid (iOf_p HP6.out)
            have hlt6 := HP6.out.lt
            have HS6 : Hid (((patF T f (j + 1 + 1) (ps ++ [x1])).bind fun ps j => armE T C ps j) = R) := by
              have hx := HST.out
              rw [HRR.out] at hx
              exact hx
            go_wp2
            exact ⟨⟨j + 1 + 1, f, ps ++ [x1], np + 1, cap6, some ⟨g6, 0, none⟩, HP6.out, HYA.out.1, HK6.out, by omega, by omega, by simp; omega, HS6⟩, by rw [HM.out, HM6.out]; omega⟩
      | false =>
        rw [if_neg (by decide)] at hst
        have HR9 : Hid (((mustO T j bShut).bind fun _ j =>
          (if begP T (lineP T j) then lisP T C (lineP T j) else .ok (CmdT.leaf 5) (lineP T j)).bind fun b j => armG T ps b j) = R) := hst
        clear hst
        go_wp2_with fail
        refine HOP.out.mono ?_
        rintro e w6 ⟨rfl, hp6, hk6⟩
        have HP6a := Lib.hid (show PAt w6 pb T j d g cap from hp6)
        have HK6a := Lib.hid (HK5.out.trans hk6)
        have HA6a := Lib.hid (HA5.out.keep hk6 (by intro k (e : k = pb); omega))
        clear hp6 hk6
        have HWD := Lib.hid (op_any bShut HP6a.out)
        obtain ⟨qb, hqb⟩ : ∃ q, isO T j bShut = q := ⟨_, rfl⟩
        rw [hqb] at HWD
        have hrr := HR9.out
        unfold mustO at hrr
        rw [hqb] at hrr
        unfold bShut at HWD
        clear hqb
        cases qb with
        | false =>
          have e : R = .err 31 := hrr.symm
          subst e
          clear hrr
          go_wp2_with fail
          refine HWD.out.mono ?_
          rintro e w8 ⟨rfl, hp8, hk8⟩
          have HMU := Lib.hid (must_any false hp8)
          have HK8 := Lib.hid (HK6a.out.trans hk8)
          clear hp8 hk8
          go_wp2_with fail
          refine HMU.out.mono ?_
          rintro e w9 ⟨hw9, rfl⟩
          obtain rfl := hw9.symm
          go_wp2
          exact ⟨rfl, HK8.out.mono (fun k e _ => .inl e), _, rfl⟩
        | true =>
          have HR9' := Lib.hid hrr
          clear hrr
          go_wp2_with fail
          refine HWD.out.mono ?_
          rintro e w8 ⟨rfl, hp8, hk8⟩
          have HP6an := Lib.hid (show PAt w8 pb T (j + 1) d g cap from hp8)
          have HMU := Lib.hid (must_any true hp8)
          have HK6an := Lib.hid (HK6a.out.trans hk8)
          have HA6an := Lib.hid (HA6a.out.keep hk8 (by intro k (e : k = pb); omega))
          clear hp8 hk8
          go_wp2_with fail
          refine HMU.out.mono ?_
          rintro e w9 ⟨hw9, rfl⟩
          obtain rfl := hw9.symm
          have HL := Lib.hid (lines_any HP6an.out)
          obtain ⟨j2, hj2⟩ : ∃ j2, lineP T (j + 1) = j2 := ⟨_, rfl⟩
          have hx := HR9'.out
          rw [hj2] at HL
          have hx : ((if begP T j2 then lisP T C j2 else .ok (CmdT.leaf 5) j2).bind fun b j => armG T ps b j) = R := by rw [← hj2]; exact hx
          have HR10 := Lib.hid hx
          clear hx hj2 HR9'
          go_wp2_with fail
          refine HL.out.mono ?_
          rintro e w10 ⟨rfl, hp10, hk10, hl10⟩
          have ha10 := HA6an.out.keep hk10 (by intro k (e : k = pb); omega)
          have hbd := ha10.body (.int .i64 5) (.bool false) (.slice none 0 0) (.slice none 0 0) (.slice none 0 0) (.slice none 0 0) (.slice none 0 0)
          obtain ⟨w11, hw11⟩ : ∃ w11, putB w10 w.heap.size (.int .i64 5) (.bool false) (.slice none 0 0) (.slice none 0 0) (.slice none 0 0) (.slice none 0 0) (.slice none 0 0) = w11 := ⟨_, rfl⟩
          rw [hw11] at hbd
          have HP11 := Lib.hid (hp10.keep hbd.2 (by show ¬ pb = _; omega) (by show ¬ g = _; omega) (by show ¬ 1 = _; omega))
          have HK11 := Lib.hid ((HK6an.out.trans hk10).on hbd.2 (fun k e => .inr (Nat.le_of_eq e.symm)))
          have HA11 := Lib.hid hbd.1
          unfold putB at hw11
          have HW11 := Lib.hid hw11
          have row10 := ha10.row
          obtain ⟨y1, g1⟩ := rowc row10 (j := 1) (v := .int .i64 0) rfl
          obtain ⟨y2, g2⟩ := rowc row10 (j := 2) (v := .bool false) rfl
          obtain ⟨y3, g3⟩ := rowc row10 (j := 3) (v := .slice none 0 0) rfl
          obtain ⟨y4, g4⟩ := rowc row10 (j := 4) (v := .slice none 0 0) rfl
          obtain ⟨y5, g5⟩ := rowc row10 (j := 5) (v := .slice none 0 0) rfl
          obtain ⟨y6, g6⟩ := rowc row10 (j := 6) (v := .slice none 0 0) rfl
          obtain ⟨y7, g7⟩ := rowc row10 (j := 7) (v := .slice none 0 0) rfl
          clear hp10 hk10 ha10 hbd hw11 row10
          go_upto_region 9 with fail
          rw [HW11.out]
          clear HW11 y1 y2 y3 y4 y5 y6 y7 g1 g2 g3 g4 g5 g6 g7
          have HBG := Lib.hid (begins_any HP11.out)
          obtain ⟨qb2, hqb2⟩ : ∃ q, begP T j2 = q := ⟨_, rfl⟩
          have hst := HR10.out
          rw [hqb2] at HBG hst
          clear hqb2 HR10
          go_wp2_with fail
          refine HBG.out.mono ?_
          rintro e w12 ⟨rfl, m, hw12⟩
          have HP12 := Lib.hid (by rw [hw12]; exact HP11.out.drewN m : PAt w12 pb T j2 d g cap)
          have HK12 := Lib.hid (by rw [hw12]; exact HK11.out.drewN m : Kept (Own1 pb) w w12)
          have HA12 := Lib.hid (by rw [hw12]; exact HA11.out.keep (T := fun _ => False) ((Kept.refl _ _).drewN m) (fun _ e => e.elim) : AT w12 w.heap.size w.heap.size (.slice Ap np cp) [.int .i64 5, .bool false, .slice none 0 0, .slice none 0 0, .slice none 0 0, .slice none 0 0, .slice none 0 0] ps)
          clear hw12 HP11 HK11 HA11 HBG
          go_upto_if 33 with fail
          go_cut [] from 37 (fun wi => Hid (∃ (b : CmdT) (kc0 : Int) (nc0 : Bool) (B2 : Option Addr) (q2 p2 : Nat) (B3 : Option Addr) (q3 p3 : Nat) (B4 : Option Addr) (q4 p4 : Nat) (B5 : Option Addr) (q5 p5 : Nat) (B6 : Option Addr) (q6 p6 : Nat) (j3 : Nat), PAt wi pb T j3 d g cap ∧ AT wi w.heap.size w.heap.size (.slice Ap np cp) [.int .i64 kc0, .bool nc0, .slice B2 q2 p2, .slice B3 q3 p3, .slice B4 q4 p4, .slice B5 q5 p5, .slice B6 q6 p6] ps ∧ CmdAt wi (fun k => w.heap.size ≤ k ∧ k < wi.heap.size ∧ k ≠ w.heap.size) [.int .i64 kc0, .bool nc0, .slice B2 q2 p2, .slice B3 q3 p3, .slice B4 q4 p4, .slice B5 q5 p5, .slice B6 q6 p6] b ∧ Kept (Own1 pb) w wi ∧ i < j3 ∧ Hid (armG T ps b j3 = R)))
          case first =>
            cases qb2 with
            | false =>
              have HRf : Hid (armG T ps (CmdT.leaf 5) j2 = R) := hst
              clear hst
              go_wp2
              go_meet
              case rel => exact ⟨_, _, _, _, _, _, _, _, _, _, _, _, _, _, _, _, _, _, j2, HP12.out, HA12.out, leaf_at _ _, HK12.out, by omega, HRf⟩
            | true =>
              rw [if_pos rfl] at hst
              have HLW := Lib.hid (HLI.out j2 _ (by omega) HP12.out)
              obtain ⟨r, hr⟩ : ∃ r, lisP T C j2 = r := ⟨_, rfl⟩
              rw [hr] at HLW hst
              clear hr
              cases r with
              | err n =>
                have e : R = .err n := hst.symm
                subst e
                clear hst
                go_wp2_with fail
                refine HLW.out.mono ?_
                rintro e w13 ⟨hk4, k2, rfl⟩
                have HK9 := Lib.hid (HK12.out.trans hk4)
                clear hk4
                go_wp2
                exact ⟨rfl, HK9.out.mono (fun k e _ => .inl e), _, rfl⟩
              | ok c j3 =>
                have HRf : Hid (armG T ps c j3 = R) := hst
                clear hst
                go_wp2_with fail
                refine HLW.out.mono ?_
                rintro e w13 ⟨hk4, u, rfl, ⟨cs, rfl, hc4⟩, hp4, hj3⟩
                obtain ⟨kc0, nc0, B2, q2, p2, B3, q3, p3, B4, q4, p4, B5, q5, p5, B6, q6, p6, rfl⟩ := hc4.lit
                have ha13 := HA12.out.keep hk4 (by intro k (e : k = pb); omega)
                have hs12 : w.heap.size < w12.heap.size := lt_of_block HA12.out.row
                have hbd := ha13.body (.int .i64 kc0) (.bool nc0) (.slice B2 q2 p2) (.slice B3 q3 p3) (.slice B4 q4 p4) (.slice B5 q5 p5) (.slice B6 q6 p6)
                obtain ⟨w14, hw14⟩ : ∃ w14, putB w13 w.heap.size (.int .i64 kc0) (.bool nc0) (.slice B2 q2 p2) (.slice B3 q3 p3) (.slice B4 q4 p4) (.slice B5 q5 p5) (.slice B6 q6 p6) = w14 := ⟨_, rfl⟩
                rw [hw14] at hbd
                have HP14 := Lib.hid (hp4.keep hbd.2 (by show ¬ pb = _; omega) (by show ¬ g = _; omega) (by show ¬ 1 = _; omega))
                have HK14 := Lib.hid ((HK12.out.trans hk4).on hbd.2 (fun k e => .inr (Nat.le_of_eq e.symm)))
                have HC14 : Hid (CmdAt w14 (fun k => w.heap.size ≤ k ∧ k < w14.heap.size ∧ k ≠ w.heap.size) [.int .i64 kc0, .bool nc0, .slice B2 q2 p2, .slice B3 q3 p3, .slice B4 q4 p4, .slice B5 q5 p5, .slice B6 q6 p6] c) := hc4.move (fun k e => ⟨by omega, Nat.lt_of_lt_of_le e.2 hbd.2.size, by omega⟩) (fun k e => hbd.2.block k e.2 (by show ¬ k = _; omega))
                have HA14 := Lib.hid hbd.1
                unfold putB at hw14
                have HW14 := Lib.hid hw14
                have row10 := ha13.row
                obtain ⟨y1, g1⟩ := rowc row10 (j := 1) (v := .int .i64 5) rfl
                obtain ⟨y2, g2⟩ := rowc row10 (j := 2) (v := .bool false) rfl
                obtain ⟨y3, g3⟩ := rowc row10 (j := 3) (v := .slice none 0 0) rfl
                obtain ⟨y4, g4⟩ := rowc row10 (j := 4) (v := .slice none 0 0) rfl
                obtain ⟨y5, g5⟩ := rowc row10 (j := 5) (v := .slice none 0 0) rfl
                obtain ⟨y6, g6⟩ := rowc row10 (j := 6) (v := .slice none 0 0) rfl
                obtain ⟨y7, g7⟩ := rowc row10 (j := 7) (v := .slice none 0 0) rfl
                clear hk4 hp4 hc4 ha13 hbd hw14 row10
                go_wp2
                rw [HW14.out]
                go_meet
                case rel => exact ⟨_, _, _, _, _, _, _, _, _, _, _, _, _, _, _, _, _, _, j3, HP14.out, HA14.out, HC14.out, HK14.out, by omega, HRf⟩
          case rest =>
            obtain ⟨b, kc0, nc0, B2, q2, p2, B3, q3, p3, B4, q4, p4, B5, q5, p5, B6, q6, p6, j3, hp15, ha15, hc15, hk15, hij3, hr15⟩ := hcut.out
            clear hcut hst HP12 HK12 HA12 HA6an HK6an HP6an HL
            obtain ⟨V6A, V6n, hV6, _, _⟩ := (HBT.out.1.own 6 (by decide) (by decide)).form
            have hsz15 : w.heap.size ≤ wc.heap.size := hk15.size
            have hn6 : N 6 ≤ 5001 := by rw [HBT.out.2.n6]; exact hr6
            obtain ⟨nn, hnn⟩ : ∃ nn, N 6 = nn := ⟨_, rfl⟩
            rw [hnn] at hV6 hn6
            have hbt15 := HBT.out.keep hk15 (by intro k (e : k = pb); omega)
            have hx6 : (X 6).length = nn * 8 := by have := (HBT.out.1.own 6 (by decide) (by decide)).1; rw [hnn] at this; exact this
            have hown15 := hbt15.1.own 6 (by decide) (by decide)
            rw [hV6, hnn] at hown15
            have hO := Lib.hid fun o => (hown15.move (w' := wc.drew.alloc o) fun k e => Below.heap_alloc wc.drew o k (hown15.block_lt k e).2)
            have kv6 := (hbt15.1.ops 6 (by decide) (by decide) hz).2.2.2.1
            have kv6a := fun o => (hbt15.1.ops 6 (by decide) (by decide) hz).2.1 o
            rw [hV6] at kv6 kv6a
            have row15 := ha15.row
            have row15a := fun o => (Below.heap_alloc wc o w.heap.size (lt_of_block row15)).trans row15
            obtain ⟨x0, _⟩ := rowc row15 (j := 0) (v := .slice Ap np cp) rfl
            obtain ⟨x1, _⟩ := rowc row15 (j := 1) (v := .int .i64 kc0) rfl
            obtain ⟨x2, _⟩ := rowc row15 (j := 2) (v := .bool nc0) rfl
            obtain ⟨x3, _⟩ := rowc row15 (j := 3) (v := .slice B2 q2 p2) rfl
            obtain ⟨x4, _⟩ := rowc row15 (j := 4) (v := .slice B3 q3 p3) rfl
            obtain ⟨x5, _⟩ := rowc row15 (j := 5) (v := .slice B4 q4 p4) rfl
            obtain ⟨x6, _⟩ := rowc row15 (j := 6) (v := .slice B5 q5 p5) rfl
            obtain ⟨x7, _⟩ := rowc row15 (j := 7) (v := .slice B6 q6 p6) rfl
            have xa0 := fun o => (rowc (row15a o) (j := 0) (v := .slice Ap np cp) rfl).1
            have xa1 := fun o => (rowc (row15a o) (j := 1) (v := .int .i64 kc0) rfl).1
            have xa2 := fun o => (rowc (row15a o) (j := 2) (v := .bool nc0) rfl).1
            have xa3 := fun o => (rowc (row15a o) (j := 3) (v := .slice B2 q2 p2) rfl).1
            have xa4 := fun o => (rowc (row15a o) (j := 4) (v := .slice B3 q3 p3) rfl).1
            have xa5 := fun o => (rowc (row15a o) (j := 5) (v := .slice B4 q4 p4) rfl).1
            have xa6 := fun o => (rowc (row15a o) (j := 6) (v := .slice B5 q5 p5) rfl).1
            have xa7 := fun o => (rowc (row15a o) (j := 7) (v := .slice B6 q6 p6) rfl).1
            have hgc : ∀ o w6, (wc.drew.alloc o).grownBy w6 (Value.slice V6A nn V6n).ownBlock → w6.cell? ⟨cb, 6, none⟩ = some (.slice V6A nn V6n) ∧ w6.frozen? ⟨cb, 6, none⟩ = false := fun o w6 hg => by
              rw [← hV6] at hg ⊢
              exact rowc (hbt15.1.rowg (f := 6) (by decide) (by decide) hz ((Kept.refl (fun _ => False) wc).drew) (fun _ e => e.elim) hg) (j := 6) rfl
            have HGC := Lib.hid hgc
            have hvb := hbt15.1.cl 6 (by decide) (by decide)
            have HNE : Hid (∀ k, (Value.slice V6A nn V6n).ownBlock = some k → k ≠ cb) := fun k e e2 => by
              rw [← hV6] at e
              have := (hvb k e).elim id fun e => by rw [hz] at e; cases e.2
              rw [e2, hbt15.1.c1] at this; cases this
            have hcb15 : cb < wc.heap.size := lt_of_block hbt15.1.row
            have hpR : RdG wc.drew (fun k => w.heap.size ≤ k ∧ k < wc.drew.heap.size) 9 1 (.slice Ap np cp) ps.length (strV ps) := ⟨ha15.own.lower (Nat.zero_le _), fun k e => ha15.own.block_lt k e⟩
            have hcR : CmdAt wc.drew (fun k => w.heap.size ≤ k ∧ k < wc.drew.heap.size) [.int .i64 kc0, .bool nc0, .slice B2 q2 p2, .slice B3 q3 p3, .slice B4 q4 p4, .slice B5 q5 p5, .slice B6 q6 p6] b := hc15.move (fun k e => ⟨e.1, e.2.1⟩) fun _ _ => rfl
            have HFIN := Lib.hid fun (o : Obj) (w6 : World) (g6 cap6 : Nat) (hg : (wc.drew.alloc o).grownBy w6 (Value.slice V6A nn V6n).ownBlock) (hr : (Value.slice V6A nn V6n).ownBlock = some g6 ∨ g6 = (wc.drew.alloc o).heap.size) (h : OwnG w6 base 37 8 (.slice (some ⟨g6, 0, none⟩) (nn + 1) cap6) (nn + 1) (X 6 ++ [.slice none 0 0, .int .i64 0, .bool false, .slice none 0 0, .slice none 0 0, .slice none 0 0, .slice none 0 0, .slice none 0 0])) =>
              (show (∃ V N X col, BT ((put8 w6 g6 (nn * 8) (.slice Ap np cp) (.int .i64 kc0) (.bool nc0) (.slice B2 q2 p2) (.slice B3 q3 p3) (.slice B4 q4 p4) (.slice B5 q5 p5) (.slice B6 q6 p6)).setCell ⟨cb, 6, none⟩ (.slice (some ⟨g6, 0, none⟩) (nn + 1) cap6)) rb cb base kind no fz az ws rs kids (pats ++ [ps]) (bodies ++ [b]) V N X col) ∧
                Kept (OwnB pb base) w ((put8 w6 g6 (nn * 8) (.slice Ap np cp) (.int .i64 kc0) (.bool nc0) (.slice B2 q2 p2) (.slice B3 q3 p3) (.slice B4 q4 p4) (.slice B5 q5 p5) (.slice B6 q6 p6)).setCell ⟨cb, 6, none⟩ (.slice (some ⟨g6, 0, none⟩) (nn + 1) cap6)) ∧
                PAt ((put8 w6 g6 (nn * 8) (.slice Ap np cp) (.int .i64 kc0) (.bool nc0) (.slice B2 q2 p2) (.slice B3 q3 p3) (.slice B4 q4 p4) (.slice B5 q5 p5) (.slice B6 q6 p6)).setCell ⟨cb, 6, none⟩ (.slice (some ⟨g6, 0, none⟩) (nn + 1) cap6)) pb T j3 d g cap from by
                obtain ⟨h1, h2⟩ := arm_over h hx6 hg (hr.elim .inl fun e => .inr (Nat.le_of_eq e.symm)) (.slice Ap np cp) (.int .i64 kc0) (.bool nc0) (.slice B2 q2 p2) (.slice B3 q3 p3) (.slice B4 q4 p4) (.slice B5 q5 p5) (.slice B6 q6 p6)
                have hn : ∀ k, (Value.slice (some ⟨g6, 0, none⟩) (nn + 1) cap6).ownBlock = some k → (V 6).ownBlock = some k ∨ k = (wc.drew.alloc o).heap.size := fun k hk => by
                  have e6 : g6 = k := (by simpa [Value.ownBlock] using hk)
                  rw [← e6, hV6]; exact hr
                have h1' : OwnG (put8 w6 g6 (nn * 8) (.slice Ap np cp) (.int .i64 kc0) (.bool nc0) (.slice B2 q2 p2) (.slice B3 q3 p3) (.slice B4 q4 p4) (.slice B5 q5 p5) (.slice B6 q6 p6)) base 37 8 (.slice (some ⟨g6, 0, none⟩) (nn + 1) cap6) (N 6 + 1) (X 6 ++ (.slice Ap np cp :: [.int .i64 kc0, .bool nc0, .slice B2 q2 p2, .slice B3 q3 p3, .slice B4 q4 p4, .slice B5 q5 p5, .slice B6 q6 p6])) := by rw [hnn]; exact h1
                rw [← hV6] at h2
                have ha := HBT.out.arm (w3 := put8 w6 g6 (nn * 8) (.slice Ap np cp) (.int .i64 kc0) (.bool nc0) (.slice B2 q2 p2) (.slice B3 q3 p3) (.slice B4 q4 p4) (.slice B5 q5 p5) (.slice B6 q6 p6)) (v' := .slice (some ⟨g6, 0, none⟩) (nn + 1) cap6) (T := Own1 pb) hk15.drew (by intro k (e : k = pb); omega) hpR hcR hz h2 h1' hn
                have hp := ((HBT.out.keep hk15.drew (by intro k (e : k = pb); omega)).1.push (f := 6) (by decide) (by decide) hz (Kept.refl (fun _ => False) wc.drew) (fun _ e => e.elim) h2 h1' hn).2.1
                have htc := hbt15.1.touch 6 (by decide) (by decide)
                exact ⟨⟨_, _, _, _, ha.1⟩, ha.2.mono fun k e _ => e.elim .inl fun e => .inr (htc k (.inr e)), (hp15.drewN 1).keep hp (fun e => by have := htc _ e; omega) (fun e => by have := htc _ e; omega) (fun e => by have := htc _ e; omega)⟩)
            have HR15 := Lib.hid hr15.out
            have hq6 : ((nn : Nat) : Int) < (nn : Int) + 1 := by omega
            have hx6' := Lib.hid hx6
            have HSA : Hid (∀ o, (wc.drew.alloc o).heap.size = wc.heap.size + 1) := fun o => by simp
            clear hbt15 hown15 hpR hcR hc15 ha15 hk15 hp15 hr15 hgc hvb row15 row15a hV6 hnn hx6
            go_upto_region 11 with fail
            first | (go_region_law (first
              | (refine step_append_G rfl _ _ 26 rfl base 37 i37 (.agg #[.slice none 0 0, .int .i64 0, .bool false, .slice none 0 0, .slice none 0 0, .slice none 0 0, .slice none 0 0, .slice none 0 0]) 8 160 Tryz.underlying26 hi37 hz70 hz71 hz72 rfl (.slice V6A nn V6n) nn (X 6) rfl (hO.out _) ⟨wc.heap.size, 0, none⟩ 1 1 [.slice none 0 0, .int .i64 0, .bool false, .slice none 0 0, .slice none 0 0, .slice none 0 0, .slice none 0 0, .slice none 0 0] rfl rfl (World.news_of_block (heap_alloc_last wc.drew _)) (by simp [Value.oneCell']) (by decide) (by unfold maxLen; omega) (by omega) (by simp; omega) ?_; intro g6 cap6 w6 hown6 hgrow6 hnew6 _; obtain ⟨j1', j2'⟩ := HGC.out _ _ hgrow6; have HYF := Lib.hid (HFIN.out _ _ g6 cap6 hgrow6 hnew6 hown6); have hne6 : ¬ g6 = cb := (fun e => hnew6.elim (fun e2 => HNE.out _ e2 e) (fun e2 => absurd (e.symm.trans (e2.trans (HSA.out _))) (Nat.ne_of_lt (Nat.lt_succ_of_lt hcb15)))); have hne7 : ¬ cb = g6 := (fun e => hne6 e.symm); have l0 : w6.cell? ⟨g6, nn * 8, none⟩ = some (.slice none 0 0) := arm_cells hown6 hx6'.out 0 _ rfl; have l1 := arm_cells hown6 hx6'.out 1 _ rfl; have l2 := arm_cells hown6 hx6'.out 2 _ rfl; have l3 := arm_cells hown6 hx6'.out 3 _ rfl; have l4 := arm_cells hown6 hx6'.out 4 _ rfl; have l5 := arm_cells hown6 hx6'.out 5 _ rfl; have l6 := arm_cells hown6 hx6'.out 6 _ rfl; have l7 := arm_cells hown6 hx6'.out 7 _ rfl; have lf := hown6.ice; clear hown6 hgrow6 hnew6)
              | fail)) | fail
            all_goals
              have hyf := HYF.out
              first
              | (unfold put8 at hyf; (obtain ⟨w9, hw9⟩ : ∃ w9, (((((((((w6.setCell ⟨g6, nn * 8, none⟩ (.slice Ap np cp)).setCell ⟨g6, nn * 8 + 1, none⟩ (.int .i64 kc0)).setCell ⟨g6, nn * 8 + 2, none⟩ (.bool nc0)).setCell ⟨g6, nn * 8 + 3, none⟩ (.slice B2 q2 p2)).setCell ⟨g6, nn * 8 + 4, none⟩ (.slice B3 q3 p3)).setCell ⟨g6, nn * 8 + 5, none⟩ (.slice B4 q4 p4)).setCell ⟨g6, nn * 8 + 6, none⟩ (.slice B5 q5 p5)).setCell ⟨g6, nn * 8 + 7, none⟩ (.slice B6 q6 p6)).setCell ⟨cb, 6, none⟩ (.slice (some ⟨g6, 0, none⟩) (nn + 1) cap6)) = w9 := ⟨_, rfl⟩); rw [hw9] at hyf ⊢)
              | (rw [put8_comm hne6] at hyf; unfold put8 at hyf; (obtain ⟨w9, hw9⟩ : ∃ w9, (((((((((w6.setCell ⟨cb, 6, none⟩ (.slice (some ⟨g6, 0, none⟩) (nn + 1) cap6)).setCell ⟨g6, nn * 8, none⟩ (.slice Ap np cp)).setCell ⟨g6, nn * 8 + 1, none⟩ (.int .i64 kc0)).setCell ⟨g6, nn * 8 + 2, none⟩ (.bool nc0)).setCell ⟨g6, nn * 8 + 3, none⟩ (.slice B2 q2 p2)).setCell ⟨g6, nn * 8 + 4, none⟩ (.slice B3 q3 p3)).setCell ⟨g6, nn * 8 + 5, none⟩ (.slice B4 q4 p4)).setCell ⟨g6, nn * 8 + 6, none⟩ (.slice B5 q5 p5)).setCell ⟨g6, nn * 8 + 7, none⟩ (.slice B6 q6 p6)) = w9 := ⟨_, rfl⟩); rw [hw9] at hyf ⊢)
              obtain ⟨⟨V9, N9, X9, col9, hb9⟩, hk9, hp9⟩ := hyf
              have HOD := Lib.hid (op_any bDD hp9)
              have HB9 := Lib.hid hb9
              have HK9 := Lib.hid hk9
              have hst := HR15.out
              unfold armG at hst
              obtain ⟨od, hod⟩ : ∃ o, isO T j3 bDD = o := ⟨_, rfl⟩
              rw [hod] at HOD hst
              unfold bDD at HOD
              clear hb9 hk9 hp9 HYF hw9 hod l0 l1 l2 l3 l4 l5 l6 l7 lf j1' j2' xa0 xa1 xa2 xa3 xa4 xa5 xa6 xa7 x0 x1 x2 x3 x4 x5 x6 x7 kv6 kv6a
              cases od with
              | true =>
                rw [if_pos rfl] at hst
                subst hst
                go_wp2_with fail
                refine HOD.out.mono ?_
                rintro e w10 ⟨rfl, hp10, hk10⟩
                have HL := Lib.hid (lines_any hp10)
                have HB10 := Lib.hid (HB9.out.keep hk10 (by intro k (e : k = pb); omega))
                have HK10 := Lib.hid (HK9.out.trans (hk10.mono fun k e _ => .inl e))
                clear hp10 hk10
                go_wp2_with fail
                refine HL.out.mono ?_
                rintro e w11 ⟨rfl, hp11, hk11, hl11⟩
                have hl11 : j3 + 1 ≤ lineP T (j3 + 1) := hl11
                have HB11 := Lib.hid (HB10.out.keep hk11 (by intro k (e : k = pb); omega))
                have HK11 := Lib.hid (HK10.out.trans (hk11.mono fun k e _ => .inl e))
                have HP11 := Lib.hid (show PAt w11 pb T (lineP T (j3 + 1)) d g cap from hp11)
                clear hp11 hk11
                go_wp2
                go_ret
                exact ⟨HK11.out, rfl, ⟨_, _, _, _, HB11.out⟩, HP11.out, by omega⟩
              | false =>
                rw [if_neg (by decide)] at hst
                subst hst
                go_wp2_with fail
                refine HOD.out.mono ?_
                rintro e w10 ⟨rfl, hp10, hk10⟩
                have HP10 := Lib.hid (show PAt w10 pb T j3 d g cap from hp10)
                have HB10 := Lib.hid (HB9.out.keep hk10 (by intro k (e : k = pb); omega))
                have HK10 := Lib.hid (HK9.out.trans (hk10.mono fun k e _ => .inl e))
                clear hp10 hk10
                go_wp2
                go_ret
                exact ⟨HK10.out, rfl, ⟨_, _, _, _, HB10.out⟩, HP10.out, hij3⟩
end
end Go.Proofs.YtioddclglemlmaaGreatDoor
