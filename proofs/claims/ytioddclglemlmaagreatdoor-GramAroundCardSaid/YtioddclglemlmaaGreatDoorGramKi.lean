/- Commands in hand: a command's cells are told, stored, put to a list; no condition. -/
import Derived.Test.YtioddclglemlmaaGreatDoorGramSi
namespace Go.Proofs.YtioddclglemlmaaGreatDoor
open Go.RowKit

theorem Tryz.info28 : (Tryz.prog.info? 28).map (fun i => (i.zero, i.size, i.bytes)) = some (some (.agg #[.int .i64 0, .bool false, .slice none 0 0, .slice none 0 0, .slice none 0 0, .slice none 0 0, .slice none 0 0]), 7, 136) := by kernel_rfl
theorem RdG.form {W : World} {S : Nat → Prop} {e : TypeId} {size : Nat} {v : Value} {n : Nat} {xs : List Value} (h : RdG W S e size v n xs) : ∃ A c, v = .slice A n c := by
  obtain ⟨A, c, e, _, _⟩ := h.1.form
  exact ⟨A, c, e⟩
/-- a command's value, its slices in sight -/
theorem CmdAt.lit {W : World} {S : Nat → Prop} {c : List Value} {t : CmdT} (h : CmdAt W S c t) : ∃ (kind : Int) (no : Bool) (A2 : Option Addr) (l2 m2 : Nat) (A3 : Option Addr) (l3 m3 : Nat) (A4 : Option Addr) (l4 m4 : Nat) (A5 : Option Addr) (l5 m5 : Nat) (A6 : Option Addr) (l6 m6 : Nat), c = [.int .i64 kind, .bool no, .slice A2 l2 m2, .slice A3 l3 m3, .slice A4 l4 m4, .slice A5 l5 m5, .slice A6 l6 m6] := by
  cases h with
  | mk kc pc bc _ h1 h2 h3 h4 h5 h6 h7 h8 h9 h10 h11 h12 =>
    obtain ⟨A2, m2, rfl⟩ := h1.form
    obtain ⟨A3, m3, rfl⟩ := h2.form
    obtain ⟨A4, m4, rfl⟩ := h3.form
    obtain ⟨A5, m5, rfl⟩ := h4.form
    obtain ⟨A6, m6, rfl⟩ := h7.form
    exact ⟨_, _, A2, _, m2, A3, _, m3, A4, _, m4, A5, _, m5, A6, _, m6, rfl⟩
theorem fin_of {W : World} {S : Nat → Prop} {rb b base : Nat} {kind : Int} {no : Bool} {v2 v3 v4 v5 v6 : Value} {t : CmdT} (k0 : W.cell? ⟨b, 0, none⟩ = some (.int .i64 kind)) (k1 : W.cell? ⟨b, 1, none⟩ = some (.bool no)) (k2 : W.cell? ⟨b, 2, none⟩ = some v2) (k3 : W.cell? ⟨b, 3, none⟩ = some v3) (k4 : W.cell? ⟨b, 4, none⟩ = some v4) (k5 : W.cell? ⟨b, 5, none⟩ = some v5) (k6 : W.cell? ⟨b, 6, none⟩ = some v6)
    (hrr : ∃ z0 z1 z2 z3 z4 z5 z6, W.heap[rb]? = some (.cells #[z0, z1, z2, z3, z4, z5, z6] 28 (0, 0))) (hc : CmdAt W S [.int .i64 kind, .bool no, v2, v3, v4, v5, v6] t) (hS : ∀ k, S k → base ≤ k ∧ k < W.heap.size ∧ k ≠ rb) : Fin7 W rb b base t kind no v2 v3 v4 v5 v6 := by
  obtain ⟨z0, z1, z2, z3, z4, z5, z6, hr⟩ := hrr
  have hs := set7 hr (.int .i64 kind) (.bool no) v2 v3 v4 v5 v6
  have ho : ∀ k, k ≠ rb → (put7 W rb (.int .i64 kind) (.bool no) v2 v3 v4 v5 v6).heap[k]? = W.heap[k]? := fun k hk => put7_other hk _ _ _ _ _ _ _
  have hk := put7_kept (Kept.refl (fun k => k = rb) W) (.inl rfl) (.int .i64 kind) (.bool no) v2 v3 v4 v5 v6
  obtain ⟨W6, hW⟩ : ∃ W6, put7 W rb (.int .i64 kind) (.bool no) v2 v3 v4 v5 v6 = W6 := ⟨_, rfl⟩
  rw [hW] at hs ho hk
  exact ⟨k0, k1, k2, k3, k4, k5, k6, ⟨z0, z1, z2, z3, z4, z5, z6, rowc hr rfl, rowc hr rfl, rowc hr rfl, rowc hr rfl, rowc hr rfl, rowc hr rfl, rowc hr rfl⟩, W6, hW, load7 hs, ⟨_, rfl, hc.move (fun k e => ⟨(hS k e).1, Nat.lt_of_lt_of_le (hS k e).2.1 hk.size⟩) fun k e => ho k (hS k e).2.2⟩, hk⟩
/-- the first of a list of commands is told -/
theorem kid_fin {W : World} {S : Nat → Prop} {rb base b2 : Nat} {v : Value} {X : List Value} {t : CmdT} (hrr : ∃ z0 z1 z2 z3 z4 z5 z6, W.heap[rb]? = some (.cells #[z0, z1, z2, z3, z4, z5, z6] 28 (0, 0))) (ho : OwnG W b2 28 7 v 1 X) (hx : ∃ kc, X = kc.flatten ∧ KidsAt W S kc [t]) (hS : ∀ k, S k → base ≤ k ∧ k < W.heap.size ∧ k ≠ rb) :
    ∃ (gk cap : Nat) (kind : Int) (no : Bool) (A2 : Option Addr) (l2 m2 : Nat) (A3 : Option Addr) (l3 m3 : Nat) (A4 : Option Addr) (l4 m4 : Nat) (A5 : Option Addr) (l5 m5 : Nat) (A6 : Option Addr) (l6 m6 : Nat), v = .slice (some ⟨gk, 0, none⟩) 1 cap ∧ 1 ≤ cap ∧ Fin7 W rb gk base t kind no (.slice A2 l2 m2) (.slice A3 l3 m3) (.slice A4 l4 m4) (.slice A5 l5 m5) (.slice A6 l6 m6) := by
  obtain ⟨kc, rfl, hk⟩ := hx
  obtain ⟨c, rfl⟩ : ∃ c, kc = [c] := by
    have := hk.1
    match kc, this with
    | [c], _ => exact ⟨c, rfl⟩
  have hc : CmdAt W S c t := hk.2 0 (by simp)
  obtain ⟨kind, no, A2, l2, m2, A3, l3, m3, A4, l4, m4, A5, l5, m5, A6, l6, m6, rfl⟩ := hc.lit
  rcases id ho.2 with ⟨_, h0⟩ | ⟨gk, cap, cur, rfl, _, hg, hn, _, _, _⟩
  · cases h0
  · have hce := ho.cells
    exact ⟨gk, cap, kind, no, A2, l2, m2, A3, l3, m3, A4, l4, m4, A5, l5, m5, A6, l6, m6, rfl, hn, fin_of (hce 0 _ rfl) (hce 1 _ rfl) (hce 2 _ rfl) (hce 3 _ rfl) (hce 4 _ rfl) (hce 5 _ rfl) (hce 6 _ rfl) hrr hc hS⟩
theorem BT.kid' {w w2 w3 : World} {rb cb base : Nat} {kind : Int} {no : Bool} {V : Nat → Value} {N : Nat → Nat} {X : Nat → List Value} {col : Nat → Nat} {fz : Nat → Bool} {az ws : List ByteArray} {rs : List (ByteArray × ByteArray)} {kids : List CmdT} {pats : List (List ByteArray)} {bodies : List CmdT}
    {T : Nat → Prop} {o : Obj} {v' : Value} (h : BT w rb cb base kind no fz az ws rs kids pats bodies V N X col) (hk : Kept T w w2) (hT : ∀ k, T k → k < base)
    {c : List Value} {t : CmdT} (hc : CmdAt w2 (fun k => w.heap.size ≤ k ∧ k < w2.heap.size) c t) (hz : fz 5 = false) (hg : (w2.alloc o).grownBy w3 (V 5).ownBlock) (ho : OwnG w3 base 28 7 v' (N 5 + 1) (X 5 ++ c)) (hn : ∀ k, v'.ownBlock = some k → (V 5).ownBlock = some k ∨ k = (w2.alloc o).heap.size) :
    BT (w3.setCell ⟨cb, 5, none⟩ v') rb cb base kind no fz az ws rs (kids ++ [t]) pats bodies (up V 5 v') (up N 5 (N 5 + 1)) (up X 5 (X 5 ++ c)) (colN col 5 v' w.heap.size w2.heap.size) ∧ Kept (fun k => False ∨ k = cb ∨ (V 5).ownBlock = some k) w2 (w3.setCell ⟨cb, 5, none⟩ v') :=
  ⟨(h.kid hk hT hc hz hg ho hn).1, ((h.1.keep hk hT).push (f := 5) (by decide) (by decide) hz (Kept.refl (fun _ => False) w2) (fun _ e => e.elim) hg ho hn).2.1⟩
theorem BT.fin' {W : World} {rb cb base : Nat} {kind : Int} {no : Bool} {V : Nat → Value} {N : Nat → Nat} {X : Nat → List Value} {col : Nat → Nat} {fz : Nat → Bool} {az ws : List ByteArray} {rs : List (ByteArray × ByteArray)} {kids : List CmdT} {pats : List (List ByteArray)} {bodies : List CmdT}
    (h : BT W rb cb base kind no fz az ws rs kids pats bodies V N X col) : ∃ A2 m2 A3 m3 A4 m4 A5 m5 A6 m6, Fin7 W rb cb base (.mk kind no az ws rs kids pats bodies) kind no (.slice A2 (N 2) m2) (.slice A3 (N 3) m3) (.slice A4 (N 4) m4) (.slice A5 (N 5) m5) (.slice A6 (N 6) m6) := by
  obtain ⟨A2, m2, e2, _, _⟩ := (h.1.own 2 (by decide) (by decide)).form
  obtain ⟨A3, m3, e3, _, _⟩ := (h.1.own 3 (by decide) (by decide)).form
  obtain ⟨A4, m4, e4, _, _⟩ := (h.1.own 4 (by decide) (by decide)).form
  obtain ⟨A5, m5, e5, _, _⟩ := (h.1.own 5 (by decide) (by decide)).form
  obtain ⟨A6, m6, e6, _, _⟩ := (h.1.own 6 (by decide) (by decide)).form
  obtain ⟨k0, k1, k2, k3, k4, k5, k6⟩ := h.1.cells
  have ht := Bld.tree h
  rw [e2] at k2
  rw [e3] at k3
  rw [e4] at k4
  rw [e5] at k5
  rw [e6] at k6
  rw [e2, e3, e4, e5, e6] at ht
  exact ⟨A2, m2, A3, m3, A4, m4, A5, m5, A6, m6, fin_of k0 k1 k2 k3 k4 k5 k6 h.1.rrow ht fun k e => ⟨e.1, e.2.1, e.2.2.1⟩⟩
end Go.Proofs.YtioddclglemlmaaGreatDoor
