/- How a command's tree lies in the heap, and how a parser does; no condition. -/
import Derived.Test.YtioddclglemlmaaGreatDoorLexS
import Derived.Test.YtioddclglemlmaaGreatDoorPlA
namespace Go.Proofs.YtioddclglemlmaaGreatDoor
open Go.RowKit

theorem getD_app_l {α : Type} {a b : List α} {d : α} {i : Nat} (h : i < a.length) : (a ++ b).getD i d = a.getD i d := by
  rw [List.getD_eq_getElem?_getD, List.getD_eq_getElem?_getD, List.getElem?_append_left h]
theorem getD_app_r {α : Type} {a b : List α} {d : α} {i : Nat} (h : a.length ≤ i) : (a ++ b).getD i d = b.getD (i - a.length) d := by
  rw [List.getD_eq_getElem?_getD, List.getD_eq_getElem?_getD, List.getElem?_append_right h]
/-- v reads as n elements, its cells are xs, in a block of S -/
def RdG (W : World) (S : Nat → Prop) (e : TypeId) (size : Nat) (v : Value) (n : Nat) (xs : List Value) : Prop := OwnG W 0 e size v n xs ∧ ∀ k, v.ownBlock = some k → S k
def strV (l : List ByteArray) : List Value := l.map .string
def redV : List (ByteArray × ByteArray) → List Value
  | [] => []
  | (a, b) :: l => .string a :: .string b :: redV l
theorem strV_app (a b : List ByteArray) : strV (a ++ b) = strV a ++ strV b := by simp [strV]
theorem strV_len (a : List ByteArray) : (strV a).length = a.length := by simp [strV]
theorem redV_app (a b : List (ByteArray × ByteArray)) : redV (a ++ b) = redV a ++ redV b := by
  induction a with
  | nil => rfl
  | cons x a ih => obtain ⟨k, t⟩ := x; simp [redV, ih]
/-- the cells c read as the tree t; all that lies in blocks of S -/
inductive CmdAt (W : World) (S : Nat → Prop) : List Value → CmdT → Prop where
  | mk {kind : Int} {no : Bool} {az ws : List ByteArray} {rs : List (ByteArray × ByteArray)} {kids : List CmdT} {pats : List (List ByteArray)} {bodies : List CmdT} {va vw vr vk vm : Value} (kc : List (List Value)) (pc : List Value) (bc : List (List Value)) :
    (rs = [] → vr = .slice none 0 0) →
    RdG W S 9 1 va az.length (strV az) → RdG W S 9 1 vw ws.length (strV ws) → RdG W S 52 2 vr rs.length (redV rs) →
    RdG W S 28 7 vk kids.length kc.flatten → kc.length = kids.length → (∀ i, i < kids.length → CmdAt W S (kc.getD i []) (kids.getD i (.leaf 0))) →
    RdG W S 37 8 vm pats.length ((pc.zip bc).map fun x => x.1 :: x.2).flatten → pc.length = pats.length → bc.length = bodies.length → pats.length = bodies.length →
    (∀ i, i < pats.length → RdG W S 9 1 (pc.getD i undef) (pats.getD i []).length (strV (pats.getD i []))) → (∀ i, i < bodies.length → CmdAt W S (bc.getD i []) (bodies.getD i (.leaf 0))) →
    CmdAt W S [.int .i64 kind, .bool no, va, vw, vr, vk, vm] (.mk kind no az ws rs kids pats bodies)
/-- a list of commands -/
def KidsAt (W : World) (S : Nat → Prop) (kc : List (List Value)) (kids : List CmdT) : Prop := kc.length = kids.length ∧ ∀ i, i < kids.length → CmdAt W S (kc.getD i []) (kids.getD i (.leaf 0))
def ArmC (pc : List Value) (bc : List (List Value)) : List Value := ((pc.zip bc).map fun x => x.1 :: x.2).flatten
def ArmsAt (W : World) (S : Nat → Prop) (pc : List Value) (bc : List (List Value)) (pats : List (List ByteArray)) (bodies : List CmdT) : Prop :=
  pc.length = pats.length ∧ bc.length = bodies.length ∧ pats.length = bodies.length ∧ (∀ i, i < pats.length → RdG W S 9 1 (pc.getD i undef) (pats.getD i []).length (strV (pats.getD i []))) ∧ (∀ i, i < bodies.length → CmdAt W S (bc.getD i []) (bodies.getD i (.leaf 0)))
section
variable {W W' : World} {S S' : Nat → Prop}
theorem RdG.move {e : TypeId} {size : Nat} {v : Value} {n : Nat} {xs : List Value} (h : RdG W S e size v n xs) (hs : ∀ k, S k → S' k) (hw : ∀ k, S k → W'.heap[k]? = W.heap[k]?) : RdG W' S' e size v n xs :=
  ⟨h.1.move fun k hk => hw k (h.2 k hk), fun k hk => hs k (h.2 k hk)⟩
theorem RdG.nil (W : World) (S : Nat → Prop) (e : TypeId) (size : Nat) : RdG W S e size (.slice none 0 0) 0 [] := ⟨OwnG.nil _ _ _ _, fun _ hk => by simp [Value.ownBlock] at hk⟩
theorem RdG.of {base : Nat} {e : TypeId} {size : Nat} {v : Value} {n : Nat} {xs : List Value} (h : OwnG W base e size v n xs) (hs : ∀ k, v.ownBlock = some k → S k) : RdG W S e size v n xs := ⟨h.lower (Nat.zero_le _), hs⟩
theorem RdG.ge {base : Nat} {e : TypeId} {size : Nat} {v : Value} {n : Nat} {xs : List Value} (h : OwnG W base e size v n xs) : RdG W (fun k => base ≤ k) e size v n xs := ⟨h.lower (Nat.zero_le _), fun k hk => (h.block_lt k hk).1⟩
theorem CmdAt.move {c : List Value} {t : CmdT} (h : CmdAt W S c t) (hs : ∀ k, S k → S' k) (hw : ∀ k, S k → W'.heap[k]? = W.heap[k]?) : CmdAt W' S' c t := by
  induction h with
  | mk kc pc bc h0 h1 h2 h3 h4 h5 _ h7 h8 h9 h10 h11 _ ih6 ih12 =>
    exact .mk kc pc bc h0 (h1.move hs hw) (h2.move hs hw) (h3.move hs hw) (h4.move hs hw) h5 ih6 (h7.move hs hw) h8 h9 h10 (fun i hi => (h11 i hi).move hs hw) ih12
theorem CmdAt.len {c : List Value} {t : CmdT} (h : CmdAt W S c t) : c.length = 7 := by cases h; rfl
theorem KidsAt.move {kc : List (List Value)} {kids : List CmdT} (h : KidsAt W S kc kids) (hs : ∀ k, S k → S' k) (hw : ∀ k, S k → W'.heap[k]? = W.heap[k]?) : KidsAt W' S' kc kids := ⟨h.1, fun i hi => (h.2 i hi).move hs hw⟩
theorem ArmsAt.move {pc : List Value} {bc : List (List Value)} {pats : List (List ByteArray)} {bodies : List CmdT} (h : ArmsAt W S pc bc pats bodies) (hs : ∀ k, S k → S' k) (hw : ∀ k, S k → W'.heap[k]? = W.heap[k]?) : ArmsAt W' S' pc bc pats bodies :=
  ⟨h.1, h.2.1, h.2.2.1, fun i hi => (h.2.2.2.1 i hi).move hs hw, fun i hi => (h.2.2.2.2 i hi).move hs hw⟩
theorem KidsAt.nil : KidsAt W S [] [] := ⟨rfl, fun _ hi => absurd hi (Nat.not_lt_zero _)⟩
theorem ArmsAt.nil : ArmsAt W S [] [] [] [] := ⟨rfl, rfl, rfl, fun _ hi => absurd hi (Nat.not_lt_zero _), fun _ hi => absurd hi (Nat.not_lt_zero _)⟩
theorem KidsAt.snoc {kc : List (List Value)} {kids : List CmdT} {c : List Value} {t : CmdT} (h : KidsAt W S kc kids) (hc : CmdAt W S c t) : KidsAt W S (kc ++ [c]) (kids ++ [t]) := by
  refine ⟨by simp [h.1], fun i hi => ?_⟩
  rw [List.length_append, List.length_singleton] at hi
  by_cases q : i < kids.length
  · rw [getD_app_l (by rw [h.1]; exact q), getD_app_l q]; exact h.2 i q
  · obtain rfl : i = kids.length := by omega
    rw [getD_app_r (Nat.le_refl _), getD_app_r (by rw [h.1]; exact Nat.le_refl _), h.1]
    simpa using hc
theorem KidsAt.one {c : List Value} {t : CmdT} (hc : CmdAt W S c t) : KidsAt W S [c] [t] := KidsAt.nil.snoc hc
theorem ArmsAt.snoc {pc : List Value} {bc : List (List Value)} {pats : List (List ByteArray)} {bodies : List CmdT} {v : Value} {c : List Value} {ps : List ByteArray} {t : CmdT} (h : ArmsAt W S pc bc pats bodies) (hp : RdG W S 9 1 v ps.length (strV ps)) (hc : CmdAt W S c t) : ArmsAt W S (pc ++ [v]) (bc ++ [c]) (pats ++ [ps]) (bodies ++ [t]) := by
  obtain ⟨h1, h2, h3, h4, h5⟩ := h
  refine ⟨by simp [h1], by simp [h2], by simp [h3], fun i hi => ?_, fun i hi => ?_⟩
  · rw [List.length_append, List.length_singleton] at hi
    by_cases q : i < pats.length
    · rw [getD_app_l (by rw [h1]; exact q), getD_app_l q]; exact h4 i q
    · obtain rfl : i = pats.length := by omega
      rw [getD_app_r (Nat.le_refl _), getD_app_r (by rw [h1]; exact Nat.le_refl _), h1]
      simpa using hp
  · rw [List.length_append, List.length_singleton] at hi
    by_cases q : i < bodies.length
    · rw [getD_app_l (by rw [h2]; exact q), getD_app_l q]; exact h5 i q
    · obtain rfl : i = bodies.length := by omega
      rw [getD_app_r (Nat.le_refl _), getD_app_r (by rw [h2]; exact Nat.le_refl _), h2]
      simpa using hc
theorem ArmC_snoc {pc : List Value} {bc : List (List Value)} (h : pc.length = bc.length) (v : Value) (c : List Value) : ArmC (pc ++ [v]) (bc ++ [c]) = ArmC pc bc ++ (v :: c) := by
  unfold ArmC
  rw [List.zip_append h]
  simp
theorem CmdAt.kids {kind : Int} {no : Bool} {va vw vr vk vm : Value} {az ws : List ByteArray} {rs : List (ByteArray × ByteArray)} {kids : List CmdT} {pats : List (List ByteArray)} {bodies : List CmdT} (h : CmdAt W S [.int .i64 kind, .bool no, va, vw, vr, vk, vm] (.mk kind no az ws rs kids pats bodies)) :
    RdG W S 9 1 va az.length (strV az) ∧ RdG W S 9 1 vw ws.length (strV ws) ∧ RdG W S 52 2 vr rs.length (redV rs) ∧ (∃ kc, RdG W S 28 7 vk kids.length kc.flatten ∧ KidsAt W S kc kids) ∧ ∃ pc bc, RdG W S 37 8 vm pats.length (ArmC pc bc) ∧ ArmsAt W S pc bc pats bodies := by
  cases h with
  | mk kc pc bc _ h1 h2 h3 h4 h5 h6 h7 h8 h9 h10 h11 h12 => exact ⟨h1, h2, h3, ⟨kc, h4, h5, h6⟩, pc, bc, h7, h8, h9, h10, h11, h12⟩
theorem CmdAt.of {kind : Int} {no : Bool} {va vw vr vk vm : Value} {az ws : List ByteArray} {rs : List (ByteArray × ByteArray)} {kids : List CmdT} {pats : List (List ByteArray)} {bodies : List CmdT}
    (h1 : RdG W S 9 1 va az.length (strV az)) (h2 : RdG W S 9 1 vw ws.length (strV ws)) (h3 : RdG W S 52 2 vr rs.length (redV rs)) {kc : List (List Value)} (h4 : RdG W S 28 7 vk kids.length kc.flatten) (h5 : KidsAt W S kc kids)
    {pc : List Value} {bc : List (List Value)} (h6 : RdG W S 37 8 vm pats.length (ArmC pc bc)) (h7 : ArmsAt W S pc bc pats bodies) (h0 : rs = [] → vr = .slice none 0 0 := by intro _; rfl) : CmdAt W S [.int .i64 kind, .bool no, va, vw, vr, vk, vm] (.mk kind no az ws rs kids pats bodies) :=
  .mk kc pc bc h0 h1 h2 h3 h4 h5.1 h5.2 h6 h7.1 h7.2.1 h7.2.2.1 h7.2.2.2.1 h7.2.2.2.2
theorem CmdAt.r0 {kind : Int} {no : Bool} {va vw vr vk vm : Value} {az ws : List ByteArray} {kids : List CmdT} {pats : List (List ByteArray)} {bodies : List CmdT} (h : CmdAt W S [.int .i64 kind, .bool no, va, vw, vr, vk, vm] (.mk kind no az ws [] kids pats bodies)) : vr = .slice none 0 0 := by
  cases h with
  | mk kc pc bc h0 => exact h0 rfl
/-- the form of a command's cells -/
theorem CmdAt.form {c : List Value} {t : CmdT} (h : CmdAt W S c t) : ∃ kind no va vw vr vk vm az ws rs kids pats bodies, c = [.int .i64 kind, .bool no, va, vw, vr, vk, vm] ∧ t = .mk kind no az ws rs kids pats bodies := by
  cases h; exact ⟨_, _, _, _, _, _, _, _, _, _, _, _, _, rfl, rfl⟩
end
/-- all blocks but those of T are as they were -/
structure Kept (T : Nat → Prop) (w w' : World) : Prop where
  below : Below 0 w w'
  block : ∀ k, k < w.heap.size → ¬ T k → w'.heap[k]? = w.heap[k]?
section
variable {T T' : Nat → Prop} {a b c w w' : World}
theorem Kept.refl (T : Nat → Prop) (w : World) : Kept T w w := ⟨Below.refl _ _, fun _ _ _ => rfl⟩
theorem Kept.size (h : Kept T w w') : w.heap.size ≤ w'.heap.size := h.below.size
theorem Kept.trans (h : Kept T a b) (k : Kept T b c) : Kept T a c := ⟨h.below.trans k.below, fun i hi ht => (k.block i (Nat.lt_of_lt_of_le hi h.size) ht).trans (h.block i hi ht)⟩
/-- behind h, what is new may be touched too -/
theorem Kept.trans' (h : Kept T a b) (k : Kept T' b c) (ht : ∀ i, T' i → T i ∨ a.heap.size ≤ i) : Kept T a c :=
  ⟨h.below.trans k.below, fun i hi hn => (k.block i (Nat.lt_of_lt_of_le hi h.size) fun e => (ht i e).elim hn (by omega)).trans (h.block i hi hn)⟩
theorem Kept.mono (h : Kept T w w') (ht : ∀ i, T i → i < w.heap.size → T' i) : Kept T' w w' := ⟨h.below, fun i hi hn => h.block i hi fun e => hn (ht i e hi)⟩
theorem Kept.of_below (h : Below w.heap.size w w') : Kept T w w' := ⟨h.mono (Nat.zero_le _), fun i hi _ => h.block i hi⟩
theorem Kept.to_below {B : Nat} (h : Kept T w w') (hB : B ≤ w.heap.size) (ht : ∀ i, T i → B ≤ i) : Below B w w' := ⟨h.below.os, h.below.tape, h.below.output, h.size, fun i hi => h.block i (by omega) fun e => by have := ht i e; omega⟩
theorem Kept.drewN (h : Kept T w w') (n : Nat) : Kept T w (w'.drewN n) := h.trans ⟨⟨rfl, rfl, rfl, Nat.le_refl _, fun _ _ => rfl⟩, fun _ _ _ => rfl⟩
theorem Kept.setCell {p : Addr} (h : Kept T w w') (hp : T p.block ∨ w.heap.size ≤ p.block) (v : Value) : Kept T w (w'.setCell p v) :=
  h.trans' (T' := fun k => k = p.block) ⟨(Below.refl 0 w').setCell (Nat.zero_le _) v, fun k _ hn => Below.heap_setCell _ _ _ _ (fun e => hn e)⟩ fun _ e => e ▸ hp
theorem Kept.alloc (h : Kept T w w') (o : Obj) : Kept T w (w'.alloc o) := h.trans (Kept.of_below ((Below.refl _ _).alloc (Nat.le_refl _) o))
theorem Kept.grown {row : Option Nat} (h : Kept T w w') {w2 : World} (hg : w'.grownBy w2 row) (hr : ∀ k, row = some k → T k ∨ w.heap.size ≤ k) : Kept T w w2 :=
  h.trans' (T' := fun k => row = some k) ⟨⟨hg.os, hg.tape, hg.output, hg.size, fun _ hk => absurd hk (Nat.not_lt_zero _)⟩, fun k hk hn => hg.block k hk fun e => hn e.symm⟩ fun i e => hr i e
end
/-- a parser at block pb: the tokens T, the place i, d compounds open -/
structure PAt (W : World) (pb : Nat) (T : List (Int × ByteArray)) (i d : Nat) (g cap : Nat) : Prop where
  row : W.heap[pb]? = some (.cells #[.slice (some ⟨g, 0, none⟩) T.length cap, .int .i64 i, .int .i64 d] 59 (0, 0))
  own : OwnG W 0 116 2 (.slice (some ⟨g, 0, none⟩) T.length cap) T.length (tokV T)
  ne : g ≠ pb
  lt : i < T.length
  small : T.length ≤ 5001
  last : ∀ j, j + 1 = T.length → (tk T j).1 = 4
  deep : d ≤ 61
  gm : ∃ m, W.cell? ⟨1, 0, none⟩ = some (.int .i64 m)
  p1 : 1 < pb
  txt : ∀ j, (tk T j).2.size ≤ 70000
theorem tokV_get : ∀ (T : List (Int × ByteArray)) (j : Nat), j < T.length → (tokV T)[j * 2]? = some (.int .i64 (tk T j).1) ∧ (tokV T)[j * 2 + 1]? = some (.string (tk T j).2)
  | [], j, h => absurd h (Nat.not_lt_zero _)
  | (k, t) :: T, 0, _ => ⟨rfl, rfl⟩
  | (k, t) :: T, j + 1, h => by
    have ih := tokV_get T j (Nat.lt_of_succ_lt_succ h)
    have e : tk ((k, t) :: T) (j + 1) = tk T j := by unfold tk; exact List.getD_cons_succ
    rw [e, show (j + 1) * 2 = j * 2 + 2 by omega]
    exact ⟨ih.1, ih.2⟩
section
variable {W W' : World} {pb i d g cap : Nat} {T : List (Int × ByteArray)}
theorem PAt.cells (h : PAt W pb T i d g cap) : W.cell? ⟨pb, 0, none⟩ = some (.slice (some ⟨g, 0, none⟩) T.length cap) ∧ W.cell? ⟨pb, 1, none⟩ = some (.int .i64 i) ∧ W.cell? ⟨pb, 2, none⟩ = some (.int .i64 d) ∧ W.frozen? ⟨pb, 0, none⟩ = false ∧ W.frozen? ⟨pb, 1, none⟩ = false ∧ W.frozen? ⟨pb, 2, none⟩ = false :=
  ⟨(rowc h.row (j := 0) rfl).1, (rowc h.row (j := 1) rfl).1, (rowc h.row (j := 2) rfl).1, frozen_of_row W _ _ _ _ h.row, frozen_of_row W _ _ _ _ h.row, frozen_of_row W _ _ _ _ h.row⟩
theorem PAt.tok (h : PAt W pb T i d g cap) (j : Nat) (hj : j < T.length) : W.cell? ⟨g, j * 2, none⟩ = some (.int .i64 (tk T j).1) ∧ W.cell? ⟨g, j * 2 + 1, none⟩ = some (.string (tk T j).2) :=
  ⟨h.own.cells _ _ (tokV_get T j hj).1, h.own.cells _ _ (tokV_get T j hj).2⟩
theorem PAt.blt (h : PAt W pb T i d g cap) : pb < W.heap.size ∧ g < W.heap.size := ⟨lt_of_block h.row, (h.own.block_lt g (by simp [Value.ownBlock])).2⟩
theorem PAt.capLe (h : PAt W pb T i d g cap) : T.length ≤ cap ∧ cap ≤ maxLen := by
  obtain ⟨A, c, e, h1, h2⟩ := h.own.form
  cases e; exact ⟨h1, h2⟩
theorem PAt.more (h : PAt W pb T i d g cap) (hk : (tk T i).1 ≠ 4) : i + 1 < T.length := by
  by_cases q : i + 1 < T.length
  · exact q
  · exact absurd (h.last i (by have := h.lt; omega)) hk
theorem PAt.set (h : PAt W pb T i d g cap) (hg : W'.heap[g]? = W.heap[g]?) (h1 : W'.heap[1]? = W.heap[1]?) {j d' : Nat} (hr : W'.heap[pb]? = some (.cells #[.slice (some ⟨g, 0, none⟩) T.length cap, .int .i64 j, .int .i64 d'] 59 (0, 0))) (hj : j < T.length) (hd : d' ≤ 61) : PAt W' pb T j d' g cap :=
  ⟨hr, h.own.move fun k hk => by obtain rfl : g = k := by simpa [Value.ownBlock] using hk
                                 exact hg, h.ne, hj, h.small, h.last, hd, by obtain ⟨m, hm⟩ := h.gm; exact ⟨m, (World.cell?_of_block (a := ⟨1, 0, none⟩) h1).trans hm⟩, h.p1, h.txt⟩
theorem PAt.keep {S : Nat → Prop} (h : PAt W pb T i d g cap) (hk : Kept S W W') (h1 : ¬ S pb) (h2 : ¬ S g) (h3 : ¬ S 1) : PAt W' pb T i d g cap :=
  h.set (hk.block g h.blt.2 h2) (hk.block 1 (Nat.lt_trans h.p1 h.blt.1) h3) ((hk.block pb h.blt.1 h1).trans h.row) h.lt h.deep
theorem PAt.at_ (h : PAt W pb T i d g cap) (j : Nat) (hj : j < T.length) : PAt (W.setCell ⟨pb, 1, none⟩ (.int .i64 j)) pb T j d g cap :=
  h.set (Below.heap_setCell _ _ _ _ h.ne) (Below.heap_setCell _ _ _ _ (Nat.ne_of_lt h.p1)) (by have := heap_setCell_same W pb 1 _ 59 (.int .i64 j) h.row; simpa using this) hj h.deep
theorem PAt.dp (h : PAt W pb T i d g cap) (d' : Nat) (hd : d' ≤ 61) : PAt (W.setCell ⟨pb, 2, none⟩ (.int .i64 d')) pb T i d' g cap :=
  h.set (Below.heap_setCell _ _ _ _ h.ne) (Below.heap_setCell _ _ _ _ (Nat.ne_of_lt h.p1)) (by have := heap_setCell_same W pb 2 _ 59 (.int .i64 d') h.row; simpa using this) h.lt hd
theorem PAt.drewN (h : PAt W pb T i d g cap) (n : Nat) : PAt (W.drewN n) pb T i d g cap := h.keep (S := fun _ => False) ((Kept.refl _ _).drewN n) id id id
theorem PAt.alloc (h : PAt W pb T i d g cap) (o : Obj) : PAt (W.alloc o) pb T i d g cap := h.keep (S := fun _ => False) ((Kept.refl _ _).alloc o) id id id
end
/-- what the parser's functions may touch -/
def Own1 (pb : Nat) : Nat → Prop := fun k => k = pb
theorem Kept.pset {pb : Nat} {w w' : World} (h : Kept (Own1 pb) w w') (o : Nat) (v : Value) : Kept (Own1 pb) w (w'.setCell ⟨pb, o, none⟩ v) := h.setCell (p := ⟨pb, o, none⟩) (.inl rfl) v
/-- what a parser gives up with -/
def faultV (k n : Int) : List PanicEntry := [{ v := .iface 55 (.agg #[.int .i64 k, .iface 29 (.int .i64 n)]), recovered := false }]
/-- what a parser's function answers, at w, from the place i on -/
def PaR {α : Type} (pb : Nat) (T : List (Int × ByteArray)) (g cap i d : Nat) (w : World) (rel : World → Value → α → Prop) (r : PR α) (e : Ending) (w' : World) : Prop :=
  Kept (Own1 pb) w w' ∧ match r with
  | .ok v j => ∃ u, e = .returned u ∧ rel w' u v ∧ PAt w' pb T j d g cap ∧ i ≤ j
  | .err n => ∃ k : Int, e = .panicked (faultV k n)
def CmdR (b : Nat) (W : World) (u : Value) (c : CmdT) : Prop := ∃ cs : List Value, u = .agg cs.toArray ∧ CmdAt W (fun k => b ≤ k ∧ k < W.heap.size) cs c
end Go.Proofs.YtioddclglemlmaaGreatDoor
