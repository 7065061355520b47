/- What the loop over a list's words carries, in plain words, and a look into the table in a walk; no condition. -/
import Derived.Test.YtmcemaphhlcjfaaDoorOptV
namespace Go.Proofs.YtmcemaphhlcjfaaDoor
open Go.RowKit Go.Maps

theorem wpList_lk (w : World) {ops : Array Oper} {rest : List Oper} {o : Oper} {a : Act} {Q : Exit → Act → World → Prop}
    (hg : o.guard = none) (mm kx : Operand) (hop : o.op = Op.lookup 112 mm kx true) (m n : Nat) (D : DataW Value) (hown : w.ownsMap Tryd.prog 9 RV m n D) (k : ByteArray)
    (hm : a.eval mm = .map (some m)) (hx : a.eval kx = .string k) (hk : k.size ≤ maxLen) (V : Value) (bb : Bool)
    (hv : D.atKey (.string k.data.toList) (.held optZ) = .held V) (hb : has D (.string k.data.toList) = bb)
    (hK : wpList Tryd.prog ops Q rest (a.put o.dst (.tuple #[V, .bool bb])) w) :
    wpList Tryd.prog ops Q (o :: rest) a w := by
  refine wpList_lookup_own_ok w hg mm kx 112 hop 9 119 sk9 Tryd.underlying112 RV (zero119 w) (.held optZ) [] rfl m n D hm hown (.string k) (.string k.data.toList) hx (Go.WideMaps.keyOf_string_mk Tryd.underlying9 hk) ?_
  intro v ps h
  rw [hv] at h
  obtain ⟨h1, _⟩ := Prod.mk.inj (Option.some.inj h)
  obtain rfl := DataW.held.inj h1
  rw [hb]
  exact hK

def ctOf (w : World) (cb : Nat) : Nat := match w.cell? ⟨cb, 0, none⟩ with
  | some (.int _ n) => n.toNat
  | _ => 0
theorem ct_of {w : World} {cb p : Nat} (h : w.heap[cb]? = some (.cells #[.int .i64 p] 3 (0, 0))) : ctOf w cb = p := by
  unfold ctOf
  rw [(rowo h (j := 0) rfl).1]
  simp
def fitB (n : Nat) (x : Opx) : Prop := x.fs.length ≤ n ∧ x.gs.length ≤ n ∧ x.vs.length ≤ n
theorem fitB.up {n m : Nat} {x : Opx} (h : fitB n x) (k : n ≤ m) : fitB m x := ⟨Nat.le_trans h.1 k, Nat.le_trans h.2.1 k, Nat.le_trans h.2.2 k⟩
theorem doP_fit {c : UInt8} {v : ByteArray} {x x' : Opx} {n : Nat} (h : doP c v x = some x') (hf : fitB n x) : fitB (n + 1) x' := by
  unfold doP at h
  split at h
  · cases hj : jobsP v with
    | none => rw [hj] at h; cases h
    | some k =>
      rw [hj] at h
      cases h
      exact hf.up (Nat.le_succ n)
  · cases h
    refine ⟨?_, Nat.le_trans hf.2.1 (Nat.le_succ n), Nat.le_trans hf.2.2 (Nat.le_succ n)⟩
    show (x.fs ++ [v]).length ≤ n + 1
    have := hf.1
    simp; omega
theorem letF_fit (W : ByteArray) (l : List ByteArray) : ∀ (f i p : Nat) (x x' : Opx) (p' n : Nat), letF W l f i p x = some (x', p') → fitB n x → fitB (n + 1) x' ∧ p ≤ p' ∧ (p ≤ l.length → p' ≤ l.length) := by
  intro f
  induction f with
  | zero =>
    intro i p x x' p' n h hf
    cases h
    exact ⟨hf.up (Nat.le_succ n), Nat.le_refl _, fun h => h⟩
  | succ f ih =>
    intro i p x x' p' n h hf
    rw [letF] at h
    split at h
    · split at h
      · split at h
        · split at h
          · cases h
          · rename_i v hv
            cases hd : doP (W.get! i) v x with
            | none => rw [hd] at h; cases h
            | some y =>
              rw [hd] at h
              cases h
              have := (List.getElem?_eq_some_iff.1 hv).1
              exact ⟨doP_fit hd hf, by omega, fun _ => by omega⟩
        · cases hd : doP (W.get! i) (W.extract (i + 1) W.size) x with
          | none => rw [hd] at h; cases h
          | some y =>
            rw [hd] at h
            cases h
            exact ⟨doP_fit hd hf, Nat.le_refl _, fun h => h⟩
      · split at h
        · exact ih (i + 1) p { x with bs := upd x.bs (plN (W.get! i)) } x' p' n h hf
        · cases h
    · cases h
      exact ⟨hf.up (Nat.le_succ n), Nat.le_refl _, fun h => h⟩
theorem longP_fit {nm v : ByteArray} {g : Bool} {x x' : Opx} {n : Nat} (h : longP nm v g x = some x') (hf : fitB n x) : fitB (n + 1) x' := by
  unfold longP at h
  split at h
  · cases h
  · split at h
    · split at h
      · cases hj : jobsP v with
        | none => rw [hj] at h; cases h
        | some k =>
          rw [hj] at h
          cases h
          exact hf.up (Nat.le_succ n)
      · cases h
    · split at h
      · split at h
        · cases h
          refine ⟨?_, Nat.le_trans hf.2.1 (Nat.le_succ n), Nat.le_trans hf.2.2 (Nat.le_succ n)⟩
          show (x.fs ++ [v]).length ≤ n + 1
          have := hf.1
          simp; omega
        · cases h
      · split at h
        · cases h
        · split at h
          · cases h
            exact hf.up (Nat.le_succ n)
          · cases h
/-- the round's state -/
def WRel (own : Bool) (R : Option Opx) (N : Nat) (w : World) (S0 : Nat → Prop) (ob cb lb mb : Nat) (Bx : Nat → Nat) (A : Option Addr) (ca : Nat) (l : List ByteArray) (pl : Value) (wi : World) : Prop :=
  ∃ (plain : Bool) (p f : Nat) (x : Opx) (S : Nat → Prop), pl = .bool plain ∧ p ≤ l.length ∧ l.length < f + p ∧ fitB (N + p) x ∧ WsAt w S0 ob cb lb mb Bx A ca l wi S x p ∧ wordsF own l f p plain x = R
/-- how the words end -/
def WdA (ob : Nat) (S : Nat → Prop) (w : World) (r : Option Opx) (e : Ending) (W' : World) : Prop := match r with
  | none => ∃ word, e = .returned (optV word 60) ∧ ∃ S' x', OpAt W' ob S' x' ∧ Nx w S W' S'
  | some x' => e = .returned .nilIface ∧ ∃ S', OpAt W' ob S' x' ∧ Nx w S W' S'
theorem WRel.mk' {own : Bool} {R : Option Opx} {N : Nat} {w : World} {S0 : Nat → Prop} {ob cb lb mb : Nat} {Bx : Nat → Nat} {A : Option Addr} {ca : Nat} {l : List ByteArray} {wr w2 : World} {S S2 : Nat → Prop} {x x2 : Opx} {p p2 f : Nat} {plain : Bool}
    (h0 : WsAt w S0 ob cb lb mb Bx A ca l wr S x p) (hp : p < l.length) (h : WsAt w S0 ob cb lb mb Bx A ca l w2 S2 x2 p2) (h1 : p < p2) (h2 : p2 ≤ l.length) (h3 : l.length < f + 1 + p) (h4 : fitB (N + p + 1) x2) (h5 : wordsF own l f p2 plain x2 = R) :
    WRel own R N w S0 ob cb lb mb Bx A ca l (.bool plain) w2 ∧ l.length - ctOf w2 cb < l.length - ctOf wr cb := by
  refine ⟨⟨plain, p2, f, x2, S2, rfl, h2, by omega, h4.up (by omega), h, h5⟩, ?_⟩
  rw [ct_of h.ct.ctr, ct_of h0.ct.ctr]
  omega
theorem ws_start {w w1 : World} {S : Nat → Prop} {ob mb : Nat} {x : Opx} {A : Option Addr} {ca : Nat} {l : List ByteArray} {Bx : Nat → Nat} (hop : OpAt w ob S x) (hS : ∀ k, S k → k < w.heap.size) (hA : StrsAt w A l) (hAS : ∀ g off, A = some ⟨g, off, none⟩ → ¬ S g ∧ g < w.heap.size) (hca : l.length ≤ ca) (hl : l.length ≤ 900000)
    (hg : (w.alloc (.cells #[.slice A l.length ca] 27)).heap.size ≤ mb ∧ LongAt w1 mb Bx ∧ Below (w.alloc (.cells #[.slice A l.length ca] 27)).heap.size (w.alloc (.cells #[.slice A l.length ca] 27)) w1 ∧ (∀ n, 2 ≤ n → n ≤ 12 → (w.alloc (.cells #[.slice A l.length ca] 27)).heap.size ≤ Bx n)) :
    WsAt w S ob w1.heap.size w.heap.size mb Bx A ca l (w1.alloc (.cells #[.int .i64 (0 : Nat)] 3)) S x 0 ∧ Apart w1.heap.size w.heap.size mb Bx A := by
  obtain ⟨hmb, hlg, hb, hbx⟩ := hg
  rw [World.size_alloc] at hmb
  have hsz : w.heap.size + 1 ≤ w1.heap.size := by have := hb.size; rwa [World.size_alloc] at this
  have hw1 : Below w.heap.size w w1 := by
    refine ⟨hb.os, hb.tape, hb.output, by omega, fun k hk => ?_⟩
    rw [hb.block k (by rw [World.size_alloc]; omega), Below.heap_alloc _ _ _ hk]
  have hw3 : Below w1.heap.size w1 (w1.alloc (.cells #[.int .i64 (0 : Nat)] 3)) := (Below.refl _ _).alloc (Nat.le_refl _) _
  have hw : Below w.heap.size w (w1.alloc (.cells #[.int .i64 (0 : Nat)] 3)) := ⟨hw1.os, hw1.tape, hw1.output, by rw [World.size_alloc]; omega, fun k hk => by rw [hw3.block k (by omega), hw1.block k hk]⟩
  have hlb : (w1.alloc (.cells #[.int .i64 (0 : Nat)] 3)).heap[w.heap.size]? = some (.cells #[.slice A l.length ca] 27 (0, 0)) := by
    rw [hw3.block _ (by omega), hb.block _ (by rw [World.size_alloc]; omega), heap_alloc_last]
  have hmlt : mb < w1.heap.size := hlg.map.lt
  have hblt : ∀ n, 2 ≤ n → n ≤ 12 → Bx n < w1.heap.size := fun n h1 h2 => lt_of_block (hlg.box n h1 h2)
  refine ⟨⟨hop.below hw, ⟨heap_alloc_last _ _, (rowo hlb (j := 0) rfl).1, fun j y hj => ?_, by omega, fun g off hA' => ?_, hca, by omega⟩, ⟨map_below hlg.map hw3, fun n h1 h2 => ?_⟩, Nx.of_below S hw, ⟨fun q => ?_, fun q => ?_, fun q => ?_, fun n h1 h2 q => ?_, fun g off hA' => (hAS g off hA').1⟩, by omega, fun g off hA' => (hAS g off hA').2⟩, ⟨by omega, by omega, fun n h1 h2 => by have := hblt n h1 h2; omega, fun g off hA' => by have := (hAS g off hA').2; omega⟩⟩
  · obtain ⟨g, off, e1, hv⟩ := hA j y hj
    exact ⟨g, off, e1, by rw [← hv]; exact World.cell?_of_block (hw.block g (hAS g off e1).2)⟩
  · have := (hAS g off hA').2; omega
  · rw [hw3.block _ (hblt n h1 h2)]; exact hlg.box n h1 h2
  · have := hS _ q; omega
  · have := hS _ q; omega
  · have := hS _ q; omega
  · have := hS _ q; have := hbx n h1 h2; rw [World.size_alloc] at this; omega
/-- the words behind one -/
noncomputable def wgo (own : Bool) (l : List ByteArray) (f : Nat) : Option (Bool × Opx × Nat) → Option Opx
  | none => none
  | some q => wordsF own l f q.2.2 q.1 q.2.1
theorem wordsF_some {own : Bool} {l : List ByteArray} {f p : Nat} {plain : Bool} {x : Opx} {w : ByteArray} (h : l[p]? = some w) : wordsF own l (f + 1) p plain x = wgo own l f (wstep own plain l w (p + 1) x) := by
  rw [wordsF, h]
  show (match wstep own plain l w (p + 1) x with
    | none => none
    | some q => wordsF own l f q.2.2 q.1 q.2.1) = _
  generalize wstep own plain l w (p + 1) x = r
  cases r <;> rfl
theorem wordsF_none {own : Bool} {l : List ByteArray} {f p : Nat} {plain : Bool} {x : Opx} (h : l[p]? = none) : wordsF own l (f + 1) p plain x = some x := by
  rw [wordsF, h]
theorem cut_size (s p : List UInt8) : (Lib.cut s p).1.length ≤ s.length ∧ (Lib.cut s p).2.1.length ≤ s.length := by
  unfold Lib.cut
  split
  · refine ⟨by rw [List.length_take]; exact Nat.min_le_right _ _, by simp⟩
  · simp
theorem cutP_size (w : ByteArray) : (cutP w).1.size ≤ w.size ∧ (cutP w).2.1.size ≤ w.size := by
  have h := cut_size (w.extract 2 w.size).data.toList [61]
  have hs : (w.extract 2 w.size).data.toList.length ≤ w.size := by
    have : (w.extract 2 w.size).data.toList.length = (w.extract 2 w.size).size := Array.length_toList ..
    rw [this, ByteArray.size_extract]; omega
  unfold cutP
  constructor
  · show (mk _).size ≤ _
    have : (mk (Lib.cut (w.extract 2 w.size).data.toList [61]).1).size = (Lib.cut (w.extract 2 w.size).data.toList [61]).1.length := List.size_toArray ..
    rw [this]; omega
  · show (mk _).size ≤ _
    have : (mk (Lib.cut (w.extract 2 w.size).data.toList [61]).2.1).size = (Lib.cut (w.extract 2 w.size).data.toList [61]).2.1.length := List.size_toArray ..
    rw [this]; omega
theorem step_app_o {P : Program} {w : World} {ops : Array Oper} {o : Oper} {a : Act} {K : Act → World → Prop} {Q : Exit → Act → World → Prop} {E : Prop} (hgd : o.guard = none) (s x : Operand) (t : TypeId)
    (ho : o.op = .call { callee := .builtin .append, args := #[s, x], argTypes := #[t, t] })
    (base : Nat) (e : TypeId) (i : TypeInfo) (z : Value) (size bytes : Nat) (ht : P.underlying t = some (.slice e)) (hi : P.info? e = some i) (hz : i.zero = some z)
    (hsize : i.size = size) (hby : i.bytes = bytes) (hzs : z.cells.size = size)
    (v : Value) (n : Nat) (xs : List Value) (hs : a.eval s = v) (hown : OwnG w base e size v n xs)
    (ad : Addr) (m c : Nat) (news : List Value) (hx : a.eval x = .slice (some ad) m c) (hl : news.length = m * size) (hnews : ∀ j u, news[j]? = some u → w.cell? (ad.add j) = some u) (h1 : ∀ u ∈ news, u.oneCell' = true)
    (hm : 0 < m) (h63 : n + m ≤ maxLen) (hbytes : (n + m) * bytes ≤ 140737488355328) (hbase : base ≤ w.heap.size)
    (h : ∀ g cap w', OwnG w' base e size (.slice (some ⟨g, 0, none⟩) (n + m) cap) (n + m) (xs ++ news) → w.grownBy w' v.ownBlock → (v.ownBlock = some g ∨ g = w.heap.size) → g < w'.heap.size → K (a.put o.dst (.slice (some ⟨g, 0, none⟩) (n + m) cap)) w') :
    if Region.wanted o (yielded ops a.tmps) = true then Oper.wp P o a w K Q else E := by
  have hw : Region.wanted o (yielded ops a.tmps) = true := by simp [Region.wanted, hgd]
  rw [if_pos hw]
  exact wp_append_G w s x t ho base e i z size bytes ht hi hz hsize hby hzs v n xs hs hown ad m c news hx hl hnews h1 hm h63 hbytes hbase h
theorem GrX.ofd {w w1 : World} {o : Obj} {v : Value} {g n cap k : Nat} (hg : ((w.drewN k).alloc o).grownBy w1 v.ownBlock) (h : v.ownBlock = some g ∨ g = ((w.drewN k).alloc o).heap.size) : GrX w w1 v (.slice (some ⟨g, 0, none⟩) n cap) :=
  have q := GrX.of (n := n) (cap := cap) hg h
  ⟨q.os, q.tape, q.output, q.size, q.block, q.new⟩
end Go.Proofs.YtmcemaphhlcjfaaDoor
