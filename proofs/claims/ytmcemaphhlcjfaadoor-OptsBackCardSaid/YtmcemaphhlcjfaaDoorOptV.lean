/- Where the loop over a list's words stands; no condition. -/
import Derived.Test.YtmcemaphhlcjfaaDoorOptQ
namespace Go.Proofs.YtmcemaphhlcjfaaDoor
open Go.RowKit Go.Maps

/-- the blocks of the call: the counter, the list's box, the map, the flags' boxes, and that they are none of the options' -/
structure Far (S : Nat → Prop) (cb lb mb : Nat) (Bx : Nat → Nat) (A : Option Addr) : Prop where
  c : ¬ S cb
  l : ¬ S lb
  m : ¬ S mb
  b : ∀ n, 2 ≤ n → n ≤ 12 → ¬ S (Bx n)
  a : ∀ g off, A = some ⟨g, off, none⟩ → ¬ S g
structure Apart (cb lb mb : Nat) (Bx : Nat → Nat) (A : Option Addr) : Prop where
  l : lb ≠ cb
  m : mb ≠ cb
  b : ∀ n, 2 ≤ n → n ≤ 12 → Bx n ≠ cb
  a : ∀ g off, A = some ⟨g, off, none⟩ → g ≠ cb
structure WsAt (w : World) (S0 : Nat → Prop) (ob cb lb mb : Nat) (Bx : Nat → Nat) (A : Option Addr) (ca : Nat) (l : List ByteArray) (wi : World) (S : Nat → Prop) (x : Opx) (p : Nat) : Prop where
  op : OpAt wi ob S x
  ct : CtAt wi cb lb A ca l p
  lg : LongAt wi mb Bx
  nx : Nx w S0 wi S
  far : Far S cb lb mb Bx A
  new : w.heap.size ≤ cb
  ag : ∀ g off, A = some ⟨g, off, none⟩ → g < w.heap.size
theorem WsAt.step {w : World} {S0 : Nat → Prop} {ob cb lb mb : Nat} {Bx : Nat → Nat} {A : Option Addr} {ca : Nat} {l : List ByteArray} {wi : World} {S : Nat → Prop} {x : Opx} {p : Nat} (h : WsAt w S0 ob cb lb mb Bx A ca l wi S x p) (ap : Apart cb lb mb Bx A)
    {w2 : World} {S2 : Nat → Prop} {x2 : Opx} {p2 : Nat} (ho : OpAt w2 ob S2 x2) (hn : Nx wi (Uc S cb) w2 (Uc S2 cb)) (hc : w2.heap[cb]? = some (.cells #[.int .i64 p2] 3 (0, 0))) (hS : ¬ S2 cb) : WsAt w S0 ob cb lb mb Bx A ca l w2 S2 x2 p2 := by
  have same : ∀ k, k < wi.heap.size → ¬ S k → k ≠ cb → w2.heap[k]? = wi.heap[k]? := fun k h1 h2 h3 => hn.block k h1 (fun q => q.elim h2 h3)
  have gr : ∀ k, S2 k → S k ∨ wi.heap.size ≤ k := fun k hk => by
    rcases hn.grow k (.inl hk) with (q | q) | q
    · exact .inl q
    · subst q; exact absurd hk hS
    · exact .inr q
  have nf : ∀ k, k < wi.heap.size → ¬ S k → ¬ S2 k := fun k h1 h2 q => (gr k q).elim h2 (fun z => by omega)
  have hlb : lb < wi.heap.size := World.block_lt_of_cell? _ _ h.ct.box
  have hmb : mb < wi.heap.size := h.lg.map.lt
  have hcell : ∀ b o v, wi.cell? ⟨b, o, none⟩ = some v → ¬ S b → b ≠ cb → w2.cell? ⟨b, o, none⟩ = some v := fun b o v hv h1 h2 => by
    rw [← hv]; exact World.cell?_of_block (same b (World.block_lt_of_cell? _ _ hv) h1 h2)
  refine ⟨ho, ⟨hc, hcell lb 0 _ h.ct.box h.far.l ap.l, fun j y hj => ?_, h.ct.ne, h.ct.ne2, h.ct.cap, h.ct.len⟩, ⟨?_, fun n h1 h2 => ?_⟩, ?_, ⟨hS, nf lb hlb h.far.l, nf mb hmb h.far.m, fun n h1 h2 => nf _ (lt_of_block (h.lg.box n h1 h2)) (h.far.b n h1 h2), fun g off hA => nf g (Nat.lt_of_lt_of_le (h.ag g off hA) h.nx.size) (h.far.a g off hA)⟩, h.new, h.ag⟩
  · obtain ⟨g, off, hA, hv⟩ := h.ct.at_ j y hj
    exact ⟨g, off, hA, hcell g _ _ hv (h.far.a g off hA) (ap.a g off hA)⟩
  · obtain ⟨es, clock, hb, r⟩ := h.lg.map
    exact ⟨es, clock, (same mb hmb h.far.m ap.m).trans hb, r⟩
  · exact (same _ (lt_of_block (h.lg.box n h1 h2)) (h.far.b n h1 h2) (ap.b n h1 h2)).trans (h.lg.box n h1 h2)
  · refine ⟨hn.os.trans h.nx.os, hn.tape.trans h.nx.tape, hn.output.trans h.nx.output, Nat.le_trans h.nx.size hn.size, fun k hk hs => ?_, fun k hk => ?_⟩
    · have hk2 : k < wi.heap.size := Nat.lt_of_lt_of_le hk h.nx.size
      have h1 : ¬ S k := fun q => (h.nx.grow k q).elim hs (fun z => by omega)
      rw [same k hk2 h1 (by have := h.new; omega)]
      exact h.nx.block k hk hs
    · rcases gr k hk with q | q
      · exact h.nx.grow k q
      · exact .inr (Nat.le_trans h.nx.size q)
end Go.Proofs.YtmcemaphhlcjfaaDoor
