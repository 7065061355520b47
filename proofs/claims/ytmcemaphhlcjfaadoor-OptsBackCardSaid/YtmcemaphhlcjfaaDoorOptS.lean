/- The options as package opts holds them, and the small functions that turn them; conditions: lists and texts that lie in memory. -/
import Derived.Test.YtmcemaphhlcjfaaDoorOptB
import Derived.Test.YtmcemaphhlcjfaaDoorNumJ
import Derived.Deep.Cut
namespace Go.Proofs.YtmcemaphhlcjfaaDoor
open Go.RowKit

structure Opx where
  j : Int
  bs : Nat → Bool
  nv : Bool
  fs : List ByteArray
  gs : List ByteArray
  vs : List ByteArray
def opRow (j : Int) (bs : Nat → Bool) (nv : Bool) (vf vg vv : Value) : Array Value :=
  #[.int .i64 j, .bool (bs 1), .bool (bs 2), .bool (bs 3), .bool (bs 4), .bool (bs 5), .bool (bs 6), .bool (bs 7), .bool (bs 8), .bool (bs 9), .bool nv, vf, vg, vv]
def Dj (a b : Value) : Prop := ∀ k, a.ownBlock = some k → b.ownBlock ≠ some k
def strV (xs : List ByteArray) : List Value := xs.map Value.string
def Opx.fits (x : Opx) : Prop := x.fs.length ≤ 1000000 ∧ x.gs.length ≤ 1000000 ∧ x.vs.length ≤ 1000000
/-- the options x stand at block ob; S: the blocks that are theirs -/
def OpAt (W : World) (ob : Nat) (S : Nat → Prop) (x : Opx) : Prop :=
  ∃ vf vg vv, W.heap[ob]? = some (.cells (opRow x.j x.bs x.nv vf vg vv) 47 (0, 0)) ∧ OwnG W 0 9 1 vf x.fs.length (strV x.fs) ∧ OwnG W 0 9 1 vg x.gs.length (strV x.gs) ∧ OwnG W 0 9 1 vv x.vs.length (strV x.vs) ∧
    Dj vf vg ∧ Dj vf vv ∧ Dj vg vv ∧ S ob ∧ (∀ k, vf.ownBlock = some k → S k) ∧ (∀ k, vg.ownBlock = some k → S k) ∧ (∀ k, vv.ownBlock = some k → S k)
/-- from W to W' nothing but the blocks S was written; S' are those, and new ones -/
structure Nx (W : World) (S : Nat → Prop) (W' : World) (S' : Nat → Prop) : Prop where
  os : W'.os = W.os
  tape : W'.tape = W.tape
  output : W'.output = W.output
  size : W.heap.size ≤ W'.heap.size
  block : ∀ k, k < W.heap.size → ¬ S k → W'.heap[k]? = W.heap[k]?
  grow : ∀ k, S' k → S k ∨ W.heap.size ≤ k
theorem Nx.refl (W : World) (S : Nat → Prop) : Nx W S W S := ⟨rfl, rfl, rfl, Nat.le_refl _, fun _ _ _ => rfl, fun _ h => .inl h⟩
theorem Nx.trans {W W1 W2 : World} {S S1 S2 : Nat → Prop} (h : Nx W S W1 S1) (k : Nx W1 S1 W2 S2) : Nx W S W2 S2 := by
  refine ⟨k.os.trans h.os, k.tape.trans h.tape, k.output.trans h.output, Nat.le_trans h.size k.size, fun b hb hn => ?_, fun b hb => ?_⟩
  · rw [k.block b (Nat.lt_of_lt_of_le hb h.size) (fun h1 => (h.grow b h1).elim hn (fun h2 => by omega)), h.block b hb hn]
  · rcases k.grow b hb with h1 | h1
    · exact h.grow b h1
    · exact .inr (Nat.le_trans h.size h1)
theorem Nx.below {W W' : World} {S S' : Nat → Prop} {B : Nat} (h : Nx W S W' S') (hS : ∀ k, S k → B ≤ k) (hB : B ≤ W.heap.size) : Below B W W' :=
  ⟨h.os, h.tape, h.output, h.size, fun k hk => h.block k (by omega) (fun hs => by have := hS k hs; omega)⟩
theorem Nx.of_below {W W' : World} (S : Nat → Prop) (h : Below W.heap.size W W') : Nx W S W' S := ⟨h.os, h.tape, h.output, h.size, fun k hk _ => h.block k hk, fun _ h => .inl h⟩
theorem OpAt.below {W W' : World} {ob : Nat} {S : Nat → Prop} {x : Opx} (h : OpAt W ob S x) (hb : Below W.heap.size W W') : OpAt W' ob S x := by
  obtain ⟨vf, vg, vv, h1, h2, h3, h4, r⟩ := h
  exact ⟨vf, vg, vv, (hb.block _ (lt_of_block h1)).trans h1, h2.below hb, h3.below hb, h4.below hb, r⟩
theorem OpAt.lt {W : World} {ob : Nat} {S : Nat → Prop} {x : Opx} (h : OpAt W ob S x) : ob < W.heap.size := by
  obtain ⟨_, _, _, h1, _⟩ := h; exact lt_of_block h1
theorem own_ne {w : World} {base b : Nat} {e t : TypeId} {size : Nat} {v : Value} {n : Nat} {xs : List Value} {cs : Array Value} (h : OwnG w base e size v n xs) (hb : w.heap[b]? = some (.cells cs t (0, 0))) (ht : t ≠ e) : v.ownBlock ≠ some b := by
  intro hk
  rcases h.2 with ⟨rfl, _⟩ | ⟨g, cap, cur, rfl, _, hg, _⟩
  · simp [Value.ownBlock] at hk
  · obtain rfl : g = b := by simpa [Value.ownBlock] using hk
    rw [hb] at hg
    cases hg; exact ht rfl

/-- the cell of a letter's option; 0: none -/
def plN (c : UInt8) : Nat := if c = 107 then 1 else if c = 110 then 2 else if c = 116 then 3 else if c = 113 then 4 else if c = 115 then 5 else if c = 105 then 6 else if c = 101 then 7 else if c = 114 then 8 else if c = 66 then 9 else 0
def plV (ob : Nat) (n : Nat) : Value := if n = 0 then .pointer none else .pointer (some ⟨ob, n, none⟩)
theorem pl_cases (c : UInt8) : (c = 107 ∧ plN c = 1) ∨ (c = 110 ∧ plN c = 2) ∨ (c = 116 ∧ plN c = 3) ∨ (c = 113 ∧ plN c = 4) ∨ (c = 115 ∧ plN c = 5) ∨ (c = 105 ∧ plN c = 6) ∨ (c = 101 ∧ plN c = 7) ∨ (c = 114 ∧ plN c = 8) ∨ (c = 66 ∧ plN c = 9) ∨
    ((c ≠ 107 ∧ c ≠ 110 ∧ c ≠ 116 ∧ c ≠ 113 ∧ c ≠ 115 ∧ c ≠ 105 ∧ c ≠ 101 ∧ c ≠ 114 ∧ c ≠ 66) ∧ plN c = 0) := by
  unfold plN
  by_cases h1 : c = 107
  · left; exact ⟨h1, by rw [if_pos h1]⟩
  right
  by_cases h2 : c = 110
  · left; exact ⟨h2, by rw [if_neg h1, if_pos h2]⟩
  right
  by_cases h3 : c = 116
  · left; exact ⟨h3, by rw [if_neg h1, if_neg h2, if_pos h3]⟩
  right
  by_cases h4 : c = 113
  · left; exact ⟨h4, by rw [if_neg h1, if_neg h2, if_neg h3, if_pos h4]⟩
  right
  by_cases h5 : c = 115
  · left; exact ⟨h5, by rw [if_neg h1, if_neg h2, if_neg h3, if_neg h4, if_pos h5]⟩
  right
  by_cases h6 : c = 105
  · left; exact ⟨h6, by rw [if_neg h1, if_neg h2, if_neg h3, if_neg h4, if_neg h5, if_pos h6]⟩
  right
  by_cases h7 : c = 101
  · left; exact ⟨h7, by rw [if_neg h1, if_neg h2, if_neg h3, if_neg h4, if_neg h5, if_neg h6, if_pos h7]⟩
  right
  by_cases h8 : c = 114
  · left; exact ⟨h8, by rw [if_neg h1, if_neg h2, if_neg h3, if_neg h4, if_neg h5, if_neg h6, if_neg h7, if_pos h8]⟩
  right
  by_cases h9 : c = 66
  · left; exact ⟨h9, by rw [if_neg h1, if_neg h2, if_neg h3, if_neg h4, if_neg h5, if_neg h6, if_neg h7, if_neg h8, if_pos h9]⟩
  right
  exact ⟨⟨h1, h2, h3, h4, h5, h6, h7, h8, h9⟩, by rw [if_neg h1, if_neg h2, if_neg h3, if_neg h4, if_neg h5, if_neg h6, if_neg h7, if_neg h8, if_neg h9]⟩

set_option maxRecDepth 100000 in
set_option maxHeartbeats 1000000 in
theorem place_any (ob : Nat) (c : UInt8) (w : World) : Calls Tryd.prog 53 #[.pointer (some ⟨ob, 0, none⟩), .int .u8 c.toNat] w fun e w' => e = .returned (plV ob (plN c)) ∧ w' = w := by
  rcases pl_cases c with ⟨rfl, hp⟩ | ⟨rfl, hp⟩ | ⟨rfl, hp⟩ | ⟨rfl, hp⟩ | ⟨rfl, hp⟩ | ⟨rfl, hp⟩ | ⟨rfl, hp⟩ | ⟨rfl, hp⟩ | ⟨rfl, hp⟩ | ⟨⟨h1, h2, h3, h4, h5, h6, h7, h8, h9⟩, hp⟩
  all_goals
    rw [hp]
    clear hp
  all_goals
    try
      have n1 : ((c.toNat : Int) == 107) = false := beq_eq_false_iff_ne.2 (fun e => h1 (UInt8.toNat_inj.1 (by show _ = 107; omega)))
      have n2 : ((c.toNat : Int) == 110) = false := beq_eq_false_iff_ne.2 (fun e => h2 (UInt8.toNat_inj.1 (by show _ = 110; omega)))
      have n3 : ((c.toNat : Int) == 116) = false := beq_eq_false_iff_ne.2 (fun e => h3 (UInt8.toNat_inj.1 (by show _ = 116; omega)))
      have n4 : ((c.toNat : Int) == 113) = false := beq_eq_false_iff_ne.2 (fun e => h4 (UInt8.toNat_inj.1 (by show _ = 113; omega)))
      have n5 : ((c.toNat : Int) == 115) = false := beq_eq_false_iff_ne.2 (fun e => h5 (UInt8.toNat_inj.1 (by show _ = 115; omega)))
      have n6 : ((c.toNat : Int) == 105) = false := beq_eq_false_iff_ne.2 (fun e => h6 (UInt8.toNat_inj.1 (by show _ = 105; omega)))
      have n7 : ((c.toNat : Int) == 101) = false := beq_eq_false_iff_ne.2 (fun e => h7 (UInt8.toNat_inj.1 (by show _ = 101; omega)))
      have n8 : ((c.toNat : Int) == 114) = false := beq_eq_false_iff_ne.2 (fun e => h8 (UInt8.toNat_inj.1 (by show _ = 114; omega)))
      have n9 : ((c.toNat : Int) == 66) = false := beq_eq_false_iff_ne.2 (fun e => h9 (UInt8.toNat_inj.1 (by show _ = 66; omega)))
      clear h1 h2 h3 h4 h5 h6 h7 h8 h9
    go_enter Tryd.func53, Tryd.ntmps53
    go_wp2
    go_ret
    exact ⟨rfl, rfl⟩
end Go.Proofs.YtmcemaphhlcjfaaDoor
