/- The next word of a list, as package opts asks it; conditions: lists that lie in memory. -/
import Derived.Test.YtmcemaphhlcjfaaDoorOptT
namespace Go.Proofs.YtmcemaphhlcjfaaDoor
open Go.RowKit

/-- the counter p at block cb, the list xs behind the box lb -/
structure CtAt (W : World) (cb lb : Nat) (A : Option Addr) (ca : Nat) (xs : List ByteArray) (p : Nat) : Prop where
  ctr : W.heap[cb]? = some (.cells #[.int .i64 p] 3 (0, 0))
  box : W.cell? ⟨lb, 0, none⟩ = some (.slice A xs.length ca)
  at_ : StrsAt W A xs
  ne : lb ≠ cb
  ne2 : ∀ g off, A = some ⟨g, off, none⟩ → g ≠ cb
  cap : xs.length ≤ ca
  len : xs.length ≤ 8796093022208

set_option maxRecDepth 100000 in
set_option maxHeartbeats 1000000 in
theorem next_end (cb lb : Nat) (A : Option Addr) (ca : Nat) (xs : List ByteArray) (p : Nat) (w : World) (h : CtAt w cb lb A ca xs p) (hp : ¬ p < xs.length) :
    Calls Tryd.prog 86 #[.pointer (some ⟨cb, 0, none⟩), .pointer (some ⟨lb, 0, none⟩)] w fun e w' => e = .returned (.tuple #[.string ⟨#[]⟩, .bool false]) ∧ w' = w := by
  obtain ⟨c0, _⟩ := rowo h.ctr (j := 0) rfl
  have kb := h.box
  obtain ⟨n, hn⟩ : ∃ n, xs.length = n := ⟨_, rfl⟩
  rw [hn] at kb hp
  have q : (n : Int) ≤ p := by omega
  clear h hn
  go_enter Tryd.func86, Tryd.ntmps86
  go_wp2
  go_ret2
  exact ⟨rfl, rfl⟩

set_option maxRecDepth 100000 in
set_option maxHeartbeats 1000000 in
theorem next_one (cb lb : Nat) (A : Option Addr) (ca : Nat) (xs : List ByteArray) (p : Nat) (w : World) (h : CtAt w cb lb A ca xs p) (v : ByteArray) (hv : xs[p]? = some v) :
    Calls Tryd.prog 86 #[.pointer (some ⟨cb, 0, none⟩), .pointer (some ⟨lb, 0, none⟩)] w fun e w' => e = .returned (.tuple #[.string v, .bool true]) ∧ w' = w.setCell ⟨cb, 0, none⟩ (.int .i64 ((p : Int) + 1)) := by
  obtain ⟨c0, f0⟩ := rowo h.ctr (j := 0) rfl
  have kb := h.box
  have hlen := h.len
  have hp : p < xs.length := (List.getElem?_eq_some_iff.1 hv).1
  obtain ⟨g, off, rfl, kx⟩ := h.at_ p v hv
  have hgc := h.ne2 g off rfl
  have hlc := h.ne
  obtain ⟨n, hn⟩ : ∃ n, xs.length = n := ⟨_, rfl⟩
  rw [hn] at kb hp hlen
  have q : ¬ (n : Int) ≤ p := by omega
  have q2 : (p : Int) < n := by omega
  obtain ⟨w2, hw2⟩ : ∃ w2, w.setCell ⟨cb, 0, none⟩ (.int .i64 ((p : Int) + 1)) = w2 := ⟨_, rfl⟩
  have hr2 : w2.heap[cb]? = some (.cells #[.int .i64 ((p : Int) + 1)] 3 (0, 0)) := by
    rw [← hw2]
    have := heap_setCell_same w cb 0 _ 3 (.int .i64 ((p : Int) + 1)) h.ctr
    simpa using this
  obtain ⟨d0, _⟩ := rowo hr2 (j := 0) (v := .int .i64 ((p : Int) + 1)) rfl
  have kb2 : w2.cell? ⟨lb, 0, none⟩ = some (.slice (some ⟨g, off, none⟩) n ca) := by
    rw [← kb, ← hw2]; exact World.cell?_of_block (Below.heap_setCell _ _ _ _ hlc)
  have kx2 : w2.cell? ⟨g, off + p, none⟩ = some (.string v) := by
    rw [← kx, ← hw2]; exact World.cell?_of_block (Below.heap_setCell _ _ _ _ hgc)
  have HW := Lib.hid hw2
  clear h hn hv kx hr2 hw2
  go_enter Tryd.func86, Tryd.ntmps86
  go_upto_region 4 with fail
  rw [HW.out]
  go_wp2
  go_ret2
  exact ⟨rfl, HW.out.symm⟩
end Go.Proofs.YtmcemaphhlcjfaaDoor
