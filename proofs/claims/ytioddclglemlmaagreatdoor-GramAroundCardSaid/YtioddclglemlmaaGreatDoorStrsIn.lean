/- A []string that came in: the texts stand one behind the other in memory; no condition. -/
import Derived.Test.YtioddclglemlmaaGreatDoorBaseO
import Derived.SliceStrings
import Derived.SizedLaws
namespace Go.Proofs.YtioddclglemlmaaGreatDoor
open Go.ChangeShapes Go.WideShapes Go.RowKit

def StrsAt (w : World) (A : Option Addr) (xs : List ByteArray) : Prop := ∀ j x, xs[j]? = some x → ∃ b o, A = some ⟨b, o, none⟩ ∧ w.cell? ⟨b, o + j, none⟩ = some (.string x)
theorem StrsAt.below {w w' : World} {A : Option Addr} {xs : List ByteArray} {base : Nat} (h : StrsAt w A xs) (hb : w.heap.size ≤ base) (hl : Below base w w') : StrsAt w' A xs := fun j x hj => by
  obtain ⟨b, o, e, hc⟩ := h j x hj
  exact ⟨b, o, e, (hl.cell (p := ⟨b, o + j, none⟩) (by have := World.block_lt_of_cell? _ _ hc; simp at this ⊢; omega)).trans hc⟩
theorem weightsAll_mem {H : Type} {P : Program} {e : TypeId} : ∀ (ss : List ByteArray), ∀ s ∈ ss, s.size ∈ DataW.weightsAll P e (strs (H := H) ss)
  | x :: l, s, h => by
    rw [strs, List.map_cons, DataW.weightsAll, List.mem_append]
    rcases List.mem_cons.1 h with rfl | h
    · left; simp [DataW.weights]
    · right; exact weightsAll_mem l s h

theorem isStrs_of {H : Type} {enc : TypeId × Value → H} {P : Program} {W : World} {T e : TypeId} (ht : P.underlying T = some (.slice e)) (he : P.underlying e = some .string) (hc : P.cellsOf e = 1) (hby : P.bytesOf e = 16)
    {ts : List TypeId} {ds : List (DataW H)} (hsz : (DataW.weightsEach P ts ds).all (· ≤ reachBytes) = true) {j : Nat} (hj : ts[j]? = some T) {d : DataW H} (hd : ds[j]? = some d) {A : Option Addr} {len cap : Nat} {ps : List MemPlace}
    (h : DataW.Trod enc P W 0 (fun _ => true) true T (.slice A len cap) d ps) :
    ∃ xs : List ByteArray, len = xs.length ∧ StrsAt W A xs ∧ xs.length ≤ 8796093022208 ∧ (∀ x ∈ xs, x.size ≤ 140737488351232) ∧ xs.length ≤ cap := by
  obtain ⟨fuel, hf⟩ := h
  have hf' : DataW.trod enc P W 0 (fun _ => true) true fuel T [.slice A len cap] = some (d, ps) := hf
  rcases open_strings ht he hc hf' with ⟨hcs, hx⟩ | ⟨a, len', cap', ss, hcs, _, hl, hm, hz, hx, hcell, _⟩
  · simp at hcs
    obtain ⟨rfl, rfl, rfl⟩ := hcs
    exact ⟨[], rfl, fun j x h => by simp at h, by simp, by simp, by simp⟩
  · simp at hcs
    obtain ⟨rfl, rfl, rfl⟩ := hcs
    simp only [if_true] at hz
    obtain ⟨rfl, rfl⟩ := Prod.mk.inj hx
    have hw := fun n hn => List.all_eq_true.1 hsz n (DataW.weights_mem_each hj hd n hn)
    simp only [DataW.weights, ht] at hw
    have h1 := hw _ (List.mem_cons_self)
    have h2 : ∀ x ∈ ss.take len, x.size ≤ reachBytes := fun x hx => by
      simpa using hw x.size (List.mem_cons_of_mem _ (List.mem_append_left _ (weightsAll_mem _ _ hx)))
    have hlen : (ss.take len).length = len := by rw [List.length_take]; omega
    refine ⟨ss.take len, hlen.symm, ?_, ?_, fun x hx => h2 x hx, by omega⟩
    · intro j x hjx
      have hjl : j < len := by have := (List.getElem?_eq_some_iff.1 hjx).1; omega
      obtain ⟨b, off, spot⟩ := a
      have hspot : spot = none := by simpa [Addr.add] using World.cell?_spot (hcell 0 (by omega))
      subst hspot
      refine ⟨b, off, rfl, ?_⟩
      have hX' : ss.getD j ByteArray.empty = x := by
        rw [List.getElem?_take_of_lt hjl] at hjx
        simp [List.getD, hjx]
      have hA : (⟨b, off, none⟩ : Addr).add j = ⟨b, off + j, none⟩ := by
        simp only [Addr.add]
        split
        · subst_vars; rfl
        · simp
      rw [← hA, ← hX']
      exact hcell j (by omega)
    · rw [hby] at h1
      have : ((ss.take len).length + (ss.drop len).length) * 16 ≤ 140737488351232 := by
        have := h1
        simp [strs, reachBytes] at this
        simp; omega
      omega
end Go.Proofs.YtioddclglemlmaaGreatDoor
