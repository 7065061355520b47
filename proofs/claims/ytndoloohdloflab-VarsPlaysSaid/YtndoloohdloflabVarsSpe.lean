/- VarsSpecial: the directories and names of every automatic variable. -/
import Derived.Test.YtndoloohdloflabVarsSpR
namespace Go.Proofs.Ytndoloohdloflab
open Go.RowKit Go.Maps

theorem StoreAt.move {w w' : World} {p m : Nat} {l : List Vr} (h : StoreAt w p m l) (hp : w'.heap[p]? = w.heap[p]?) (hm : w'.heap[m]? = w.heap[m]?) : StoreAt w' p m l := by
  obtain ⟨es, clock, hb, F, hs, hD⟩ := h.map
  exact ⟨hp.trans h.box, ⟨es, clock, hm.trans hb, F, hs, hD⟩, h.len⟩
theorem StoreAt.mlt {w : World} {p m : Nat} {l : List Vr} (h : StoreAt w p m l) : m < w.heap.size := by
  obtain ⟨es, clock, hb, _⟩ := h.map
  exact (Array.getElem?_eq_some_iff.1 hb).1
theorem RefAt.move {w w' : World} {r : Nat} {l : List Vr} (h : RefAt w r l) (hk : ∀ k, r ≤ k → k < w.heap.size → w'.heap[k]? = w.heap[k]?) : RefAt w' r l := by
  obtain ⟨v, h1, h2⟩ := h.own
  refine ⟨⟨v, (hk r (Nat.le_refl _) h.lt).trans h1, h2.move fun k hk2 => ?_⟩, h.up, h.len⟩
  have := h2.block_lt k hk2
  exact hk k (by omega) this.2
/-- the program's store and the reference's, with the same variables -/
structure Both (w : World) (p m r : Nat) (l : List Vr) : Prop where
  st : StoreAt w p m l
  rf : RefAt w r l
  pr : p < r
  mr : m < r
theorem Both.below {w w' : World} {p m r : Nat} {l : List Vr} (h : Both w p m r l) (hb : Below w.heap.size w w') : Both w' p m r l :=
  ⟨h.st.move (hb.block p (Nat.lt_trans h.pr h.rf.lt)) (hb.block m (Nat.lt_trans h.mr h.rf.lt)), h.rf.below hb, h.pr, h.mr⟩
theorem Both.prog {w w' : World} {p m r : Nat} {l : List Vr} (h : Both w p m r l) (hg : w.grownBy w' (some m)) : RefAt w' r l :=
  h.rf.move fun k h1 h2 => hg.block k h2 (by have := h.mr; intro e; cases e; omega)
theorem Both.ref {w w' : World} {p m r : Nat} {l : List Vr} (hs : StoreAt w p m l) (hr : RefAt w' r l) (hp : p < r) (hm : m < r) (hb : Below r w w') : Both w' p m r l :=
  ⟨hs.move (hb.block p hp) (hb.block m hm), hr, hp, hm⟩
theorem Both.start {w : World} {p m : Nat} (h : StoreAt w p m []) : Both (w.alloc (.cells #[.slice none 0 0] 50)) p m w.heap.size [] :=
  ⟨h.alloc _, ⟨⟨_, heap_alloc_last w _, OwnG.nil _ _ _ _⟩, Up.nil, by simp⟩, h.box.lt, h.mlt⟩

def endsL : List ByteArray := [⟨#[68]⟩, ⟨#[70]⟩, ⟨#[88]⟩, ⟨#[]⟩]
set_option maxRecDepth 100000 in
set_option maxHeartbeats 1000000 in
theorem VarsSpecial_walk (name value : ByteArray) (o : Int) (w : World) (hn : name.size ≤ 140737488351232) (hv : value.size ≤ 140737488351232) (ho : (Lit.int .i64 o).wf = true) :
    Calls Try.prog 9 #[.string name, .string value, .int .i64 o] w fun e w' => e = .returned (.bool true) ∧ Below w.heap.size w w' := by
  have HL := Lib.hid (varsAlive_any w)
  by_cases hg : (10 : Int) < name.size ∨ (5000 : Int) < value.size ∨ o < 1 ∨ o > 7
  · go_enter Try.func9, Try.ntmps9
    rcases hg with h1 | h1 | h1 | h1
    all_goals
      go_wp2_with (first | (go_at_call 36; refine (HL.out).mono ?_; rintro e w1 ⟨rfl, HB⟩) | (go_at_call 37; exfalso; omega))
    all_goals go_ret
    all_goals exact ⟨rfl, HB⟩
  · have hg1 : ¬ (10 : Int) < name.size := fun h => hg (.inl h)
    have hg2 : ¬ (5000 : Int) < value.size := fun h => hg (.inr (.inl h))
    have hg3 : ¬ o < 1 := fun h => hg (.inr (.inr (.inl h)))
    have hg4 : ¬ o > 7 := fun h => hg (.inr (.inr (.inr h)))
    have HSet := Lib.hid fun w p m (H : StoreAt w p m []) => Set_any w p m [] name value hn 2 o H
    have HRSet := Lib.hid fun w r (H : RefAt w r []) => refSet_any w r [] name value 2 o H
    obtain ⟨l, hl⟩ : ∃ l, setV [] name value 2 o = l := ⟨_, rfl⟩
    have HV : Hid (∀ k x, getV l k = some x → x.value.size ≤ 5000) := by
      intro k x hx
      rw [← hl] at hx
      have e : setV [] name value 2 o = [⟨name, value, 2, o, 0⟩] := by simp [setV, mayV, getV, putV, delV, insV, vr0]
      rw [e] at hx
      have := List.mem_of_find?_eq_some hx
      simp at this
      subst this
      show value.size ≤ 5000
      omega
    have HSp := Lib.hid fun w p m nm (h : nm.size ≤ 140737488351232) (H : StoreAt w p m l) => Special_any w p m l nm h H HV.out
    have HRSp := Lib.hid fun w r nm (h : nm.size ≤ 140737488351232) (H : RefAt w r l) => refSpecial_any w r l nm h H HV.out
    rw [hl] at HSet HRSet
    generalize mayV [] name o = M at HSet HRSet
    clear hl hg ho hv
    go_enter Try.func9, Try.ntmps9
    go_wp2_with (first | (go_at_call 36; refine (HL.out).mono ?_; rintro e w1 ⟨rfl, HB⟩) | (go_at_call 37; refine (New_any _).mono ?_; rintro e w2 ⟨p, m, rfl, S1, g1, hp, hm⟩; have B1 := Both.start S1; have HB1 := Lib.hid ((HB.grown g1 HB.size (by simp)).alloc (Nat.le_trans HB.size g1.size) (.cells #[.slice none 0 0] 50)); have HG1 := Lib.hid (Nat.le_trans HB.size g1.size); have HPM := Lib.hid (And.intro (Nat.le_trans HB.size hp) (Nat.le_trans HB.size hm)); clear S1 g1 hp hm) | (go_at_call 38; refine (HSet.out _ _ _ B1.st).mono ?_; rintro e w3 ⟨rfl, S3, g3⟩; have R3 := B1.prog g3; have HB3 := HB1.out.grown g3 HB1.out.size (by intro k e; cases e; exact HPM.out.2)) | (go_at_call 39; refine (HRSet.out _ _ R3).mono ?_; rintro e w4 ⟨rfl, R4, hb4⟩; have B4 := Both.ref S3 R4 B1.pr B1.mr hb4; have HB4 := HB3.trans (hb4.mono HG1.out); clear R3 R4 S3 hb4 g3))
    go_loopw [11, 12, 13, 14, 15] (fun i _ _ _ _ wi => ∃ k : Nat, i = .int .i64 k ∧ k ≤ 4 ∧ Both wi p m w2.heap.size l ∧ Below w.heap.size w wi ∧ Hid (∀ j x, endsL[j]? = some x → wi.cell? ⟨w4.heap.size, j, none⟩ = some (.string x) ∧ w4.heap.size < wi.heap.size)) (fun i _ _ _ _ _ => 4 - (intOf i).toNat)
    case atStart =>
      refine ⟨0, rfl, Nat.zero_le _, B4.below ((Below.refl _ _).alloc (Nat.le_refl _) _), HB4.alloc HB4.size _, ?_⟩
      intro j x hx
      have hj : j < 4 := (List.getElem?_eq_some_iff.1 hx).1
      have : j = 0 ∨ j = 1 ∨ j = 2 ∨ j = 3 := by omega
      rcases this with rfl | rfl | rfl | rfl <;> (cases hx; exact ⟨by unfold World.cell?; rw [heap_alloc_last]; rfl, by simp⟩)
    case round =>
      obtain ⟨k, rfl, hk, hB, hbel, hends⟩ := hrel
      by_cases hlt : k < 4
      · obtain ⟨x, hx⟩ : ∃ x, endsL[k]? = some x := ⟨_, List.getElem?_eq_getElem hlt⟩
        obtain ⟨hcx, hsz⟩ := hends.out k x hx
        have hxs : x.size ≤ 1 := by
          have : k = 0 ∨ k = 1 ∨ k = 2 ∨ k = 3 := by omega
          rcases this with rfl | rfl | rfl | rfl <;> (cases hx; decide)
        have q1 : (k : Int) < 4 := by omega
        have hnx : (name ++ x).size ≤ 140737488351232 := by rw [ByteArray.size_append]; omega
        have HEN := Lib.hid hends.out
        clear hx hends
        go_wp2_with (first | (go_at_call 40; refine (HSp.out _ _ _ _ hnx hB.st).mono ?_; rintro e w6 ⟨rfl, hb6⟩; have hB6 := hB.below hb6; have hcx6 : w6.cell? ⟨w4.heap.size, k, none⟩ = some (.string x) := (by rw [hb6.cell hsz]; exact hcx)) | (go_at_call 41; refine (HRSp.out _ _ _ hnx hB6.rf).mono ?_; rintro e w7 ⟨rfl, hb7⟩))
        have hb67 : Below wr.heap.size wr w7 := hb6.trans (hb7.mono hb6.size)
        exact ⟨⟨k + 1, by go_num, by omega, hB6.below hb7, hbel.trans (hb67.mono hbel.size), fun j y hy => ⟨by rw [hb67.cell (p := ⟨w4.heap.size, j, none⟩) hsz]; exact (HEN.out j y hy).1, Nat.lt_of_lt_of_le hsz hb67.size⟩⟩, by simp [intOf]; omega⟩
      · obtain rfl : k = 4 := by omega
        clear hends
        go_wp2
        go_ret
        exact ⟨rfl, hbel⟩
end Go.Proofs.Ytndoloohdloflab
