/- slices.SortFunc at variables, by their names: a row whose names are apart holds the rising list behind it; condition: fewer than 100000 variables. -/
import Derived.Test.YtndoloohdloflabShelfV
import Derived.Test.YtndoloohdloflabVarsRef3
import Derived.Shelf.SlSortCmp.WholeK
namespace Go.Proofs.Ytndoloohdloflab
open Go.RowKit Go.Maps Go.Sort

instance : Inhabited Vr := ⟨vr0⟩
theorem cmpB_lt : ∀ (x y : List UInt8), decide (Lib.compareBytes x y < 0) = decide (x < y)
  | [], [] => by simp [Lib.compareBytes]
  | _ :: _, [] => by simp [Lib.compareBytes]
  | [], _ :: _ => by simp [Lib.compareBytes]
  | a :: x, b :: y => by
    rw [Lib.compareBytes]
    by_cases h1 : a < b
    · simp [h1, List.cons_lt_cons_iff]
    · rw [if_neg h1]
      by_cases h2 : b < a
      · have h3 : a ≠ b := by rintro rfl; exact h1 h2
        simp [h1, h2, h3, List.cons_lt_cons_iff]
      · have h3 : a = b := by
          have e1 := UInt8.not_lt.1 h1
          have e2 := UInt8.not_lt.1 h2
          exact UInt8.le_antisymm e2 e1
        subst h3
        rw [if_neg h2, cmpB_lt x y]
        simp
def cfV (x y : Vr) : Int := Lib.compareBytes x.nm y.nm
theorem ltV (x y : Vr) : ltOf cfV x y = decide (x.nm < y.nm) := cmpB_lt _ _
theorem swoV : SWO (ltOf cfV) where
  irrefl x := by rw [ltV]; exact decide_eq_false (lt_irr _)
  trans x y z h1 h2 := by
    rw [ltV] at *
    exact decide_eq_true (lt_tr (of_decide_eq_true h1) (of_decide_eq_true h2))
  ntrans x y z h1 h2 := by
    rw [ltV] at *
    refine decide_eq_false fun h => ?_
    have a1 := of_decide_eq_false h1
    have a2 := of_decide_eq_false h2
    rcases tri x.nm y.nm with h3 | h3 | h3
    · exact a1 h3
    · rw [h3] at h; exact a2 h
    · exact a2 (lt_tr h3 h)

theorem cmpVr_any (x y : Vr) (W : World) : Calls Try.prog 70 #[.agg #[.string x.name, .string x.value, .int .i64 x.flav, .int .i64 x.origin, .int .i64 x.export_], .agg #[.string y.name, .string y.value, .int .i64 y.flav, .int .i64 y.origin, .int .i64 y.export_]] W fun e w' => e = .returned (.int .i64 (cfV x y)) ∧ ∃ q os', w' = grow (W.drewN q) os' := by
  have hcon : ∀ W', Calls Try.prog 71 #[.string x.name, .string y.name] W' fun e w' => e = .returned (.int .i64 (cfV x y)) ∧ w' = W' := fun W' => Try.strings_Compare x.name y.name W'
  generalize cfV x y = r at hcon ⊢
  go_enter Try.func70, Try.ntmps70
  go_wp2_with (go_at_call 71; refine (hcon _).mono ?_; rintro e w' ⟨rfl, rfl⟩)
  go_ret
  exact ⟨rfl, 0, _, by rw [alloc_eq_grow, alloc_eq_grow, grow_grow]; rfl⟩

theorem flat_rows (l : List Vr) : (flatK Vr.cells 5 l.toArray).toList = vRows l := by
  apply List.ext_getElem?
  intro t
  have hs : (flatK Vr.cells 5 l.toArray).toList.length = l.length * 5 := by rw [Array.length_toList, size_flatK]; simp
  by_cases ht : t < l.length * 5
  · have hk : t / 5 < l.length := by omega
    have h1 := get_flatK Vr.cells 5 l.toArray t (by simpa using ht)
    rw [List.getElem?_eq_getElem (by rw [hs]; exact ht), Array.getElem_toList]
    rw [getElem!_pos _ t (by rw [size_flatK]; simpa using ht)] at h1
    rw [h1]
    obtain ⟨q, hq⟩ : ∃ q, l[t / 5]? = some q := ⟨_, List.getElem?_eq_getElem hk⟩
    obtain ⟨a0, a1, a2, a3, a4⟩ := vrow_at l (t / 5) _ hq
    have e : (l.toArray)[t / 5]! = q := by
      rw [getElem!_pos _ _ (by simpa using hk)]
      have := (List.getElem?_eq_some_iff.1 hq).2
      simpa using this
    have e3 : (vRows l)[t]? = (vRows l)[t / 5 * 5 + t % 5]? := by rw [show t / 5 * 5 + t % 5 = t by omega]
    rw [e, e3]
    have hm : t % 5 = 0 ∨ t % 5 = 1 ∨ t % 5 = 2 ∨ t % 5 = 3 ∨ t % 5 = 4 := by omega
    rcases hm with h | h | h | h | h
    · rw [h, Nat.add_zero, a0]; rfl
    · rw [h, a1]; rfl
    · rw [h, a2]; rfl
    · rw [h, a3]; rfl
    · rw [h, a4]; rfl
  · rw [List.getElem?_eq_none (by rw [hs]; omega), List.getElem?_eq_none (by rw [vRows_len]; omega)]

theorem up_ext : ∀ {a b : List Vr}, Up a → Up b → (∀ x, x ∈ a ↔ x ∈ b) → a = b
  | [], [], _, _, _ => rfl
  | [], y :: b, _, _, h => by have := (h y).2 (by simp); simp at this
  | x :: a, [], _, _, h => by have := (h x).1 (by simp); simp at this
  | x :: a, y :: b, ha, hb, h => by
    have ha1 := List.pairwise_cons.1 ha
    have hb1 := List.pairwise_cons.1 hb
    have e : x = y := by
      rcases List.mem_cons.1 ((h x).1 (by simp)) with e | h1
      · exact e
      rcases List.mem_cons.1 ((h y).2 (by simp)) with e | h2
      · exact e.symm
      · exact absurd (lt_tr (ha1.1 y h2) (hb1.1 x h1)) (lt_irr _)
    subst e
    rw [up_ext ha1.2 hb1.2 fun z => ?_]
    constructor
    · intro hz
      rcases List.mem_cons.1 ((h z).1 (by simp [hz])) with e | h1
      · subst e; exact absurd (ha1.1 z hz) (lt_irr _)
      · exact h1
    · intro hz
      rcases List.mem_cons.1 ((h z).2 (by simp [hz])) with e | h1
      · subst e; exact absurd (hb1.1 z hz) (lt_irr _)
      · exact h1

/-- what a sorted permutation of a list with names apart is -/
theorem sorted_is {cs l : List Vr} {d : Array Vr} (hp : PermIn 0 cs.toArray.size cs.toArray d) (hs : SortedIn (ltOf cfV) 0 cs.toArray.size d) (hu : Up l) (hm : ∀ x, x ∈ cs ↔ x ∈ l) (hnd : cs.Pairwise fun a b => a.nm ≠ b.nm) : d = l.toArray := by
  obtain ⟨h1, _, h3⟩ := hp
  have e1 : d.extract 0 cs.toArray.size = d := by rw [← h1]; simp
  have e2 : cs.toArray.extract 0 cs.toArray.size = cs.toArray := by simp
  rw [e1, e2] at h3
  have h3' : d.toList.Perm cs := h3
  have hnd2 : d.toList.Pairwise fun a b => a.nm ≠ b.nm := (h3'.pairwise_iff (fun {_ _} hne => Ne.symm hne)).2 hnd
  have hup : Up d.toList := by
    unfold Up
    rw [List.pairwise_iff_getElem] at hnd2 ⊢
    intro i j hi hj hij
    have hne := hnd2 i j hi hj hij
    have hi' : i < d.size := by simpa using hi
    have hj' : j < d.size := by simpa using hj
    have := hs i j (Nat.zero_le _) hij (by rw [← h1]; exact hj')
    rw [ltV, getElem!_pos d j hj', getElem!_pos d i hi'] at this
    have h4 := of_decide_eq_false this
    simp only [Array.getElem_toList] at hne ⊢
    rcases tri d[i].nm d[j].nm with h | h | h
    · exact h
    · exact absurd h hne
    · exact absurd h h4
  have : d.toList = l := up_ext hup hu fun x => (h3'.mem_iff).trans (hm x)
  rw [← this]
end Go.Proofs.Ytndoloohdloflab
