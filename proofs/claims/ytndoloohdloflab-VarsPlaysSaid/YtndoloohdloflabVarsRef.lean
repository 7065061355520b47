/- The reference's store: what at, Get, Set answer and leave; conditions: a store that lies in memory, its names rising. -/
import Derived.Test.YtndoloohdloflabVarsPure
import Derived.Test.YtndoloohdloflabCopyN
import Derived.Deep.RegionLaw
namespace Go.Proofs.Ytndoloohdloflab
open Go.RowKit Go.Maps

def Vr.cells (v : Vr) : List Value := [.string v.name, .string v.value, .int .i64 v.flav, .int .i64 v.origin, .int .i64 v.export_]
def vRows : List Vr → List Value
  | [] => []
  | x :: l => x.cells ++ vRows l
theorem vRows_len (l : List Vr) : (vRows l).length = l.length * 5 := by
  induction l with
  | nil => rfl
  | cons x l ih => simp [vRows, ih, Vr.cells]; omega
theorem vRows_app (a b : List Vr) : vRows (a ++ b) = vRows a ++ vRows b := by
  induction a with
  | nil => rfl
  | cons x a ih => simp [vRows, ih]
theorem vrow_at : ∀ (l : List Vr) (k : Nat) (q : Vr), l[k]? = some q →
    (vRows l)[k * 5]? = some (.string q.name) ∧ (vRows l)[k * 5 + 1]? = some (.string q.value) ∧ (vRows l)[k * 5 + 2]? = some (.int .i64 q.flav) ∧ (vRows l)[k * 5 + 3]? = some (.int .i64 q.origin) ∧ (vRows l)[k * 5 + 4]? = some (.int .i64 q.export_)
  | [], k, q, h => by simp at h
  | p :: l, 0, q, h => by
    simp at h; subst h
    exact ⟨rfl, rfl, rfl, rfl, rfl⟩
  | p :: l, k + 1, q, h => by
    have ih := vrow_at l k q (by simpa using h)
    have hl : (p.cells).length = 5 := rfl
    have e : ∀ d, (vRows (p :: l))[(k + 1) * 5 + d]? = (vRows l)[k * 5 + d]? := by
      intro d
      rw [vRows, List.getElem?_append_right (by rw [hl]; omega), hl]
      congr 1; omega
    exact ⟨(e 0).trans ih.1, (e 1).trans ih.2.1, (e 2).trans ih.2.2.1, (e 3).trans ih.2.2.2.1, (e 4).trans ih.2.2.2.2⟩
/-- the reference's store at r has the variables l -/
structure RefAt (w : World) (r : Nat) (l : List Vr) : Prop where
  own : ∃ v, w.heap[r]? = some (.cells #[v] 50 (0, 0)) ∧ OwnG w (r + 1) 64 5 v l.length (vRows l)
  up : Up l
  len : l.length ≤ 1000
theorem RefAt.lt {w : World} {r : Nat} {l : List Vr} (h : RefAt w r l) : r < w.heap.size := by
  obtain ⟨v, h1, _⟩ := h.own
  exact (Array.getElem?_eq_some_iff.1 h1).1
theorem RefAt.below {w w' : World} {r : Nat} {l : List Vr} (h : RefAt w r l) (hb : Below w.heap.size w w') : RefAt w' r l := by
  obtain ⟨v, h1, h2⟩ := h.own
  exact ⟨⟨v, (hb.block r h.lt).trans h1, h2.below hb⟩, h.up, h.len⟩

set_option maxRecDepth 100000 in
theorem refAt_any (w : World) (r : Nat) (l : List Vr) (k : ByteArray) (H : RefAt w r l) :
    Calls Try.prog 62 #[.pointer (some ⟨r, 0, none⟩), .string k] w fun e w' => ∃ p n : Nat, e = .returned (.tuple #[.int .i64 p, .bool (foundAt l k.data.toList p)]) ∧ PlaceOf l k.data.toList p ∧ w' = w.drewN n := by
  obtain ⟨v, hbx, hv⟩ := H.own
  obtain ⟨A, c, rfl, hc1, hc2⟩ := hv.form
  have hb : w.cell? ⟨r, 0, none⟩ = some (.slice A l.length c) := by simp [World.cell?, hbx]
  have hlt := H.lt
  have hlen := H.len
  have HS : Hid (∀ j y, l[j]? = some y → ∃ b, A = some ⟨b, 0, none⟩ ∧ w.cell? ⟨b, j * 5, none⟩ = some (.string y.name)) := by
    intro j y hy
    have h1 := (vrow_at l j y hy).1
    rcases hv.2 with ⟨h0, h2⟩ | ⟨g, cap, cur, e, hg, hbk, hnc, hcm, hcs, ht⟩
    · have := (List.getElem?_eq_some_iff.1 hy).1; omega
    · cases e
      refine ⟨g, rfl, ?_⟩
      rw [← ht, List.getElem?_take] at h1
      split at h1
      · simp only [World.cell?, hbk]; simpa using h1
      · cases h1
  have HU := Lib.hid H.up
  clear H hv hbx
  obtain ⟨L, hL⟩ : ∃ L, l.length = L := ⟨_, rfl⟩
  rw [hL] at hb hlen hc1
  have HL := Lib.hid hL
  clear hL
  obtain ⟨K, hK⟩ : ∃ K, k.data.toList = K := ⟨_, rfl⟩
  have HK := Lib.hid hK
  rw [hK]
  clear hK
  go_enter Try.func62, Try.ntmps62
  go_wp2
  go_loopw [6, 7, 8] (fun a b _ wi => ∃ s t : Nat, a = .int .i64 s ∧ b = .int .i64 t ∧ s ≤ t ∧ t ≤ L ∧ Hid (∀ j y, l[j]? = some y → j < s → y.nm < K) ∧ Hid (∀ j y, l[j]? = some y → t ≤ j → ¬ y.nm < K) ∧ wi = w) (fun a b _ _ => (intOf b).toNat - (intOf a).toNat)
  case atStart => exact ⟨0, L, rfl, rfl, Nat.zero_le _, Nat.le_refl _, fun j y _ h => by omega, fun j y h1 h2 => by have := (List.getElem?_eq_some_iff.1 h1).1; have := HL.out; omega, rfl⟩
  case round =>
    obtain ⟨s, t, rfl, rfl, hst, htL, hlo, hhi, rfl⟩ := hrel
    by_cases hgo : s < t
    · obtain ⟨m, hm⟩ : ∃ m, (s + t) / 2 = m := ⟨_, rfl⟩
      have hm1 : s ≤ m := by omega
      have hm2 : m < t := by omega
      have hmL : m < L := by omega
      obtain ⟨y, hy⟩ : ∃ y, l[m]? = some y := ⟨_, List.getElem?_eq_getElem (by rw [HL.out]; exact hmL)⟩
      obtain ⟨b2, rfl, hcy⟩ := HS.out m y hy
      have q2 : (s : Int) < t := by omega
      have q3 : IntKind.i64.wrap ((s : Int) + t) = ((s + t : Nat) : Int) := by rw [IntWalk.i64_in _ (by omega)]; omega
      have q4 : (((s : Int) + t).tdiv 2) = (m : Int) := by
        rw [Int.tdiv_eq_ediv_of_nonneg (by omega)]; omega
      have q5 : ((m : Int) < L) := by omega
      have q6 : (0 : Int) ≤ m := by omega
      by_cases hq : y.nm < K
      · have HLO : Hid (∀ j z, l[j]? = some z → j < m + 1 → z.nm < K) := by
          intro j z hz hj
          rcases Nat.lt_or_eq_of_le (Nat.lt_succ_iff.1 hj) with h | h
          · exact lt_tr (HU.out.at hz hy h) hq
          · subst h; rw [hz] at hy; cases hy; exact hq
        have hb3 : Op.bytesLess y.name.toList k.toList = true := by rw [bless, ba_toList, ba_toList, HK.out]; exact decide_eq_true hq
        clear hlo hy
        go_wp2
        exact ⟨⟨m + 1, t, by go_num, rfl, by omega, htL, HLO, hhi, trivial⟩, by simp [intOf]; omega⟩
      · have HHI : Hid (∀ j z, l[j]? = some z → m ≤ j → ¬ z.nm < K) := by
          intro j z hz hj h
          rcases Nat.lt_or_eq_of_le hj with h2 | h2
          · exact hq (lt_tr (HU.out.at hy hz h2) h)
          · subst h2; rw [hz] at hy; cases hy; exact hq h
        have hb3 : Op.bytesLess y.name.toList k.toList = false := by rw [bless, ba_toList, ba_toList, HK.out]; exact decide_eq_false hq
        clear hhi hy
        go_wp2
        exact ⟨⟨s, m, rfl, rfl, by omega, by omega, hlo, HHI, trivial⟩, by simp [intOf]; omega⟩
    · obtain rfl : s = t := by omega
      have q2 : ¬ (s : Int) < s := by omega
      have HP : Hid (PlaceOf l K s) := PlaceOf.mk' (by rw [HL.out]; exact htL) hlo.out hhi.out
      by_cases hpL : s < L
      · obtain ⟨y, hy⟩ : ∃ y, l[s]? = some y := ⟨_, List.getElem?_eq_getElem (by rw [HL.out]; exact hpL)⟩
        obtain ⟨b2, rfl, hcy⟩ := HS.out s y hy
        have q3 : (s : Int) < L := by omega
        have hF : Hid (foundAt l K s = (y.name.toList == k.toList)) := by unfold Hid foundAt; rw [hy, ba_toList, ba_toList, HK.out]; rfl
        obtain ⟨f, hf⟩ : ∃ f, (y.name.toList == k.toList) = f := ⟨_, rfl⟩
        rw [hf] at hF
        clear hy
        go_wp2
        go_quiet (fail)
        rename_i nq
        go_wp2
        go_ret2
        exact ⟨s, nq, by rw [hF.out]; rfl, HP.out, rfl⟩
      · have q3 : ¬ (s : Int) < L := by omega
        have hF : Hid (foundAt l K s = false) := by unfold Hid foundAt; rw [List.getElem?_eq_none (by rw [HL.out]; omega)]
        go_wp2
        go_quiet (fail)
        rename_i nq
        go_wp2
        go_ret2
        exact ⟨s, nq, by rw [hF.out]; rfl, HP.out, rfl⟩
end Go.Proofs.Ytndoloohdloflab
