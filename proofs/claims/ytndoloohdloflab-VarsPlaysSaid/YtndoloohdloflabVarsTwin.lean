/- Twin: another store with the same variables; condition: the names rise in the list by which the store is told. -/
import Derived.Test.YtndoloohdloflabVarsRef5
namespace Go.Proofs.Ytndoloohdloflab
open Go.RowKit Go.Maps

set_option maxRecDepth 100000 in
set_option maxHeartbeats 1000000 in
theorem Twin_any (w : World) (p m : Nat) (l : List Vr) (H : StoreAt w p m l) (hu : Up l) :
    Calls Try.prog 44 #[.pointer (some ⟨p, 0, none⟩)] w fun e w' => ∃ p2 m2, e = .returned (.pointer (some ⟨p2, 0, none⟩)) ∧ StoreAt w' p2 m2 l ∧ Below w.heap.size w w' ∧ w.heap.size ≤ p2 ∧ w.heap.size ≤ m2 := by
  have HH := Lib.hid H
  have HU := Lib.hid hu
  have hmlt := store_mlt H
  have hlen := H.len
  clear H hu
  obtain ⟨N, hN⟩ : ∃ N, l.length = N := ⟨_, rfl⟩
  have HN := Lib.hid hN
  rw [hN] at hlen
  clear hN
  go_enter Try.func44, Try.ntmps44
  go_wp2_with fail
  refine (New_any w).mono ?_
  rintro e wn ⟨p2, m2, rfl, S1, g1, hp2, hm2⟩
  have HHn := Lib.hid (HH.out.kept g1 (by simp) (by simp))
  have hbx := HHn.out.box.cell
  have hlx := HHn.out.box.lt
  have HM : Hid (wn.ownsMap Try.prog 9 RV m N (dOf l)) := by have := HHn.out.map; rw [HN.out] at this; exact this
  have HB1 := Lib.hid ((Below.refl _ w).grown g1 (Nat.le_refl _) (by simp))
  have HS1 := Lib.hid S1
  have hml2 := store_mlt S1
  have hg1s := g1.size
  have HP := Lib.hid (And.intro hp2 hm2)
  clear S1 g1 hp2
  go_wp2_with (at_range; refine wpList_range_own _ rfl _ 85 rfl 9 64 sk9 Try.underlying85 RV m _ (dOf l) rfl HM.out ?_; intro w0 hrg0 hg0 hs0)
  go_frame
  go_loopw [4, 5] (fun _ _ wr => ∃ (left : Lit → Bool) (cnt : Nat) (cs : List Vr), wr.ranges Try.prog 9 RV m wn.heap.size N (dOf l) left cnt ∧ Hid (StoreAt wr p2 m2 cs) ∧ cs.length + cnt ≤ N ∧ Hid (∀ x, x ∈ cs ↔ x ∈ l ∧ left (kl x.name) = false) ∧ Hid (Up cs) ∧ Below w.heap.size w wr ∧ wn.heap.size < wr.heap.size) (fun _ _ wr => wr.rangeLeft m wn.heap.size)
  case atStart =>
    refine ⟨_, _, [], hrg0, HS1.out.kept hg0 (by simp) (by simp), by rw [dOf_size, HN.out]; simp, ?_, Up.nil, HB1.out.grown hg0 (by omega) (by simp), by omega⟩
    intro x
    constructor
    · intro h; cases h
    · rintro ⟨h1, h2⟩
      have := dOf_has l x.name
      rw [h2, get_mem HU.out h1] at this
      cases this
  case round =>
    obtain ⟨left, cnt, cs, hrg, hst, hcn, hmem, hup, hbel, hsz⟩ := hrel
    go_wp2_with (at_next; refine wpList_next_ranges _ rfl _ rfl 9 sk9 RV Value.string (fun v : Value => v) (fun key z hk => key_string hk) (fun v y _ => ⟨v, rfl⟩) m wn.heap.size N _ left cnt rfl hrg ?_ ?_)
    · intro hc0 hl0
      have hE : cs = l := up_ext hup.out HU.out fun x => (hmem.out x).trans ⟨fun h => h.1, fun h => ⟨h, hl0 _⟩⟩
      rw [hE] at hst
      clear hmem hup hrg hrg0
      go_wp2
      go_ret
      exact ⟨p2, m2, rfl, hst.out, hbel, HP.out.1, HP.out.2⟩
    · intro x cv z y ps w1 cnt1 hkey hlx2 hR hat hrg1 hltc hg1 hs1 hen
      obtain ⟨q, hq, hzq⟩ := ranges_key hrg hlx2
      obtain rfl := key_lit hkey
      have hxq : x = q.name := by
        have : x.data.toList = q.name.data.toList := by unfold kl at hzq; injection hzq
        exact ba_ext this
      have hcv : cv = q.val := by
        have h1 := hat (.held vr0.val)
        rw [dOf_at, hxq, get_mem HU.out hq] at h1
        have h2 : y = .held cv := by
          unfold RV at hR
          injection hR with hR
          exact (congrArg Prod.fst hR).symm
        rw [h2] at h1
        injection h1 with h1
        exact h1.symm
      subst hcv
      subst hxq
      obtain ⟨q1, q2, q3, q4, q5⟩ := q
      unfold Vr.val at hen
      have hmem2 : Hid (∀ x, x ∈ putV cs ⟨q1, q2, q3, q4, q5⟩ ↔ x ∈ l ∧ (left (kl x.name) && !(kl x.name).sameKey (kl q1)) = false) := by
        intro v
        rw [put_mem, hmem.out v]
        constructor
        · rintro (rfl | ⟨⟨h1, h2⟩, h3⟩)
          · exact ⟨hq, by simp [kl, Lit.sameKey]⟩
          · exact ⟨h1, by rw [h2]; rfl⟩
        · rintro ⟨h1, h2⟩
          by_cases h6 : v.name = q1
          · left
            have h7 := get_mem HU.out h1
            have h8 := get_mem HU.out hq
            rw [h6] at h7
            rw [h7] at h8
            injection h8
          · right
            refine ⟨⟨h1, ?_⟩, h6⟩
            have h4 : (kl v.name).sameKey (kl q1) = false := by
              simp only [kl, Lit.sameKey, beq_eq_false_iff_ne]
              exact fun e => h6 (ba_ext e)
            rw [h4] at h2; simpa using h2
      have hlc : cs.length < 1000 := by omega
      have hSt1 := hst.out.kept hg1 (by intro e; cases e; have := store_mlt hst.out; have := hst.out.box.lt; have := HS1.out.box.lt; omega) (by intro e; cases e; omega)
      have hbel1 := hbel.grown hg1 hbel.size (by intro k e; cases e; omega)
      obtain ⟨w2, hrun, hown2, hgrow2⟩ := ((hSt1.map.alloc (.cells #[.string q1, .string q2, .int .i64 q3, .int .i64 q4, .int .i64 q5] 64)).drew).update sk9 Try.underlying85 (by unfold maxLen; omega) (key := .string q1) (val := (⟨q1, q2, q3, q4, q5⟩ : Vr).val) hkey (d := .held (⟨q1, q2, q3, q4, q5⟩ : Vr).val) (ps := []) rfl
      have hb1 : (w1.alloc (.cells #[.string q1, .string q2, .int .i64 q3, .int .i64 q4, .int .i64 q5] 64)).drew.cell? ⟨p2, 0, none⟩ = some (.map (some m2)) := (hSt1.box.alloc _).cell
      have hlp2 : p2 < w1.heap.size := hSt1.box.lt
      obtain ⟨r1, r2⟩ := stored (x := ⟨q1, q2, q3, q4, q5⟩) hSt1 hup.out (World.grownBy_alloc w1 _ none) (.inr hlc) hown2 hgrow2
      have R1 := Lib.hid r1
      have HUp2 := Lib.hid (put_up' ⟨q1, q2, q3, q4, q5⟩ hup.out)
      have hrg2 := hrg1.kept r2 (by intro e; cases e; omega) (by intro e; cases e; omega)
      have hbel2 := hbel1.grown r2 hbel1.size (by intro k e; cases e; exact HP.out.2)
      have hz2 := r2.size
      have hpl : (putV cs ⟨q1, q2, q3, q4, q5⟩).length = cs.length + 1 := by
        have hn : getV cs q1 = none := by
          cases hg : getV cs q1 with
          | none => rfl
          | some v =>
            obtain ⟨h1, h2⟩ := mem_get hg
            have h3 := ((hmem.out v).1 h1).2
            rw [h2] at h3
            rw [h3] at hlx2; cases hlx2
        obtain ⟨pp, hpp⟩ := place_ex cs hup.out q1.data.toList
        have hf : foundAt cs q1.data.toList pp = false := by rw [← get_some hup.out hpp, hn]; rfl
        rw [put_not (k := q1) _ rfl hup.out hpp hf]
        have := hpp.le
        simp; omega
      have HPL := Lib.hid hpl
      have HLE := Lib.hid hrg.left_eq
      have hz3 : wn.heap.size < w2.heap.size := by omega
      unfold Vr.val at hrun
      clear hrg hrg1 hat hR hkey hg1 hmem hup hbel hbel1 hq hown2 hgrow2 r1 r2 hst hSt1 hs1 hpl hz2
      go_wp2
      go_region
      go_wp2
      go_roundw
      case rel => exact ⟨_, cnt1, _, hrg2, R1, by rw [HPL.out]; omega, hmem2, HUp2, hbel2, hz3⟩
      case measure => rw [hrg2.left_eq, HLE.out]; exact hltc
end Go.Proofs.Ytndoloohdloflab
