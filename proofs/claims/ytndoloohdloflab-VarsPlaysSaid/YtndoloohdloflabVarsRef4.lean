/- The reference's store: what Export and Append leave; conditions: a store that lies in memory, its names rising. -/
import Derived.Test.YtndoloohdloflabVarsExp
namespace Go.Proofs.Ytndoloohdloflab
open Go.RowKit Go.Maps

theorem ins_mem' (x : Vr) (l : List Vr) (v : Vr) : v ∈ insV x l ↔ v = x ∨ v ∈ l := by
  induction l with
  | nil => simp [insV]
  | cons y l ih =>
    simp only [insV]
    split
    · simp
    · rw [List.mem_cons, ih, List.mem_cons]
      constructor
      · rintro (h | h | h)
        · exact .inr (.inl h)
        · exact .inl h
        · exact .inr (.inr h)
      · rintro (h | h | h)
        · exact .inr (.inl h)
        · exact .inl h
        · exact .inr (.inr h)
theorem del_mem (l : List Vr) (k : ByteArray) (v : Vr) : v ∈ delV l k ↔ v ∈ l ∧ v.name ≠ k := by
  unfold delV
  rw [List.mem_filter]
  constructor
  · rintro ⟨h1, h2⟩
    exact ⟨h1, by rintro rfl; simp at h2⟩
  · rintro ⟨h1, h2⟩
    exact ⟨h1, by simp only [Bool.not_eq_true', beq_eq_false_iff_ne]; exact fun e => h2 (ba_ext e)⟩
theorem put_mem (l : List Vr) (x v : Vr) : v ∈ putV l x ↔ v = x ∨ (v ∈ l ∧ v.name ≠ x.name) := by
  unfold putV; rw [ins_mem', del_mem]
theorem put_put {l : List Vr} (hu : Up l) {x y : Vr} (h : x.name = y.name) : putV (putV l x) y = putV l y := by
  refine up_ext (put_up' _ (put_up' _ hu)) (put_up' _ hu) fun v => ?_
  rw [put_mem, put_mem, put_mem, h]
  constructor
  · rintro (h1 | ⟨h1 | h1, h2⟩)
    · exact .inl h1
    · rw [h1, h] at h2; exact absurd rfl h2
    · exact .inr h1
  · rintro (h1 | h1)
    · exact .inl h1
    · exact .inr ⟨.inr h1, h1.2⟩
theorem get_put {l : List Vr} (hu : Up l) (x : Vr) : getV (putV l x) x.name = some x := get_mem (put_up' x hu) ((put_mem l x x).2 (.inl rfl))
theorem vRows_set4 (a b : List Vr) (y : Vr) (how : Int) : (vRows (a ++ y :: b)).set (a.length * 5 + 4) (.int .i64 how) = vRows (a ++ ⟨y.name, y.value, y.flav, y.origin, how⟩ :: b) := by
  have hl := vRows_len a
  simp only [vRows_app, vRows, Vr.cells]
  rw [List.set_append_right _ _ (by omega), hl]
  simp only [Nat.add_sub_cancel_left]
  rfl
theorem RefAt.withExport {w : World} {r : Nat} {l : List Vr} (H : RefAt w r l) {k : ByteArray} {p : Nat} {y : Vr} (hy : getV l k = some y) (hp : PlaceOf l k.data.toList p) (how : Int) :
    ∃ g c, (p : Int) < l.length ∧ w.cell? ⟨r, 0, none⟩ = some (.slice (some ⟨g, 0, none⟩) l.length c) ∧ l.length ≤ c ∧ w.cell? ⟨g, p * 5 + 4, none⟩ = some (.int .i64 y.export_) ∧ w.frozen? ⟨g, p * 5 + 4, none⟩ = false ∧
      RefAt (w.setCell ⟨g, p * 5 + 4, none⟩ (.int .i64 how)) r (putV l ⟨y.name, y.value, y.flav, y.origin, how⟩) ∧ RowKit.Below r w (w.setCell ⟨g, p * 5 + 4, none⟩ (.int .i64 how)) := by
  have hf : foundAt l k.data.toList p = true := by rw [← get_some H.up hp, hy]; rfl
  have hyl : l[p]? = some y := by rw [← get_found H.up hp hf]; exact hy
  obtain ⟨hm, hn⟩ := mem_get hy
  obtain ⟨g, c, d1, d2, d3, d4, d5, d6, d7, d8, d9, d10, d11⟩ := H.row hyl
  obtain ⟨pt, pl⟩ := place_take hyl
  have hrows := vRows_set4 (l.take p) (l.drop (p + 1)) y how
  rw [← pt, pl] at hrows
  have hput := put_found (k := k) ⟨y.name, y.value, y.flav, y.origin, how⟩ hn H.up hp hf
  have hlt := (List.getElem?_eq_some_iff.1 hyl).1
  have hlen : (putV l ⟨y.name, y.value, y.flav, y.origin, how⟩).length = l.length := by rw [hput]; simp; omega
  refine ⟨g, c, by omega, d1, d3, d9, d10.ice _, ⟨⟨_, (Below.heap_setCell _ _ _ _ (show r ≠ g by omega)).trans d11, ?_⟩, put_up' _ H.up, by rw [hlen]; exact H.len⟩, (RowKit.Below.refl r w).setCell (p := ⟨g, p * 5 + 4, none⟩) (show r ≤ g by omega) _⟩
  rw [hlen, hput, ← hrows]
  exact d10.setAt _ _

set_option maxRecDepth 100000 in
set_option maxHeartbeats 1000000 in
theorem refExport_any (w : World) (r : Nat) (l : List Vr) (k : ByteArray) (how : Int) (H : RefAt w r l) :
    Calls Try.prog 76 #[.pointer (some ⟨r, 0, none⟩), .string k, .int .i64 how] w fun e w' => e = .returned (.tuple #[]) ∧ RefAt w' r (expV l k how) ∧ RowKit.Below r w w' := by
  by_cases hb : how < 0 ∨ how > 2
  · have he : expV l k how = l := by unfold expV; rw [if_pos hb]
    rw [he]
    clear he
    rcases hb with h | h
    all_goals
      go_enter Try.func76, Try.ntmps76
      go_wp2
      refine bodyPost_ret (results_none rfl _ _ _) rfl ?_
      exact ⟨rfl, H, RowKit.Below.refl _ _⟩
  · have hb1 : ¬ how < 0 := fun h => hb (.inl h)
    have hb2 : ¬ how > 2 := fun h => hb (.inr h)
    obtain ⟨S, hS⟩ : ∃ S, expV l k how = S := ⟨_, rfl⟩
    rw [hS]
    unfold expV at hS
    rw [if_neg hb] at hS
    have HA := Lib.hid fun w1 l1 (h : RefAt w1 r l1) => refAt_any w1 r l1 k h
    have HSet := Lib.hid fun w1 (h : RefAt w1 r l) => refSet_any w1 r l k ⟨#[]⟩ 1 3 h
    have HLT := Lib.hid (Nat.le_of_lt H.lt)
    have HH := Lib.hid H
    have hu := H.up
    have HU := Lib.hid hu
    rcases hg : getV l k with _ | v
    · rw [hg] at hS
      simp only at hS
      have hF : Hid (∀ p, PlaceOf l k.data.toList p → foundAt l k.data.toList p = false) := fun p hp => by rw [← get_some hu hp, hg]; rfl
      have hm : mayV l k 3 = decide (l.length < 1000) := by unfold mayV; rw [hg]
      by_cases hc : l.length < 1000
      · rw [if_pos hc] at hS
        have hm2 : mayV l k 3 = true := by rw [hm]; exact decide_eq_true hc
        have hst : setV l k ⟨#[]⟩ 1 3 = putV l ⟨k, ⟨#[]⟩, 1, 3, 0⟩ := by unfold setV; rw [hm2, if_pos rfl, hg]; rfl
        rw [hm2, hst] at HSet
        have hg2 : getV (putV l ⟨k, ⟨#[]⟩, 1, 3, 0⟩) k = some ⟨k, ⟨#[]⟩, 1, 3, 0⟩ := get_put hu ⟨k, ⟨#[]⟩, 1, 3, 0⟩
        have hpp : putV (putV l ⟨k, ⟨#[]⟩, 1, 3, 0⟩) ⟨k, ⟨#[]⟩, 1, 3, how⟩ = S := (put_put hu (x := ⟨k, ⟨#[]⟩, 1, 3, 0⟩) (y := ⟨k, ⟨#[]⟩, 1, 3, how⟩) rfl).trans hS
        obtain ⟨l1, hl1⟩ : ∃ l1, putV l ⟨k, ⟨#[]⟩, 1, 3, 0⟩ = l1 := ⟨_, rfl⟩
        rw [hl1] at HSet hg2 hpp
        have HG2 := Lib.hid hg2
        have HPP := Lib.hid hpp
        clear hm hm2 hst hl1 hg2 hpp hS hu H hg hc hb
        go_enter Try.func76, Try.ntmps76
        go_wp2_with fail
        refine (HA.out _ _ HH.out).mono ?_
        rintro e w1 ⟨p1, n1, rfl, hp1, hw1⟩
        have hR1 : RefAt w1 r l := by rw [hw1]; exact HH.out.below (below_drewN (RowKit.Below.refl _ _) n1)
        have HB1 : RowKit.Below r w w1 := by rw [hw1]; exact below_drewN (RowKit.Below.refl _ _) n1
        rw [hF.out p1 hp1]
        clear hp1 hw1
        go_wp2_with fail
        refine (HSet.out _ hR1).mono ?_
        rintro e w2 ⟨rfl, hR2, hb2⟩
        have HB2 := HB1.trans hb2
        clear hb2
        go_wp2_with fail
        refine (HA.out _ _ hR2).mono ?_
        rintro e w3 ⟨p, n3, rfl, hp, hw3⟩
        have hR3 : RefAt w3 r l1 := by rw [hw3]; exact hR2.below (below_drewN (RowKit.Below.refl _ _) n3)
        have HB3 : RowKit.Below r w w3 := by rw [hw3]; exact below_drewN HB2 n3
        obtain ⟨g, c, q1, d1, d2, d3, d4, d5, d6⟩ := hR3.withExport HG2.out hp how
        rw [HPP.out] at d5
        clear hw3 hp hR3 hR2 hR1
        go_wp2
        go_end0
        exact ⟨rfl, d5, HB3.trans d6⟩
      · rw [if_neg hc] at hS
        subst hS
        have hm2 : mayV l k 3 = false := by rw [hm]; exact decide_eq_false hc
        have hst : setV l k ⟨#[]⟩ 1 3 = l := by unfold setV; rw [hm2]; rfl
        rw [hm2, hst] at HSet
        clear hm hm2 hst hu H hg hc hb
        go_enter Try.func76, Try.ntmps76
        go_wp2_with fail
        refine (HA.out _ _ HH.out).mono ?_
        rintro e w1 ⟨p1, n1, rfl, hp1, hw1⟩
        have hR1 : RefAt w1 r l := by rw [hw1]; exact HH.out.below (below_drewN (RowKit.Below.refl _ _) n1)
        have HB1 : RowKit.Below r w w1 := by rw [hw1]; exact below_drewN (RowKit.Below.refl _ _) n1
        rw [hF.out p1 hp1]
        clear hp1 hw1
        go_wp2_with fail
        refine (HSet.out _ hR1).mono ?_
        rintro e w2 ⟨rfl, hR2, hb2⟩
        go_wp2
        refine bodyPost_ret (results_none rfl _ _ _) rfl ?_
        exact ⟨rfl, hR2, HB1.trans hb2⟩
    · rw [hg] at hS
      simp only at hS
      have HG := Lib.hid hg
      have HS := Lib.hid hS
      have hF : Hid (∀ p, PlaceOf l k.data.toList p → foundAt l k.data.toList p = true) := fun p hp => by rw [← get_some hu hp, hg]; rfl
      clear hS hu H hg hb
      go_enter Try.func76, Try.ntmps76
      go_wp2_with fail
      refine (HA.out _ _ HH.out).mono ?_
      rintro e w1 ⟨p1, n1, rfl, hp1, hw1⟩
      have hR1 : RefAt w1 r l := by rw [hw1]; exact HH.out.below (below_drewN (RowKit.Below.refl _ _) n1)
      have HB1 : RowKit.Below r w w1 := by rw [hw1]; exact below_drewN (RowKit.Below.refl _ _) n1
      rw [hF.out p1 hp1]
      clear hp1 hw1
      go_wp2_with fail
      refine (HA.out _ _ hR1).mono ?_
      rintro e w3 ⟨p, n3, rfl, hp, hw3⟩
      have hR3 : RefAt w3 r l := by rw [hw3]; exact hR1.below (below_drewN (RowKit.Below.refl _ _) n3)
      have HB3 : RowKit.Below r w w3 := by rw [hw3]; exact below_drewN HB1 n3
      obtain ⟨g, c, q1, d1, d2, d3, d4, d5, d6⟩ := hR3.withExport HG.out hp how
      rw [HS.out] at d5
      clear hw3 hp hR3 hR1
      go_wp2
      go_end0
      exact ⟨rfl, d5, HB3.trans d6⟩

set_option maxRecDepth 100000 in
set_option maxHeartbeats 1000000 in
theorem refAppend_any (w : World) (r : Nat) (l : List Vr) (k v : ByteArray) (o : Int) (hv : v.size ≤ 140737488351232) (hl : ∀ x, getV l k = some x → x.value.size ≤ 140737488351232) (H : RefAt w r l) :
    Calls Try.prog 72 #[.pointer (some ⟨r, 0, none⟩), .string k, .string v, .int .i64 o] w fun e w' => e = .returned (.bool (appV l k v o).1) ∧ RefAt w' r (appV l k v o).2 ∧ RowKit.Below r w w' := by
  have HG := Lib.hid (refGet_any w r l k H)
  have HS := Lib.hid fun w1 v f (h : RefAt w1 r l) => refSet_any w1 r l k v f o h
  have HH := Lib.hid H
  have HLT := Lib.hid (Nat.le_of_lt H.lt)
  clear H
  unfold appV
  rcases hg : getV l k with _ | ⟨n0, v0, f0, o0, e0⟩
  · rw [hg] at HG
    have HG2 : Hid (Calls Try.prog 47 #[.pointer (some ⟨r, 0, none⟩), .string k] w fun e w' => e = .returned (.tuple #[.agg #[.string ⟨#[]⟩, .string ⟨#[]⟩, .int .i64 0, .int .i64 0, .int .i64 0], .bool false]) ∧ RowKit.Below w.heap.size w w') := HG.out
    clear HG hg
    simp only
    go_enter Try.func72, Try.ntmps72
    go_wp2_with (first | (go_at_call 47; refine HG2.out.mono ?_; rintro e w1 ⟨rfl, hb1⟩; have HR1 := Lib.hid fun o => (HH.out.below hb1).below ((RowKit.Below.refl _ w1).alloc (Nat.le_refl _) o); have HB1 := Lib.hid fun o => (hb1.mono HLT.out).alloc (Nat.le_trans HLT.out hb1.size) o; clear hb1) | (go_at_call 39; refine (HS.out _ _ _ (HR1.out _)).mono ?_; rintro e w2 ⟨rfl, hr2, hb2⟩))
    go_ret
    exact ⟨rfl, hr2, (HB1.out _).trans hb2⟩
  · rw [hg] at HG
    have hv0 : v0.size ≤ 140737488351232 := hl _ hg
    have HG2 : Hid (Calls Try.prog 47 #[.pointer (some ⟨r, 0, none⟩), .string k] w fun e w' => e = .returned (.tuple #[.agg #[.string n0, .string v0, .int .i64 f0, .int .i64 o0, .int .i64 e0], .bool true]) ∧ RowKit.Below w.heap.size w w') := HG.out
    clear HG hg hl
    simp only
    by_cases hc : v0.size = 0
    · obtain rfl : v0 = ⟨#[]⟩ := by cases v0; congr; exact Array.size_eq_zero_iff.1 hc
      have hj : joinV ⟨#[]⟩ v = v := by simp [joinV, ByteArray.size]
      rw [hj]
      clear hj
      go_enter Try.func72, Try.ntmps72
      go_wp2_with (first | (go_at_call 47; refine HG2.out.mono ?_; rintro e w1 ⟨rfl, hb1⟩; have HR1 := Lib.hid fun o => (HH.out.below hb1).below ((RowKit.Below.refl _ w1).alloc (Nat.le_refl _) o); have HB1 := Lib.hid fun o => (hb1.mono HLT.out).alloc (Nat.le_trans HLT.out hb1.size) o; clear hb1) | (go_at_call 39; refine (HS.out _ _ _ (HR1.out _)).mono ?_; rintro e w2 ⟨rfl, hr2, hb2⟩))
      go_ret
      exact ⟨rfl, hr2, (HB1.out _).trans hb2⟩
    · have hj : joinV v0 v = v0 ++ ⟨#[32]⟩ ++ v := by simp [joinV, hc]
      have hne : (v0.toList == []) = false := by cases v0; simp [ByteArray.size] at hc; simp [ba_toList]; exact hc
      rw [hj]
      clear hj
      go_enter Try.func72, Try.ntmps72
      go_wp2_with (first | (go_at_call 47; refine HG2.out.mono ?_; rintro e w1 ⟨rfl, hb1⟩; have HR1 := Lib.hid fun o => (HH.out.below hb1).below ((RowKit.Below.refl _ w1).alloc (Nat.le_refl _) o); have HB1 := Lib.hid fun o => (hb1.mono HLT.out).alloc (Nat.le_trans HLT.out hb1.size) o; clear hb1) | (go_at_call 39; refine (HS.out _ _ _ (HR1.out _)).mono ?_; rintro e w2 ⟨rfl, hr2, hb2⟩))
      go_ret
      exact ⟨rfl, hr2, (HB1.out _).trans hb2⟩
end Go.Proofs.Ytndoloohdloflab
