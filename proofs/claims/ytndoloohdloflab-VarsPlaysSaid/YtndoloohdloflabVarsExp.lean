/- The store: what Export leaves, in the program; condition: names that lie in memory. -/
import Derived.Test.YtndoloohdloflabVarsList
namespace Go.Proofs.Ytndoloohdloflab
open Go.RowKit Go.Maps

def expV (l : List Vr) (k : ByteArray) (how : Int) : List Vr := if how < 0 ∨ how > 2 then l else match getV l k with
  | some v => putV l ⟨v.name, v.value, v.flav, v.origin, how⟩
  | none => if l.length < 1000 then putV l ⟨k, ⟨#[]⟩, 1, 3, how⟩ else l
theorem put_len_le {l : List Vr} (x : Vr) (hu : Up l) (hl : l.length ≤ 1000) (h : getV l x.name ≠ none ∨ l.length < 1000) : (putV l x).length ≤ 1000 := by
  obtain ⟨p, hp⟩ := place_ex l hu x.name.data.toList
  cases hf : foundAt l x.name.data.toList p with
  | true =>
    rw [put_found x rfl hu hp hf]
    obtain ⟨y, hy, _⟩ := found_ex hf
    have := (List.getElem?_eq_some_iff.1 hy).1
    simp; omega
  | false =>
    rw [put_not x rfl hu hp hf]
    have e := get_not hu hp hf
    have := hp.le
    rcases h with h | h
    · exact absurd e h
    · simp; omega
/-- behind a store of an entry -/
theorem stored {w wx w2 : World} {p m : Nat} {l : List Vr} {x : Vr} (H : StoreAt w p m l) (hu : Up l) (hg : w.grownBy wx none) (h : getV l x.name ≠ none ∨ l.length < 1000)
    (hown2 : w2.ownsMap Try.prog 9 RV m (l.length + 1) ((dOf l).put (.string x.name.data.toList) (.held x.val))) (hgrow2 : wx.drew.grownBy w2 (some m)) : StoreAt w2 p m (putV l x) ∧ w.grownBy w2 (some m) := by
  have hp := dOf_put l x
  unfold kl at hp
  rw [hp] at hown2
  have ht := own_tight hown2
  rw [dOf_size] at ht
  have g12 : w.grownBy w2 (some m) := (hg.but (some m)).trans ⟨hgrow2.os, hgrow2.tape, hgrow2.output, hgrow2.size, hgrow2.block⟩
  exact ⟨⟨H.box.kept g12 (fun e => H.ne (by simpa using e)), ht, put_len_le x hu H.len h⟩, g12⟩

set_option maxRecDepth 100000 in
set_option maxHeartbeats 1000000 in
theorem Export_any (w : World) (p m : Nat) (l : List Vr) (k : ByteArray) (hk : k.size ≤ 140737488351232) (how : Int) (hu : Up l) (H : StoreAt w p m l) :
    Calls Try.prog 75 #[.pointer (some ⟨p, 0, none⟩), .string k, .int .i64 how] w fun e w' => e = .returned (.tuple #[]) ∧ StoreAt w' p m (expV l k how) ∧ w.grownBy w' (some m) := by
  by_cases hb : how < 0 ∨ how > 2
  · have h0 : ¬ how = 0 := by omega
    have h1 : ¬ how = 1 := by omega
    have h2 : ¬ how = 2 := by omega
    have he : expV l k how = l := by unfold expV; rw [if_pos hb]
    rw [he]
    clear he hb
    go_enter Try.func75, Try.ntmps75
    go_wp2
    go_end0
    exact ⟨rfl, H, ⟨rfl, rfl, rfl, Nat.le_refl _, fun _ _ _ => rfl⟩⟩
  · obtain ⟨S, hS⟩ : ∃ S, expV l k how = S := ⟨_, rfl⟩
    rw [hS]
    unfold expV at hS
    rw [if_neg hb] at hS
    have HH := Lib.hid H
    have hbx := H.box.cell
    have hlt := H.box.lt
    have HK : Hid (k.size ≤ maxLen) := by unfold Hid maxLen; omega
    have hlen := H.len
    have hex : how = 0 ∨ how = 1 ∨ how = 2 := by omega
    clear H hb
    rcases hg : getV l k with _ | ⟨n0, v0, f0, o0, e0⟩
    · have HR : Hid ((getV l k).getD vr0 = vr0) := by unfold Hid; rw [hg]; rfl
      have HF : Hid ((getV l k).isSome = false) := by unfold Hid; rw [hg]; rfl
      rw [hg] at hS
      by_cases hc : l.length < 1000
      · simp only [if_pos hc] at hS
        have hgn : getV l (Vr.name ⟨k, ⟨#[]⟩, 1, 3, how⟩) ≠ none ∨ l.length < 1000 := .inr hc
        have HST := Lib.hid fun wx w2 hg h1 h2 => stored (wx := wx) (w2 := w2) (x := ⟨k, ⟨#[]⟩, 1, 3, how⟩) HH.out hu hg hgn h1 h2
        rw [hS] at HST
        obtain ⟨w2, hrun, hown2, hgrow2⟩ := ((HH.out.map.alloc (.cells #[.string k, .string ⟨#[]⟩, .int .i64 1, .int .i64 3, .int .i64 how] 64)).drew).update sk9 Try.underlying85 (by have := HH.out.len; unfold maxLen; omega) (key := .string k) (val := (⟨k, ⟨#[]⟩, 1, 3, how⟩ : Vr).val) (Go.WideMaps.keyOf_string_mk Try.underlying9 HK.out) (d := .held (⟨k, ⟨#[]⟩, 1, 3, how⟩ : Vr).val) (ps := []) rfl
        have hb1 : (w.alloc (.cells #[.string k, .string ⟨#[]⟩, .int .i64 1, .int .i64 3, .int .i64 how] 64)).drew.cell? ⟨p, 0, none⟩ = some (.map (some m)) := (HH.out.box.alloc _).cell
        obtain ⟨r1, r2⟩ := HST.out _ _ (World.grownBy_alloc w _ none) hown2 hgrow2
        unfold Vr.val at hrun
        clear HST hown2 hgrow2 hgn hS
        rcases hex with rfl | rfl | rfl
        all_goals
          go_enter Try.func75, Try.ntmps75
          go_wp2_with (first | (at_lookup; refine wpList_lookV _ rfl _ _ rfl m _ l rfl HH.out.map k rfl HK.out vr0 HR.out false HF.out ?_) | (at_len; refine wpList_len_own _ rfl _ 85 rfl 9 64 Try.underlying85 RV m _ _ rfl (HH.out.map.alloc _) ?_; rw [dOf_size]))
          go_region
          go_wp2
          go_end0
          exact ⟨rfl, r1, r2⟩
      · simp only [if_neg hc] at hS
        subst hS
        have hc2 : ((l.length : Nat) : Int) ≥ 1000 := by omega
        rcases hex with rfl | rfl | rfl
        all_goals
          go_enter Try.func75, Try.ntmps75
          go_wp2_with (first | (at_lookup; refine wpList_lookV _ rfl _ _ rfl m _ l rfl HH.out.map k rfl HK.out vr0 HR.out false HF.out ?_) | (at_len; refine wpList_len_own _ rfl _ 85 rfl 9 64 Try.underlying85 RV m _ _ rfl (HH.out.map.alloc _) ?_; rw [dOf_size]))
          refine bodyPost_ret (results_none rfl _ _ _) rfl ?_
          exact ⟨rfl, HH.out.alloc _, World.grownBy_alloc _ _ _⟩
    · have HR : Hid ((getV l k).getD vr0 = ⟨n0, v0, f0, o0, e0⟩) := by unfold Hid; rw [hg]; rfl
      have HF : Hid ((getV l k).isSome = true) := by unfold Hid; rw [hg]; rfl
      have hnk : n0 = k := (mem_get hg).2
      subst hnk
      rw [hg] at hS
      simp only at hS
      have hgn : getV l (Vr.name ⟨n0, v0, f0, o0, how⟩) ≠ none ∨ l.length < 1000 := .inl (by show getV l n0 ≠ none; rw [hg]; simp)
      have HST := Lib.hid fun wx w2 hg h1 h2 => stored (wx := wx) (w2 := w2) (x := ⟨n0, v0, f0, o0, how⟩) HH.out hu hg hgn h1 h2
      rw [hS] at HST
      obtain ⟨w2, hrun, hown2, hgrow2⟩ := ((HH.out.map.alloc (.cells #[.string n0, .string v0, .int .i64 f0, .int .i64 o0, .int .i64 how] 64)).drew).update sk9 Try.underlying85 (by have := HH.out.len; unfold maxLen; omega) (key := .string n0) (val := (⟨n0, v0, f0, o0, how⟩ : Vr).val) (Go.WideMaps.keyOf_string_mk Try.underlying9 HK.out) (d := .held (⟨n0, v0, f0, o0, how⟩ : Vr).val) (ps := []) rfl
      have hb1 : (w.alloc (.cells #[.string n0, .string v0, .int .i64 f0, .int .i64 o0, .int .i64 how] 64)).drew.cell? ⟨p, 0, none⟩ = some (.map (some m)) := (HH.out.box.alloc _).cell
      obtain ⟨r1, r2⟩ := HST.out _ _ (World.grownBy_alloc w _ none) hown2 hgrow2
      unfold Vr.val at hrun
      clear HST hown2 hgrow2 hgn hS
      rcases hex with rfl | rfl | rfl
      all_goals
        go_enter Try.func75, Try.ntmps75
        go_wp2_with (at_lookup; refine wpList_lookV _ rfl _ _ rfl m _ l rfl HH.out.map n0 rfl HK.out _ HR.out true HF.out ?_)
        go_region
        go_wp2
        go_end0
        exact ⟨rfl, r1, r2⟩
end Go.Proofs.Ytndoloohdloflab
