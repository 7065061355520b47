/- What the program's Split answers: the lines of a text; condition: a text of at most a million bytes. -/
import Derived.Test.YtndoloohdloflabDoorPhys
import Derived.Test.YtndoloohdloflabDoorRange
import Derived.Shelf.Abstract
import Derived.Shelf.RegionOpen
import Derived.OwnWalkIn
import Derived.TacticsInMore
import Derived.LoopNIn
import Derived.LoopIn
import Derived.Maps.AppendAt
import Derived.Maps.OwnIn
namespace Go.Proofs.YtndoloohdloflabDoor
open Go.RowKit Go.Shelf
attribute [local go_sem] Oper.semAt_some

def boxLen (w : World) (bs : Nat) : Nat := match w.cell? ⟨bs, 0, none⟩ with
  | some (.string t) => t.size
  | _ => 0
theorem boxLen_of {w : World} {bs : Nat} {t : ByteArray} (h : Boxed w bs 9 (.string t)) : boxLen w bs = t.size := by unfold boxLen; rw [h.cell]

set_option maxRecDepth 100000 in
set_option maxHeartbeats 1000000 in
theorem all1_in (l bs : Nat) (s : ByteArray) (hs : s.size ≤ 1000000) (m : Int) (J : List ByteArray → World → Prop)
    (hJs : ∀ pre W v v', J pre W → Boxed W bs 9 v → J pre (W.setCell ⟨bs, 0, none⟩ v')) (hJd : ∀ pre W k, J pre W → J pre (W.drewN k)) (hJf : ∀ pre W, J pre W → W.cell? ⟨0, 0, none⟩ = some (.int .i64 m))
    (hY : ∀ pre x W, J pre W → pre.length < s.size + 2 → YieldAt Fence.wide 10 Tryd.prog l #[.string x] W fun e W' => e = .returned (.bool true) ∧ J (pre ++ [x]) W' ∧ KeepAny bs 9 W W')
    (W : World) (hb : Boxed W bs 9 (.string s)) (h0 : J [] W) :
    CallsIn Fence.wide 11 Tryd.prog 36 #[.func (.yield l) #[] #[], .pointer (some ⟨bs, 0, none⟩)] W fun e W' => (∃ v, e = .returned v) ∧ ∃ ys, ys = phB s ∧ J ys W' := by
  refine callsIn_of_wp Tryd.func36 rfl trivial ?_ rfl
  simp only [Tryd.ntmps36, List.size_toArray, List.length_cons, List.length_nil, Nat.reduceAdd, Nat.reduceSub, Array.replicate_succ, Array.replicate_zero, List.push_toArray, List.append_toArray, List.nil_append, List.cons_append]
  gi_wp2
  gi_loopw [3] (fun _ wr => ∃ (t : ByteArray) (pre : List ByteArray), pre.length + t.size ≤ s.size ∧ Boxed wr bs 9 (.string t) ∧ J pre wr ∧ Hid (phB s = pre ++ phB t)) (fun _ wr => boxLen wr bs)
  case atStart => exact ⟨s, [], by simp, hb, h0, by simp [Hid]⟩
  case round =>
    obtain ⟨t, pre, hpt, hbx, hJ, hw⟩ := hrel
    have hc := hbx.cell
    cases he : t.toList.isEmpty
    · have HCUT := Tryd.strings_Cut t ⟨#[10]⟩ m wr (by omega) (hJf _ _ hJ)
      have hne : t.data.toList ≠ [] := fun e => by rw [ba_toList, e] at he; cases he
      have h0t : 0 < t.size := List.length_pos_iff.2 hne
      obtain ⟨x, y, b, HC, hxy, hph⟩ : ∃ (x y : ByteArray) (b : Bool), Hid (Calls Tryd.prog 37 #[.string t, .string ⟨#[10]⟩] wr fun e w' => e = .returned (.tuple #[.string x, .string y, .bool b]) ∧ ∃ n, w' = wr.drewN n) ∧ y.size < t.size ∧ Hid (phB t = x :: phB y) := by
        rcases cut_split t.data.toList with ⟨h1, h2⟩ | ⟨a, r, h1, h2, h3⟩
        · refine ⟨t, ⟨#[]⟩, false, ?_, h0t, ?_⟩
          · rw [show (⟨#[10]⟩ : ByteArray).data.toList = [10] from rfl, h1] at HCUT; exact HCUT
          · unfold Hid phB
            rw [phys_last _ h2 hne]
            rfl
        · refine ⟨mk a, mk r, true, ?_, ?_, ?_⟩
          · rw [show (⟨#[10]⟩ : ByteArray).data.toList = [10] from rfl, h3] at HCUT; exact HCUT
          · have := congrArg List.length h1; rw [mk_size]; simp at this; omega
          · unfold Hid phB
            rw [h1, phys_cut _ _ h2]
            rfl
      clear HCUT
      gi_wp2_with (refine ⟨trivial, ?_⟩; gi_at_call 37; refine (callsIn_wide.2 HC.out).mono ?_; rintro e w' ⟨rfl, nq, rfl⟩; obtain ⟨fn, tmps, assign, body, hy, hR⟩ := hY pre x _ (hJd _ _ nq hJ) (by omega))
      refine hR.mono ?_
      rintro e W3 ⟨rfl, hJ3, hk3⟩
      have hb3 := hk3 _ hbx
      have hc3 := hb3.cell
      have hf3 := hb3.frozen
      have HS3 := Lib.hid (hb3.set (.string y))
      gi_wp2
      refine ⟨⟨y, pre ++ [x], by simp; omega, HS3.out, hJs _ _ _ _ hJ3 hb3, by unfold Hid; rw [hw.out, hph.out]; simp⟩, ?_⟩
      rw [boxLen_of HS3.out, boxLen_of hbx]
      exact hxy
    · have ht : phB t = [] := by
        have : t.data.toList = [] := by rw [ba_toList] at he; exact List.isEmpty_iff.1 he
        unfold phB; rw [this]; rfl
      have HW : Hid (pre = phB s) := by unfold Hid; rw [hw.out, ht]; simp
      gi_wp2
      go_end0
      exact ⟨⟨_, rfl⟩, pre, HW.out, hJ⟩

theorem all_any (s : ByteArray) (w : World) : Calls Tryd.prog 20 #[.string s] w fun e w' => e = .returned (.func (.func 36) #[] #[.pointer (some ⟨w.heap.size, 0, none⟩)]) ∧ w' = w.alloc (.cells #[.string s] 9) := by
  go_enter Tryd.func20, Tryd.ntmps20
  go_wp2
  go_ret
  exact ⟨rfl, rfl⟩

set_option maxRecDepth 100000 in
set_option maxHeartbeats 2000000 in
theorem Split_in (s : ByteArray) (hs : s.size ≤ 1000000) (w : World) (m : Int) (h0w : 0 < w.heap.size) (hm : w.cell? ⟨0, 0, none⟩ = some (.int .i64 m)) :
    CallsIn Fence.wide 12 Tryd.prog 8 #[.string s] w fun e W' => ∃ v, e = .returned v ∧ W'.ownsRow w.heap.size 9 1 v (phB s).length ((phB s).map Value.string) ∧ Below w.heap.size w W' := by
  obtain ⟨i0, hi, hz0, hz1, hz2⟩ := info_parts Tryd.info9
  refine callsIn_of_wp_marks Tryd.func8 rfl trivial ?_ rfl
  simp only [Tryd.ntmps8, List.size_toArray, List.length_cons, List.length_nil, Nat.reduceAdd, Nat.reduceSub, Array.replicate_succ, Array.replicate_zero, List.push_toArray, List.append_toArray, List.nil_append, List.cons_append]
  gi_wp2_with (refine ⟨trivial, ?_⟩; gi_at_call 20; refine (callsIn_wide.2 (all_any s _)).mono ?_; rintro e w' ⟨rfl, rfl⟩)
  have bO := Boxed.new w 23 (.slice none 0 0)
  have bS := Boxed.new (w.alloc (.cells #[.slice none 0 0] 23)) 9 (.string s)
  rw [World.size_alloc] at bS
  have hB0 : Below w.heap.size w ((w.alloc (.cells #[.slice none 0 0] 23)).alloc (.cells #[.string s] 9)) := ((Below.refl _ w).alloc (Nat.le_refl _) _).alloc (by simp) _
  refine range_box (w.heap.size + 1) 9 (by omega) (gf := 36) (lb := #[.pointer (some ⟨w.heap.size + 1, 0, none⟩)]) rfl (enters_of Tryd.func36 (by kernel_rfl) rfl)
    (fun x : ByteArray => #[Value.string x]) (fun ys => ys = phB s) (s.size + 2) (fun W => W.cell? ⟨0, 0, none⟩ = some (.int .i64 m))
    (fun l J W hW hJs hJd hJf hY h0 => all1_in l _ s hs m J hJs hJd hJf hY W ((hW.block _ bS.lt).trans bS) h0) (fun _ => rfl)
    (fun pre W => (∃ v, Boxed W w.heap.size 23 v ∧ W.ownsRow w.heap.size 9 1 v pre.length (pre.map Value.string) ∧ v.ownBlock ≠ some (w.heap.size + 1)) ∧ Below w.heap.size w W)
    (OwnFrom.and (Own.from (holdsRow_own w.heap.size w.heap.size 23 9 1 (fun pre : List ByteArray => pre.length) (fun pre => pre.map Value.string) (fun _ v => v.ownBlock ≠ some (w.heap.size + 1))) _) (ownFrom_below (Nat.le_refl _) (by simp; omega)))
    ?stores (fun pre W k h => ⟨h.1, below_drewN h.2 k⟩) (fun pre W h => by rw [h.2.cell (p := ⟨0, 0, none⟩) h0w]; exact hm)
    ⟨⟨_, bO.alloc _, World.ownsRow_nil _ _ _ _, by simp [Value.ownBlock]⟩, hB0⟩
    (fun x => { tmps := #[.string s, undef, .slice none 0 0, .pointer (some ⟨w.heap.size, 0, none⟩), .string x, .string s, .func (.func 36) #[] #[.pointer (some ⟨w.heap.size + 1, 0, none⟩)], .string x, undef, undef, undef, undef, undef], defers := [] }) ?assign ?body ?done
  case stores =>
    rintro pre W v v' ⟨⟨u, hu, hrow, hne⟩, hB⟩ hbx
    refine ⟨⟨u, hu.other (by omega) v', hrow.kept (grownBy_setCell' W _ v') ?_, hne⟩, hB.setCell (p := ⟨w.heap.size + 1, 0, none⟩) (Nat.le_succ _) _⟩

    exact .inr hne
  case assign =>
    intro l x W K hK
    gi_wp2
    exact hK
  case body =>
    rintro l pre x W ⟨⟨v, hv, hrow, hne⟩, hB⟩ hlt
    have hc := hv.cell
    have HNE := Lib.hid hne
    clear hne
    gi_wp2_with (gi_at_builtin; refine wpListIn_append_own_at _ rfl _ _ 23 rfl w.heap.size 9 i0 (.string ⟨#[]⟩) 1 16 Tryd.underlying23 hi hz0 hz1 hz2 rfl (by decide) v pre.length (pre.map Value.string) rfl (hrow.alloc _) ⟨W.heap.size, 0, none⟩ 1 1 [.string x] rfl rfl (cell_one_new _ _ _) (by simp [Value.oneCell']) (by unfold maxLen; omega) (by omega) (by have := hB.size; simp; omega) ?_; intro v' w1 hown' hgrow _ hat; obtain ⟨g', cap', rfl⟩ := ownsRow_succ hown'; have HG := Lib.hid hgrow; have HAT := Lib.hid hat; obtain ⟨hv1, hv2, hr2, hk2, hb2⟩ := hv.appended (by decide) hrow hB.size (Nat.le_refl _) hown' hgrow; have hc1 := hv1.cell; have hf1 := hv1.frozen; clear hgrow hat)
    have hlt1 := hv.lt
    refine ⟨hk2.from _, ?_, ⟨_, hv2, by simpa using hr2, ?_⟩, hB.trans hb2⟩
    · intro u hx
      have e1 := Below.heap_setCell w1 ⟨w.heap.size, 0, none⟩ (.slice (some ⟨g', 0, none⟩) (pre.length + 1) cap') (w.heap.size + 1) (by simp)
      exact e1.trans ((HG.out.block _ (by have := hx.lt; simp; omega) (fun e => HNE.out e.symm)).trans ((Below.heap_alloc W _ _ hx.lt).trans hx))
    · rcases HAT.out with h | h
      · rw [h]; exact HNE.out
      · rw [h]; intro e; simp at e; omega
  case done =>
    rintro ys W hys ⟨⟨v, hv, hrow, _⟩, hB⟩ hK
    subst hys
    have hc := hv.cell
    have hB2 := hB.trans (belowK_b (w := w) (Nat.le_refl _) W _ _ (.deferred none) (by simp; omega) hK rfl rfl)
    gi_wp2
    refine ⟨by simp, .inl ⟨_, _, rfl, run_takeDeferred hK, ?_⟩⟩
    exact ⟨_, results_tmp rfl _ _ _, v, rfl, ownsRow_putObj hrow _ hK rfl, hB2⟩

theorem Split_any (s : ByteArray) (hs : s.size ≤ 1000000) (w : World) (m : Int) (h0w : 0 < w.heap.size) (hm : w.cell? ⟨0, 0, none⟩ = some (.int .i64 m)) :
    Calls Tryd.prog 8 #[.string s] w fun e W' => ∃ v, e = .returned v ∧ OwnG W' w.heap.size 9 1 v (phB s).length ((phB s).map Value.string) ∧ Below w.heap.size w W' :=
  (callsIn_wide.1 (Split_in s hs w m h0w hm)).mono fun _ _ ⟨v, he, ho, hb⟩ => ⟨v, he, OwnG.of ho, hb⟩
end Go.Proofs.YtndoloohdloflabDoor
