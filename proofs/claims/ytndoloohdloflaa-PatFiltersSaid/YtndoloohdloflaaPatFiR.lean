/- the reference's Filter; conditions: lists that lie in memory. -/
import Derived.Test.YtndoloohdloflaaPatFi2
import Derived.Test.YtndoloohdloflaaPatRef
namespace Go.Proofs.Ytndoloohdloflaa
open Go.RowKit

theorem ownsRow_drewN {w : World} {base : Nat} {e : TypeId} {size : Nat} {v : Value} {n : Nat} {xs : List Value} (h : w.ownsRow base e size v n xs) (k : Nat) : (w.drewN k).ownsRow base e size v n xs := h

set_option maxRecDepth 100000 in
set_option maxHeartbeats 2000000 in
theorem FilterR_any (w : World) (A B : Option Addr) (ca cb : Nat) (ps xs : List ByteArray) (out : Bool) (ha : StrsAt w A ps) (hb : StrsAt w B xs) (hN : ps.length ≤ 20000) (hM : xs.length ≤ 20000)
    (hps : ∀ p ∈ ps, p.size ≤ 140737488351232) (hxs : ∀ x ∈ xs, x.size ≤ 140737488351232) :
    Calls Try.prog 30 #[.slice A ps.length ca, .slice B xs.length cb, .bool out] w fun e W' => ∃ v, e = .returned v ∧ OwnG W' w.heap.size 9 1 v (filtB ps xs out).length ((filtB ps xs out).map Value.string) ∧ Below w.heap.size w W' := by
  obtain ⟨i0, hi, hz0, hz1, hz2⟩ := info_parts Try.info9
  obtain ⟨N, hNN⟩ : ∃ N, ps.length = N := ⟨_, rfl⟩
  obtain ⟨M, hMM⟩ : ∃ M, xs.length = M := ⟨_, rfl⟩
  have HN := Lib.hid hNN
  have HM := Lib.hid hMM
  rw [hNN] at hN ⊢
  rw [hMM] at hM ⊢
  clear hNN hMM
  go_enter Try.func30, Try.ntmps30
  go_wp2
  go_loopw [7, 8, 9, 10] (fun v i _ _ wi => ∃ (k : Nat) (pre : List ByteArray), i = .int .i64 k ∧ k ≤ M ∧ pre.length ≤ k ∧ Hid (wi.ownsRow w.heap.size 9 1 v pre.length (pre.map Value.string)) ∧ Below w.heap.size w wi ∧ Hid (filtB ps xs out = pre ++ filtB ps (xs.drop k) out)) (fun _ i _ _ _ => M - (intOf i).toNat)
  case atStart => exact ⟨0, [], rfl, Nat.zero_le _, Nat.le_refl _, World.ownsRow_nil _ _ _ _, Below.refl _ w, by simp [Hid]⟩
  case round =>
    obtain ⟨k, pre, rfl, hk, hpk, hown, hbel, hw⟩ := hrel
    by_cases hlt : k < M
    · obtain ⟨x, hx1⟩ : ∃ x, xs[k]? = some x := ⟨_, List.getElem?_eq_getElem (by rw [HM.out]; exact hlt)⟩
      obtain ⟨b, o, rfl, hcx0⟩ := hb k x hx1
      have hcx : wr.cell? ⟨b, o + k, none⟩ = some (.string x) := by rw [hbel.cell (p := ⟨b, o + k, none⟩) (World.block_lt_of_cell? _ _ hcx0)]; exact hcx0
      have q1 : (k : Int) < M := by omega
      have hxz := hxs x (List.mem_of_getElem? hx1)
      have HST := Lib.hid (filt_step (fun x => hitB ps x != out) xs k x pre hx1 hw.out)
      clear hx1 hw
      obtain ⟨R, hR⟩ : ∃ R, hitB ps x = R := ⟨_, rfl⟩
      rw [Hid] at HST
      rw [hR] at HST
      have HST := Lib.hid HST
      have HR := Lib.hid hR
      clear hR
      obtain ⟨wo, hwo⟩ : ∃ wo : World, wo = wr := ⟨_, rfl⟩
      have HWO := Lib.hid hwo
      clear hwo
      go_wp2
      go_loopw [9, 10] (fun s j wi => ∃ (k2 : Nat) (sv : Bool) (n : Nat), j = .int .i64 k2 ∧ s = .bool sv ∧ k2 ≤ N ∧ Hid ((sv || hitB (ps.drop k2) x) = R) ∧ Hid (wi = wo.drewN n)) (fun _ j _ => N - (intOf j).toNat)
      case atStart => exact ⟨0, false, 0, rfl, rfl, Nat.zero_le _, by simpa [Hid] using HR.out, HWO.out.symm⟩
      case round =>
        obtain ⟨k2, sv, n, rfl, rfl, hk2, hsv, hwi⟩ := hrel
        have hcxn : wr.cell? ⟨b, o + k, none⟩ = some (.string x) := by rw [hwi.out, HWO.out]; exact hcx
        have hown2 : Hid (wr.ownsRow w.heap.size 9 1 u7 pre.length (pre.map Value.string)) := by unfold Hid; rw [hwi.out, HWO.out]; exact hown.out
        have hbel2 : Below w.heap.size w wr := by rw [hwi.out, HWO.out]; exact below_drewN hbel n
        by_cases hgo : k2 < N ∧ sv = false
        · obtain ⟨hlt2, rfl⟩ := hgo
          obtain ⟨p, hp1⟩ : ∃ p, ps[k2]? = some p := ⟨_, List.getElem?_eq_getElem (by rw [HN.out]; exact hlt2)⟩
          obtain ⟨b2, o2, rfl, hcp0⟩ := ha k2 p hp1
          have hcp : wr.cell? ⟨b2, o2 + k2, none⟩ = some (.string p) := by rw [hbel2.cell (p := ⟨b2, o2 + k2, none⟩) (World.block_lt_of_cell? _ _ hcp0)]; exact hcp0
          have q2 : (k2 : Int) < N := by omega
          have HD : Hid ((Mok p x || hitB (ps.drop (k2 + 1)) x) = R) := by unfold Hid; rw [← hit_drop ps k2 p x hp1]; simpa using hsv.out
          have HMt := Lib.hid (refMatch_any p x · (hps p (List.mem_of_getElem? hp1)) hxz)
          generalize Mok p x = mo at *
          generalize Mstem p x = ms at *
          clear hp1 hsv hcp0 hown2
          go_wp2
          go_quiet (first | (go_at_call 21; exact Calls.quiet_of_same (HMt.out _)))
          rename_i nq
          go_wp2
          refine ⟨⟨k2 + 1, mo, n + nq, by go_num, rfl, by omega, HD, ?_⟩, by simp [intOf]; omega⟩
          unfold Hid
          rw [hwi.out]
          simp [World.drewN, Nat.add_assoc]
        · have hsR : sv = R := by
            have h := hsv.out
            cases sv
            · rw [List.drop_eq_nil_of_le (by have := HN.out; have : ¬ k2 < N := fun h => hgo ⟨h, rfl⟩; omega)] at h
              simpa [hitB] using h
            · simpa using h
          clear hsv
          subst hsR
          have hor : (k2 < N ∧ sv = true) ∨ ¬ k2 < N := by
            by_cases h : k2 < N
            · left; refine ⟨h, ?_⟩; cases sv; exact absurd ⟨h, rfl⟩ hgo; rfl
            · exact .inr h
          clear hgo hown hbel hcx HWO
          have hso : (sv != out) = false ∧ out = sv ∨ (sv != out) = true ∧ out = !sv := by cases sv <;> cases out <;> simp
          rcases hso with ⟨hq, ho⟩ | ⟨hq, ho⟩
          · have HST2 : Hid (filtB ps xs out = pre ++ filtB ps (xs.drop (k + 1)) out) := by have := HST.out; rw [hq] at this; exact this
            clear HST
            have HO := Lib.hid ho
            clear ho hq
            cases sv <;> cases out <;> (try (exact absurd HO.out (by decide)))
            all_goals (rcases hor with ⟨h1, h2⟩ | h1)
            all_goals (try (exact absurd h2 (by decide)))
            all_goals clear HO
            all_goals (first
              | (have q2 : (k2 : Int) < N := by omega
                 go_wp2
                 exact ⟨⟨k + 1, pre, by go_num, by omega, by omega, hown2, hbel2, HST2⟩, by simp [intOf]; omega⟩)
              | (have q2 : ¬ (k2 : Int) < N := by omega
                 go_wp2
                 exact ⟨⟨k + 1, pre, by go_num, by omega, by omega, hown2, hbel2, HST2⟩, by simp [intOf]; omega⟩))
          · have HST2 : Hid (filtB ps xs out = (pre ++ [x]) ++ filtB ps (xs.drop (k + 1)) out) := by have := HST.out; rw [hq] at this; exact this
            clear HST
            have HO := Lib.hid ho
            clear ho hq
            cases sv <;> cases out <;> (try (exact absurd HO.out (by decide)))
            all_goals (rcases hor with ⟨h1, h2⟩ | h1)
            all_goals (try (exact absurd h2 (by decide)))
            all_goals clear HO
            all_goals (first
              | (have q2 : (k2 : Int) < N := by omega
                 go_wp2_with (at_builtin; refine wpList_append_own_at _ rfl _ _ 30 rfl w.heap.size 9 i0 (.string ⟨#[]⟩) 1 16 Try.underlying30 hi hz0 hz1 hz2 rfl (by decide) u7 pre.length (pre.map Value.string) rfl (hown2.out.alloc _) ⟨_, 0, none⟩ 1 1 [.string x] rfl rfl (cell_one_new _ _ _) (by simp [Value.oneCell']) (by unfold maxLen; omega) (by omega) (by have := hbel2.size; simp; omega) ?_; intro v' w1 hown' hgrow _ _)
                 have hb1 : Below w.heap.size w w1 := (hbel2.alloc hbel2.size _).grown hgrow (by have := hbel2.size; simp; omega) (fun j hj => (hown2.out.lt j hj).1)
                 exact ⟨⟨k + 1, pre ++ [x], by go_num, by omega, by simp; omega, by simpa [Hid] using hown', hb1, HST2⟩, by simp [intOf]; omega⟩)
              | (have q2 : ¬ (k2 : Int) < N := by omega
                 go_wp2_with (at_builtin; refine wpList_append_own_at _ rfl _ _ 30 rfl w.heap.size 9 i0 (.string ⟨#[]⟩) 1 16 Try.underlying30 hi hz0 hz1 hz2 rfl (by decide) u7 pre.length (pre.map Value.string) rfl (hown2.out.alloc _) ⟨_, 0, none⟩ 1 1 [.string x] rfl rfl (cell_one_new _ _ _) (by simp [Value.oneCell']) (by unfold maxLen; omega) (by omega) (by have := hbel2.size; simp; omega) ?_; intro v' w1 hown' hgrow _ _)
                 have hb1 : Below w.heap.size w w1 := (hbel2.alloc hbel2.size _).grown hgrow (by have := hbel2.size; simp; omega) (fun j hj => (hown2.out.lt j hj).1)
                 exact ⟨⟨k + 1, pre ++ [x], by go_num, by omega, by simp; omega, by simpa [Hid] using hown', hb1, HST2⟩, by simp [intOf]; omega⟩))
    · have HW : Hid (filtB ps xs out = pre) := by
        unfold Hid; rw [hw.out, List.drop_eq_nil_of_le (by have := HM.out; omega)]; simp [filtB]
      go_wp2
      go_ret
      exact ⟨_, rfl, by rw [HW.out]; exact OwnG.of hown.out, hbel⟩
end Go.Proofs.Ytndoloohdloflaa
