/- The names of the functions, and the bounds of a name, in package refs and in the reference; no condition. -/
import Derived.Test.YtndoloohdloflaaRefsC
namespace Go.Proofs.Ytndoloohdloflaa
open Go.RowKit

def nmK (k : Nat) : ByteArray := (fAt k).1
def namesK (k : Nat) : List ByteArray := (List.range k).map nmK
theorem namesK_succ (k : Nat) : namesK (k + 1) = namesK k ++ [nmK k] := by simp [namesK, List.range_succ]
theorem namesK_len (k : Nat) : (namesK k).length = k := by simp [namesK]

set_option maxRecDepth 100000 in
set_option maxHeartbeats 1000000 in
theorem Funcs_any (w : World) : Calls Try.prog 57 #[] w fun e W' => ∃ v, e = .returned v ∧ OwnG W' w.heap.size 9 1 v (namesK 34).length ((namesK 34).map Value.string) ∧ Below w.heap.size w W' := by
  obtain ⟨i0, hi, hz0, hz1, hz2⟩ := info_parts Try.info9
  have HF := Lib.hid fun w => functions_any w
  obtain ⟨FA, hFA⟩ : ∃ FA, funA = FA := ⟨_, rfl⟩
  rw [hFA] at HF
  have hidx0 : ∀ (k : Nat), k < 35 → ∀ w : World, (Instr.index 81 (.agg funA) (.int .i64 k)).run Try.prog w = .ok (.agg #[.string (nmK k), .int .i64 (fAt k).2.1, .int .i64 (fAt k).2.2]) w := fun k h w => idx_any k h w
  rw [hFA] at hidx0
  clear hFA
  have hpos : ∀ k, k < 34 → 0 < (nmK k).size := fAt_pos
  have h34 : (nmK 34).size = 0 := fAt_34
  have hsu := namesK_succ
  have hle := namesK_len
  obtain ⟨R, hR⟩ : ∃ R, namesK 34 = R := ⟨_, rfl⟩
  have h0 : namesK 0 = [] := rfl
  rw [hR]
  obtain ⟨NK, hNK⟩ : ∃ NK, namesK = NK := ⟨_, rfl⟩
  rw [hNK] at hR hsu hle h0
  obtain ⟨nm, hnm⟩ : ∃ nm, nmK = nm := ⟨_, rfl⟩
  rw [hnm] at hidx0 hpos h34 hsu
  obtain ⟨fx, hfx⟩ : ∃ fx : Nat → Int, fx = fun k => (fAt k).2.1 := ⟨_, rfl⟩
  obtain ⟨fy, hfy⟩ : ∃ fy : Nat → Int, fy = fun k => (fAt k).2.2 := ⟨_, rfl⟩
  have hidx : ∀ (k : Nat), k < 35 → ∀ w : World, (Instr.index 81 (.agg FA) (.int .i64 k)).run Try.prog w = .ok (.agg #[.string (nm k), .int .i64 (fx k), .int .i64 (fy k)]) w := by rw [hfx, hfy]; exact hidx0
  have HIDX := Lib.hid hidx
  have HPOS := Lib.hid hpos
  have H34 := Lib.hid h34
  have HSU := Lib.hid hsu
  have HLE := Lib.hid hle
  have HR := Lib.hid hR
  have H0 := Lib.hid h0
  clear hidx hidx0 hpos h34 hsu hle hR hNK hnm hfx hfy h0
  go_enter Try.func57, Try.ntmps57
  go_wp2_with (go_at_call 87; refine (HF.out _).mono ?_; rintro e w1 ⟨rfl, hb1⟩)
  go_loopw [1, 3, 5] (fun v _ iv wi => ∃ k : Nat, iv = .int .i64 k ∧ k ≤ 35 ∧ OwnG wi w.heap.size 9 1 v (NK (min k 34)).length ((NK (min k 34)).map Value.string) ∧ Below w.heap.size w wi) (fun _ _ iv _ => 35 - (intOf iv).toNat)
  case atStart => exact ⟨0, rfl, Nat.zero_le _, by rw [show min 0 34 = 0 from rfl, H0.out]; exact OwnG.nil _ _ _ _, hb1⟩
  case round =>
    obtain ⟨k, rfl, hk, hown, hbel⟩ := hrel
    have hsz := hbel.size
    by_cases hlt : k < 35
    · have q1 : (k : Int) < 35 := by omega
      have hidx := HIDX.out k hlt
      obtain ⟨A1, c1, rfl, _, _⟩ := hown.form
      by_cases h34 : k < 34
      · have hp := HPOS.out k h34
        have e1 : (nm k).toList.isEmpty = false := ne_empty hp
        have e2 : ((nm k).toList == []) = false := by rw [beq_eq_false_iff_ne]; intro h; rw [h] at e1; cases e1
        have e3 : ((nm k).toList != []) = true := by rw [bne, e2]; rfl
        have hm : min k 34 = k := by omega
        have hm2 : min (k + 1) 34 = k + 1 := by omega
        rw [hm, HLE.out] at hown
        have hll := HLE.out k
        obtain ⟨nk, hnk⟩ : ∃ nk, nm k = nk := ⟨_, rfl⟩
        rw [hnk] at hidx e1 e2 e3
        have HS : Hid ((NK (k + 1)).map Value.string = (NK k).map Value.string ++ [.string nk]) := by unfold Hid; rw [HSU.out, hnk]; simp
        have HO := Lib.hid (fun W (hb : Below wr.heap.size wr W) => (hown.below hb).below ((Below.refl _ W).alloc (Nat.le_refl _) (.cells #[.string nk] 9)))
        rw [hm, hll]
        have HL := Lib.hid fun j (hj : (Value.slice A1 k c1).ownBlock = some j) => (hown.block_lt j hj).1
        clear hp hnk hown
        have HC : ∀ o, ∀ j u, [Value.string nk][j]? = some u → ((wr.alloc o).alloc (.cells #[.string nk] 9)).cell? (Addr.add ⟨wr.heap.size + 1, 0, none⟩ j) = some u := fun o => by
          have := cell_one_new (wr.alloc o) (.string nk) 9
          rwa [show (wr.alloc o).heap.size = wr.heap.size + 1 by simp] at this
        go_wp2_with (at_builtin; refine wpList_append_G _ rfl _ _ 30 rfl w.heap.size 9 i0 (.string ⟨#[]⟩) 1 16 Try.underlying30 hi hz0 hz1 hz2 rfl (.slice A1 k c1) k ((NK k).map Value.string) rfl (HO.out _ ((Below.refl _ wr).alloc (Nat.le_refl _) _)) ⟨_, 0, none⟩ 1 1 [.string nk] rfl rfl (HC _) (by simp [Value.oneCell']) (by decide) (by unfold maxLen; omega) (by omega) (by simp; omega) ?_; intro g cap w2 hown2 hgrow2 _ _)
        have hb3 : Below w.heap.size w w2 := ((hbel.alloc hsz _).alloc (by simp; omega) _).grown hgrow2 (by simp; omega) (fun j hj => (HL.out j hj))
        refine ⟨⟨k + 1, by go_num, by omega, ?_, hb3⟩, by simp [intOf]; omega⟩
        rw [hm2, HLE.out, HS.out]
        exact hown2
      · have hk34 : k = 34 := by omega
        have e1 : (nm k).toList.isEmpty = true := by rw [hk34, ba_toList, List.eq_nil_of_length_eq_zero (l := (nm 34).data.toList) (by rw [Array.length_toList]; exact H34.out)]; rfl
        have e2 : ((nm k).toList == []) = true := by rw [hk34, ba_toList, List.eq_nil_of_length_eq_zero (l := (nm 34).data.toList) (by rw [Array.length_toList]; exact H34.out)]; rfl
        have e3 : ((nm k).toList != []) = false := by rw [bne, e2]; rfl
        have hm : min k 34 = min (k + 1) 34 := by omega
        have HO := Lib.hid fun o => hown.below ((Below.refl _ wr).alloc (Nat.le_refl _) o)
        rw [hm] at HO
        rw [hm]
        obtain ⟨nk, hnk⟩ : ∃ nk, nm k = nk := ⟨_, rfl⟩
        rw [hnk] at hidx e1 e2 e3
        have HB := Lib.hid fun o => hbel.alloc hsz o
        clear hk34 hown hnk
        go_wp2
        exact ⟨⟨k + 1, by go_num, by omega, HO.out _, HB.out _⟩, by simp [intOf]; omega⟩
    · have hk35 : min k 34 = 34 := by omega
      rw [hk35] at hown
      have q1 : ¬ (k : Int) < 35 := by omega
      clear hk35
      go_wp2
      go_ret
      exact ⟨_, rfl, by rw [← HR.out]; exact hown, hbel⟩

set_option maxRecDepth 100000 in
set_option maxHeartbeats 1000000 in
theorem FuncsR_any (w : World) : Calls Try.prog 58 #[] w fun e W' => ∃ v, e = .returned v ∧ OwnG W' w.heap.size 9 1 v (namesK 34).length ((namesK 34).map Value.string) ∧ Below w.heap.size w W' := by
  obtain ⟨i0, hi, hz0, hz1, hz2⟩ := info_parts Try.info9
  have HF := Lib.hid fun w => funs_any w
  have hcl0 : ∀ (k : Nat), k < 34 → ∀ (W : World) (g : Nat), W.heap[g]? = some (.cells funB 86 (0, 0)) → W.cell? ⟨g, 3 * k, none⟩ = some (.string (nmK k)) := fun k h W g hb => (fAt_cells k h W g hb).1
  obtain ⟨FB, hFB⟩ : ∃ FB, funB = FB := ⟨_, rfl⟩
  rw [hFB] at HF hcl0
  clear hFB
  have hsu := namesK_succ
  have hle := namesK_len
  obtain ⟨R, hR⟩ : ∃ R, namesK 34 = R := ⟨_, rfl⟩
  have h0 : namesK 0 = [] := rfl
  rw [hR]
  obtain ⟨NK, hNK⟩ : ∃ NK, namesK = NK := ⟨_, rfl⟩
  rw [hNK] at hR hsu hle h0
  obtain ⟨nm, hnm⟩ : ∃ nm, nmK = nm := ⟨_, rfl⟩
  rw [hnm] at hcl0 hsu
  have HCL := Lib.hid hcl0
  have HSU := Lib.hid hsu
  have HLE := Lib.hid hle
  have HR := Lib.hid hR
  have H0 := Lib.hid h0
  clear hcl0 hsu hle hR hNK hnm h0
  go_enter Try.func58, Try.ntmps58
  go_wp2_with (go_at_call 88; refine (HF.out _).mono ?_; rintro e w1 ⟨rfl, hw1⟩; have HW1 := Lib.hid hw1; clear hw1)
  have hw1 := HW1.out
  clear HW1
  have hbk1 : w1.heap[w.heap.size]? = some (.cells FB 86 (0, 0)) := by rw [hw1]; exact World.alloc_heap_new _ _
  have hb1 : Below w.heap.size w w1 := by rw [hw1]; exact (Below.refl _ _).alloc (Nat.le_refl _) _
  have HS1 : Hid (w1.heap.size = w.heap.size + 1) := by unfold Hid; rw [hw1]; simp
  clear hw1
  obtain ⟨b, hb⟩ : ∃ b, w.heap.size = b := ⟨_, rfl⟩
  rw [hb] at hbk1 hb1 HS1 ⊢
  go_loopw [2, 3] (fun v iv wi => ∃ k : Nat, iv = .int .i64 k ∧ k ≤ 34 ∧ OwnG wi (b + 1) 9 1 v (NK k).length ((NK k).map Value.string) ∧ Hid (wi.heap[b]? = some (.cells FB 86 (0, 0))) ∧ Below b w wi ∧ b + 1 ≤ wi.heap.size) (fun _ iv _ => 34 - (intOf iv).toNat)
  case atStart => exact ⟨0, rfl, Nat.zero_le _, by rw [H0.out]; exact OwnG.nil _ _ _ _, hbk1, hb1, by rw [HS1.out]; exact Nat.le_refl _⟩
  case round =>
    obtain ⟨k, rfl, hk, hown, hbk, hbel, hsz⟩ := hrel
    obtain ⟨A1, c1, rfl, _, _⟩ := hown.form
    by_cases hlt : k < 34
    · have q1 : (k : Int) < 34 := by omega
      have hc := HCL.out k hlt wr b hbk.out
      rw [Nat.mul_comm] at hc
      have hll := HLE.out k
      obtain ⟨nk, hnk⟩ : ∃ nk, nm k = nk := ⟨_, rfl⟩
      rw [hnk] at hc
      have HS : Hid ((NK (k + 1)).map Value.string = (NK k).map Value.string ++ [.string nk]) := by unfold Hid; rw [HSU.out, hnk]; simp
      rw [hll] at hown ⊢
      have hO := hown.below ((Below.refl _ wr).alloc (Nat.le_refl _) (.cells #[.string nk] 9))
      have HO := Lib.hid hO
      have HL := Lib.hid fun j (hj : (Value.slice A1 k c1).ownBlock = some j) => (hown.block_lt j hj).1
      clear hnk hown hO
      go_wp2_with (at_builtin; refine wpList_append_G _ rfl _ _ 30 rfl (b + 1) 9 i0 (.string ⟨#[]⟩) 1 16 Try.underlying30 hi hz0 hz1 hz2 rfl (.slice A1 k c1) k ((NK k).map Value.string) rfl HO.out ⟨_, 0, none⟩ 1 1 [.string nk] rfl rfl (cell_one_new _ _ _) (by simp [Value.oneCell']) (by decide) (by unfold maxLen; omega) (by omega) (by simp; omega) ?_; intro g cap w2 hown2 hgrow2 _ _)
      have hA : Below (b + 1) wr (wr.alloc (.cells #[.string nk] 9)) := (Below.refl _ wr).alloc hsz _
      have hb3 : Below (b + 1) wr w2 := hA.grown hgrow2 (by simp; omega) (fun j hj => (HL.out j hj))
      have hb4 : Below b w w2 := hbel.trans (hb3.mono (by omega))
      refine ⟨⟨k + 1, by go_num, by omega, ?_, (hb3.block _ (by omega)).trans hbk.out, hb4, by have := hb3.size; omega⟩, by simp [intOf]; omega⟩
      rw [HLE.out, HS.out]
      exact hown2
    · have hk34 : k = 34 := by omega
      have q1 : ¬ (k : Int) < 34 := by omega
      have hR2 : NK k = R := by rw [hk34]; exact HR.out
      rw [hR2] at hown ⊢
      have hb2 := hown.1
      clear hk34
      go_wp2
      go_ret
      exact ⟨_, rfl, ⟨hown.1, hown.2.imp id (fun ⟨g, cap, cur, h1, h2, h3⟩ => ⟨g, cap, cur, h1, by omega, h3⟩)⟩, hbel⟩
end Go.Proofs.Ytndoloohdloflaa
