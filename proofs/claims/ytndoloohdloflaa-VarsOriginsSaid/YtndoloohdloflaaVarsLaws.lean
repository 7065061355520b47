/- VarsOrigins: a variable is set by its own origin and greater ones alone. -/
import Derived.Test.YtndoloohdloflaaVars
namespace Go.Proofs.Ytndoloohdloflaa
open Go.RowKit Go.Maps

set_option maxRecDepth 100000 in
theorem varsAlive_any (w : World) : Calls Try.prog 64 #[] w fun e w' => e = .returned (.bool true) ∧ Below w.heap.size w w' := by
  have e1 : mayV [] ⟨#[97]⟩ 3 = true := by decide
  have e2 : setV [] ⟨#[97]⟩ ⟨#[49]⟩ 1 3 = [⟨⟨#[97]⟩, ⟨#[49]⟩, 1, 3, 0⟩] := by rfl
  have e3 : appV [⟨⟨#[97]⟩, ⟨#[49]⟩, 1, 3, 0⟩] ⟨#[97]⟩ ⟨#[50]⟩ 3 = (true, [⟨⟨#[97]⟩, ⟨#[49, 32, 50]⟩, 1, 3, 0⟩]) := by rfl
  have e4 : mayV [⟨⟨#[97]⟩, ⟨#[49, 32, 50]⟩, 1, 3, 0⟩] ⟨#[97]⟩ 2 = false := by decide
  have e5 : setV [⟨⟨#[97]⟩, ⟨#[49, 32, 50]⟩, 1, 3, 0⟩] ⟨#[97]⟩ ⟨#[51]⟩ 1 2 = [⟨⟨#[97]⟩, ⟨#[49, 32, 50]⟩, 1, 3, 0⟩] := by rfl
  have e6 : getV [⟨⟨#[97]⟩, ⟨#[49, 32, 50]⟩, 1, 3, 0⟩] ⟨#[97]⟩ = some ⟨⟨#[97]⟩, ⟨#[49, 32, 50]⟩, 1, 3, 0⟩ := by rfl
  go_enter Try.func64, Try.ntmps64
  go_wp2_with fail
  refine (New_any _).mono ?_
  rintro e w1 ⟨p, m, rfl, S1, g1, hp, hm⟩
  have E1 := Lib.hid e1
  have E2 := Lib.hid e2
  have E3 := Lib.hid e3
  have E4 := Lib.hid e4
  have E5 := Lib.hid e5
  have E6 := Lib.hid e6
  clear e1 e2 e3 e4 e5 e6
  go_wp2_with fail
  refine (Set_any w1 p m [] ⟨#[97]⟩ ⟨#[49]⟩ (by decide) 1 3 S1).mono ?_
  rw [E1.out, E2.out]
  rintro e w2 ⟨rfl, S2, g2⟩
  go_wp2_with fail
  refine (Append_any w2 p m _ ⟨#[97]⟩ ⟨#[50]⟩ (by decide) (by decide) (by intro x hx; cases hx; decide) 3 S2).mono ?_
  rw [E3.out]
  rintro e w3 ⟨rfl, S3, g3⟩
  go_wp2_with fail
  refine (Set_any w3 p m _ ⟨#[97]⟩ ⟨#[51]⟩ (by decide) 1 2 S3).mono ?_
  rw [E4.out, E5.out]
  rintro e w4 ⟨rfl, S4, g4⟩
  go_wp2_with fail
  refine (Get_any w4 p m _ ⟨#[97]⟩ (by decide) S4).mono ?_
  rw [E6.out]
  rintro e w5 ⟨rfl, g5⟩
  have gg := ((((g1.but (some m)).trans g2).trans g3).trans g4).trans (g5.but (some m))
  unfold Vr.val
  go_wp2
  go_ret
  refine ⟨rfl, ?_⟩
  have hb := (Below.refl w.heap.size w).grown gg (Nat.le_refl _) (by rintro k hk; cases hk; exact hm)
  repeat (first | exact hb | refine Below.alloc ?_ (by have := hb.size; simp; omega) _)

theorem cells5 {W : World} {B : Nat} {n v : ByteArray} {f o x : Int} (h : W.heap[B]? = some (.cells #[.string n, .string v, .int .i64 f, .int .i64 o, .int .i64 x] 58 (0, 0))) :
    W.cell? ⟨B, 0, none⟩ = some (.string n) ∧ W.cell? ⟨B, 1, none⟩ = some (.string v) ∧ W.cell? ⟨B, 2, none⟩ = some (.int .i64 f) ∧ W.cell? ⟨B, 3, none⟩ = some (.int .i64 o) ∧ W.cell? ⟨B, 4, none⟩ = some (.int .i64 x) := by
  simp [World.cell?, h]

set_option maxRecDepth 100000 in
set_option maxHeartbeats 1000000 in
theorem VarsOrigins_walk (a b : Int) (value : ByteArray) (w : World) (ha : (Lit.int .i64 a).wf = true) (hb : (Lit.int .i64 b).wf = true) (hv : value.size ≤ 140737488351232) :
    Calls Try.prog 15 #[.int .i64 a, .int .i64 b, .string value] w fun e w' => e = .returned (.bool true) ∧ Below w.heap.size w w' := by
  have HL := Lib.hid (varsAlive_any w)
  by_cases hg : a < 1 ∨ a > 7 ∨ b < 1 ∨ b > 7 ∨ (1000 : Int) < value.size
  · go_enter Try.func15, Try.ntmps15
    go_wp2_with (first | (go_at_call 64; refine (HL.out).mono ?_; rintro e w1 ⟨rfl, HB⟩) | (go_at_call 65; exfalso; omega))
    all_goals (go_ret; exact ⟨rfl, HB⟩)
  · have p1 : 1 ≤ a := by omega
    have p2 : a ≤ 7 := by omega
    have p3 : 1 ≤ b := by omega
    have p4 : b ≤ 7 := by omega
    have p5 : ¬ (1000 : Int) < value.size := by omega
    clear hg
    have e1 : mayV [] ⟨#[118]⟩ a = true := rfl
    have e2 : setV [] ⟨#[118]⟩ ⟨#[111, 108, 100]⟩ 1 a = [⟨⟨#[118]⟩, ⟨#[111, 108, 100]⟩, 1, a, 0⟩] := rfl
    have wa : IntKind.i64.wrap (a - 1) = a - 1 := IntWalk.i64_in _ (by omega)
    by_cases hab : a ≤ b
    · have e3 : mayV [⟨⟨#[118]⟩, ⟨#[111, 108, 100]⟩, 1, a, 0⟩] ⟨#[118]⟩ b = true := by show decide (a ≤ b) = true; simpa using hab
      have e4 : setV [⟨⟨#[118]⟩, ⟨#[111, 108, 100]⟩, 1, a, 0⟩] ⟨#[118]⟩ value 2 b = [⟨⟨#[118]⟩, value, 2, b, 0⟩] := by unfold setV; rw [e3, if_pos rfl]; rfl
      have e5 : getV [⟨⟨#[118]⟩, value, 2, b, 0⟩] ⟨#[118]⟩ = some ⟨⟨#[118]⟩, value, 2, b, 0⟩ := rfl
      have e6 : undefV [⟨⟨#[118]⟩, value, 2, b, 0⟩] ⟨#[118]⟩ (a - 1) = false := by show (!decide (b > a - 1)) = false; simp; omega
      have e7 : undefV [⟨⟨#[118]⟩, value, 2, b, 0⟩] ⟨#[118]⟩ 7 = true := by show (!decide (b > 7)) = true; simp; omega
      have e8 : delV [⟨⟨#[118]⟩, value, 2, b, 0⟩] ⟨#[118]⟩ = [] := rfl
      have e9 : getV [] ⟨#[118]⟩ = none := rfl
      have E1 := Lib.hid e1
      have E2 := Lib.hid e2
      have E3 := Lib.hid e3
      have E4 := Lib.hid e4
      have E5 := Lib.hid e5
      have E6 := Lib.hid e6
      have E7 := Lib.hid e7
      have E8 := Lib.hid e8
      have E9 := Lib.hid e9
      clear e1 e2 e3 e4 e5 e6 e7 e8 e9
      go_enter Try.func15, Try.ntmps15
      go_wp2_with (go_at_call 64; refine (HL.out).mono ?_; rintro e w1 ⟨rfl, HB⟩)
      go_wp2_with fail
      refine (New_any _).mono ?_
      rintro e w2 ⟨p, m, rfl, S1, g1, hp, hm⟩
      go_wp2_with fail
      refine (Set_any w2 p m [] ⟨#[118]⟩ _ (by decide) 1 a S1).mono ?_
      rw [E1.out, E2.out]
      rintro e w3 ⟨rfl, S2, g2⟩
      go_wp2_with fail
      refine (Set_any w3 p m _ ⟨#[118]⟩ _ (by decide) 2 b S2).mono ?_
      rw [E3.out, E4.out]
      rintro e w4 ⟨rfl, S3, g3⟩
      go_wp2_with fail
      refine (Get_any w4 p m _ ⟨#[118]⟩ (by decide) S3).mono ?_
      rw [E5.out]
      rintro e w5 ⟨rfl, g4⟩
      unfold Vr.val
      have g14 := (((g1.but (some m)).trans g2).trans g3).trans (g4.but (some m))
      have S4 := (S3.kept g4 (by simp) (by simp)).alloc (.cells #[.string ⟨#[118]⟩, .string value, .int .i64 2, .int .i64 b, .int .i64 0] 58)
      have hbox : (w5.alloc (.cells #[.string ⟨#[118]⟩, .string value, .int .i64 2, .int .i64 b, .int .i64 0] 58)).heap[w5.heap.size]? = some (.cells #[.string ⟨#[118]⟩, .string value, .int .i64 2, .int .i64 b, .int .i64 0] 58 (0, 0)) := World.alloc_heap_new _ _
      have hbm : some w5.heap.size ≠ some m := fun e => by
        have := g14.size
        have h4 := (S3.kept g4 (by simp) (by simp)).map.lt
        cases e; omega
      go_wp2_with fail
      refine (Undefine_any _ p m _ ⟨#[118]⟩ (by decide) _ S4).mono ?_
      rw [E6.out]
      rintro e w6 ⟨rfl, S5, g5⟩
      have hb6 := (g5.block _ (by simp) hbm).trans hbox
      rw [if_neg (by simp)] at S5
      go_wp2_with fail
      refine (Undefine_any _ p m _ ⟨#[118]⟩ (by decide) _ S5).mono ?_
      rw [E7.out, E8.out]
      rintro e w7 ⟨rfl, S6, g6⟩
      rw [if_pos rfl] at S6
      have hb7 := (g6.block _ (by have := g5.size; simp at this; omega) hbm).trans hb6
      go_wp2_with fail
      refine (Get_any w7 p m _ ⟨#[118]⟩ (by decide) S6).mono ?_
      rw [E9.out]
      rintro e w8 ⟨rfl, g7⟩
      have hlt8 : w5.heap.size < w7.heap.size := by have := g5.size; have := g6.size; simp at *; omega
      have hb8 := (g7.block _ hlt8 (by simp)).trans hb7
      have hlt9 : w5.heap.size < w8.heap.size := by have := g7.size; omega
      unfold Vr.val vr0
      clear hbox hb6 hb7
      obtain ⟨c0, c1, c2, c3, c4⟩ := cells5 hb8
      clear hb8
      go_wp2
      go_ret
      refine ⟨rfl, ?_⟩
      have hsz := HB.size
      have r1 : ∀ k, some m = some k → w.heap.size ≤ k := by rintro k hk; cases hk; omega
      have q1 := HB.grown g14 HB.size r1
      have q2 := q1.alloc q1.size (.cells #[.string ⟨#[118]⟩, .string value, .int .i64 2, .int .i64 b, .int .i64 0] 58)
      have q3 := q2.grown g5 q2.size r1
      have q4 := q3.grown g6 q3.size r1
      have q5 := q4.grown g7 q4.size (by rintro k hk; cases hk)
      exact (q5.alloc q5.size _).alloc (by have := q5.size; simp; omega) _
    · have hba : b < a := by omega
      have e3 : mayV [⟨⟨#[118]⟩, ⟨#[111, 108, 100]⟩, 1, a, 0⟩] ⟨#[118]⟩ b = false := by show decide (a ≤ b) = false; simpa using hab
      have e4 : setV [⟨⟨#[118]⟩, ⟨#[111, 108, 100]⟩, 1, a, 0⟩] ⟨#[118]⟩ value 2 b = [⟨⟨#[118]⟩, ⟨#[111, 108, 100]⟩, 1, a, 0⟩] := by unfold setV; rw [e3, if_neg (by simp)]
      have e5 : getV [⟨⟨#[118]⟩, ⟨#[111, 108, 100]⟩, 1, a, 0⟩] ⟨#[118]⟩ = some ⟨⟨#[118]⟩, ⟨#[111, 108, 100]⟩, 1, a, 0⟩ := rfl
      have e6 : undefV [⟨⟨#[118]⟩, ⟨#[111, 108, 100]⟩, 1, a, 0⟩] ⟨#[118]⟩ (a - 1) = false := by show (!decide (a > a - 1)) = false; simp; omega
      have e7 : undefV [⟨⟨#[118]⟩, ⟨#[111, 108, 100]⟩, 1, a, 0⟩] ⟨#[118]⟩ 7 = true := by show (!decide (a > 7)) = true; simp; omega
      have e8 : delV [⟨⟨#[118]⟩, ⟨#[111, 108, 100]⟩, 1, a, 0⟩] ⟨#[118]⟩ = [] := rfl
      have e9 : getV [] ⟨#[118]⟩ = none := rfl
      have E1 := Lib.hid e1
      have E2 := Lib.hid e2
      have E3 := Lib.hid e3
      have E4 := Lib.hid e4
      have E5 := Lib.hid e5
      have E6 := Lib.hid e6
      have E7 := Lib.hid e7
      have E8 := Lib.hid e8
      have E9 := Lib.hid e9
      clear e1 e2 e3 e4 e5 e6 e7 e8 e9
      go_enter Try.func15, Try.ntmps15
      go_wp2_with (go_at_call 64; refine (HL.out).mono ?_; rintro e w1 ⟨rfl, HB⟩)
      go_wp2_with fail
      refine (New_any _).mono ?_
      rintro e w2 ⟨p, m, rfl, S1, g1, hp, hm⟩
      go_wp2_with fail
      refine (Set_any w2 p m [] ⟨#[118]⟩ _ (by decide) 1 a S1).mono ?_
      rw [E1.out, E2.out]
      rintro e w3 ⟨rfl, S2, g2⟩
      go_wp2_with fail
      refine (Set_any w3 p m _ ⟨#[118]⟩ _ (by decide) 2 b S2).mono ?_
      rw [E3.out, E4.out]
      rintro e w4 ⟨rfl, S3, g3⟩
      go_wp2_with fail
      refine (Get_any w4 p m _ ⟨#[118]⟩ (by decide) S3).mono ?_
      rw [E5.out]
      rintro e w5 ⟨rfl, g4⟩
      unfold Vr.val
      have g14 := (((g1.but (some m)).trans g2).trans g3).trans (g4.but (some m))
      have S4 := (S3.kept g4 (by simp) (by simp)).alloc (.cells #[.string ⟨#[118]⟩, .string ⟨#[111, 108, 100]⟩, .int .i64 1, .int .i64 a, .int .i64 0] 58)
      have hbox : (w5.alloc (.cells #[.string ⟨#[118]⟩, .string ⟨#[111, 108, 100]⟩, .int .i64 1, .int .i64 a, .int .i64 0] 58)).heap[w5.heap.size]? = some (.cells #[.string ⟨#[118]⟩, .string ⟨#[111, 108, 100]⟩, .int .i64 1, .int .i64 a, .int .i64 0] 58 (0, 0)) := World.alloc_heap_new _ _
      have hbm : some w5.heap.size ≠ some m := fun e => by
        have := g14.size
        have h4 := (S3.kept g4 (by simp) (by simp)).map.lt
        cases e; omega
      go_wp2_with fail
      refine (Undefine_any _ p m _ ⟨#[118]⟩ (by decide) _ S4).mono ?_
      rw [E6.out]
      rintro e w6 ⟨rfl, S5, g5⟩
      have hb6 := (g5.block _ (by simp) hbm).trans hbox
      rw [if_neg (by simp)] at S5
      go_wp2_with fail
      refine (Undefine_any _ p m _ ⟨#[118]⟩ (by decide) _ S5).mono ?_
      rw [E7.out, E8.out]
      rintro e w7 ⟨rfl, S6, g6⟩
      rw [if_pos rfl] at S6
      have hb7 := (g6.block _ (by have := g5.size; simp at this; omega) hbm).trans hb6
      go_wp2_with fail
      refine (Get_any w7 p m _ ⟨#[118]⟩ (by decide) S6).mono ?_
      rw [E9.out]
      rintro e w8 ⟨rfl, g7⟩
      have hlt8 : w5.heap.size < w7.heap.size := by have := g5.size; have := g6.size; simp at *; omega
      have hb8 := (g7.block _ hlt8 (by simp)).trans hb7
      have hlt9 : w5.heap.size < w8.heap.size := by have := g7.size; omega
      unfold Vr.val vr0
      clear hbox hb6 hb7
      obtain ⟨c0, c1, c2, c3, c4⟩ := cells5 hb8
      clear hb8
      go_wp2
      go_ret
      refine ⟨ret_bool (by simpa using hba), ?_⟩
      have hsz := HB.size
      have r1 : ∀ k, some m = some k → w.heap.size ≤ k := by rintro k hk; cases hk; omega
      have q1 := HB.grown g14 HB.size r1
      have q2 := q1.alloc q1.size (.cells #[.string ⟨#[118]⟩, .string ⟨#[111, 108, 100]⟩, .int .i64 1, .int .i64 a, .int .i64 0] 58)
      have q3 := q2.grown g5 q2.size r1
      have q4 := q3.grown g6 q3.size r1
      have q5 := q4.grown g7 q4.size (by rintro k hk; cases hk)
      exact (q5.alloc q5.size _).alloc (by have := q5.size; simp; omega) _
end Go.Proofs.Ytndoloohdloflaa
