/- Same on two options that are one, and the number of an error; conditions: lists that lie in memory. -/
import Derived.Test.YtmcemaphhlcjfaaDoorOptT
import Derived.Test.YtmcemaphhlcjfaaDoorLists
namespace Go.Proofs.YtmcemaphhlcjfaaDoor
open Go.RowKit

theorem numO_any (x : Int) (w : World) : Calls Tryd.prog 29 #[.int .i64 x] w fun e w' => e = .returned (.int .i64 x) ∧ w' = w := by
  go_enter Tryd.func29, Tryd.ntmps29
  go_wp2
  go_ret
  exact ⟨rfl, rfl⟩
theorem StrsAt.below {w w' : World} {A : Option Addr} {xs : List ByteArray} (h : StrsAt w A xs) (hb : Below w.heap.size w w') : StrsAt w' A xs := fun j x hj => by
  obtain ⟨b, o, hA, hc⟩ := h j x hj
  exact ⟨b, o, hA, (hb.cell (p := ⟨b, o + j, none⟩) (World.block_lt_of_cell? _ _ hc)).trans hc⟩
theorem opRow_same (j : Int) (b1 b2 : Nat → Bool) (nv : Bool) (vf vg vv : Value) (h : ∀ n, 1 ≤ n → n ≤ 9 → b1 n = b2 n) : opRow j b1 nv vf vg vv = opRow j b2 nv vf vg vv := by
  unfold opRow
  rw [h 1 (by decide) (by decide), h 2 (by decide) (by decide), h 3 (by decide) (by decide), h 4 (by decide) (by decide), h 5 (by decide) (by decide), h 6 (by decide) (by decide), h 7 (by decide) (by decide), h 8 (by decide) (by decide), h 9 (by decide) (by decide)]

set_option maxRecDepth 100000 in
set_option maxHeartbeats 4000000 in
theorem SameO_any (w : World) (j : Int) (bs1 bs2 : Nat → Bool) (nv : Bool) (A1 A2 A3 B1 B2 B3 : Option Addr) (c1 c2 c3 d1 d2 d3 : Nat) (F G V : List ByteArray) (hbs : ∀ n, 1 ≤ n → n ≤ 9 → bs1 n = bs2 n)
    (f1 : StrsAt w A1 F) (f2 : StrsAt w B1 F) (g1 : StrsAt w A2 G) (g2 : StrsAt w B2 G) (v1 : StrsAt w A3 V) (v2 : StrsAt w B3 V) (lF : F.length ≤ 1000000) (lG : G.length ≤ 1000000) (lV : V.length ≤ 1000000) :
    Calls Tryd.prog 30 #[.agg (opRow j bs1 nv (.slice A1 F.length c1) (.slice A2 G.length c2) (.slice A3 V.length c3)), .agg (opRow j bs2 nv (.slice B1 F.length d1) (.slice B2 G.length d2) (.slice B3 V.length d3))] w
      fun e w' => e = .returned (.bool true) ∧ Below w.heap.size w w' := by
  rw [← opRow_same j bs1 bs2 nv _ _ _ hbs]
  have HS := Lib.hid fun (wi : World) (hb : Below w.heap.size w wi) (A B : Option Addr) (ca cb : Nat) (xs : List ByteArray) (h1 : StrsAt w A xs) (h2 : StrsAt w B xs) (hx : xs.length ≤ 1000000) =>
    Same_any wi A B ca cb xs xs (h1.below hb) (h2.below hb) (by omega)
  simp only [sameL_self] at HS
  have HF := Lib.hid (And.intro f1 f2)
  have HG := Lib.hid (And.intro g1 g2)
  have HV := Lib.hid (And.intro v1 v2)
  have HL := Lib.hid (And.intro lF (And.intro lG lV))
  have hjj : (j == j) = true := beq_self_eq_true j
  have hnv : (nv == nv) = true := beq_self_eq_true nv
  obtain ⟨NF, hNF⟩ : ∃ N, F.length = N := ⟨_, rfl⟩
  obtain ⟨NG, hNG⟩ : ∃ N, G.length = N := ⟨_, rfl⟩
  obtain ⟨NV, hNV⟩ : ∃ N, V.length = N := ⟨_, rfl⟩
  have HCF := Lib.hid fun (wi : World) (hb : Below w.heap.size w wi) => HS.out wi hb A1 B1 c1 d1 F HF.out.1 HF.out.2 HL.out.1
  have HCG := Lib.hid fun (wi : World) (hb : Below w.heap.size w wi) => HS.out wi hb A2 B2 c2 d2 G HG.out.1 HG.out.2 HL.out.2.1
  have HCV := Lib.hid fun (wi : World) (hb : Below w.heap.size w wi) => HS.out wi hb A3 B3 c3 d3 V HV.out.1 HV.out.2 HL.out.2.2
  rw [hNF] at HCF ⊢
  rw [hNG] at HCG ⊢
  rw [hNV] at HCV ⊢
  clear f1 f2 g1 g2 v1 v2 lF lG lV hbs hNF hNG hNV HS HF HG HV HL
  obtain ⟨R1, hR1⟩ : ∃ R, opRow j bs1 nv (.slice A1 NF c1) (.slice A2 NG c2) (.slice A3 NV c3) = R := ⟨_, rfl⟩
  obtain ⟨R2, hR2⟩ : ∃ R, opRow j bs1 nv (.slice B1 NF d1) (.slice B2 NG d2) (.slice B3 NV d3) = R := ⟨_, rfl⟩
  have HB : Hid (∀ W, Below (w.heap.size + 2) ((w.alloc (.cells R1 47)).alloc (.cells R2 47)) W → W.heap[w.heap.size]? = some (.cells R1 47 (0, 0)) ∧ W.heap[w.heap.size + 1]? = some (.cells R2 47 (0, 0)) ∧ Below w.heap.size w W) := by
    intro W h
    have e2 := World.alloc_heap_new (w.alloc (.cells R1 47)) (.cells R2 47)
    have e1 := (Below.heap_alloc (w.alloc (.cells R1 47)) (.cells R2 47) w.heap.size (by simp)).trans (World.alloc_heap_new w (.cells R1 47))
    rw [World.size_alloc] at e2
    exact ⟨(h.block _ (by omega)).trans e1, (h.block _ (by omega)).trans e2, (((Below.refl _ w).alloc (Nat.le_refl _) _).alloc (by simp) _).trans (h.mono (by omega))⟩
  rw [← hR1, ← hR2] at HB
  clear hR1 hR2 R1 R2
  obtain ⟨w2, hw2⟩ : ∃ w2, (w.alloc (.cells (opRow j bs1 nv (.slice A1 NF c1) (.slice A2 NG c2) (.slice A3 NV c3)) 47)).alloc (.cells (opRow j bs1 nv (.slice B1 NF d1) (.slice B2 NG d2) (.slice B3 NV d3)) 47) = w2 := ⟨_, rfl⟩
  rw [hw2] at HB
  have hs2 : w2.heap.size = w.heap.size + 2 := by rw [← hw2]; simp
  have HS2 := Lib.hid hs2
  obtain ⟨r1, r2, k0⟩ := HB.out w2 (by rw [← hs2]; exact Below.refl _ _)
  have e1 : (bs1 1 == bs1 1) = true := beq_self_eq_true _
  have e2 : (bs1 2 == bs1 2) = true := beq_self_eq_true _
  have e3 : (bs1 3 == bs1 3) = true := beq_self_eq_true _
  have e4 : (bs1 4 == bs1 4) = true := beq_self_eq_true _
  have e5 : (bs1 5 == bs1 5) = true := beq_self_eq_true _
  have e6 : (bs1 6 == bs1 6) = true := beq_self_eq_true _
  have e7 : (bs1 7 == bs1 7) = true := beq_self_eq_true _
  have e8 : (bs1 8 == bs1 8) = true := beq_self_eq_true _
  have e9 : (bs1 9 == bs1 9) = true := beq_self_eq_true _
  have p0 := (rowo r1 (j := 0) (v := .int .i64 j) rfl).1
  have q0 := (rowo r2 (j := 0) (v := .int .i64 j) rfl).1
  have p1 := (rowo r1 (j := 1) (v := .bool (bs1 1)) rfl).1
  have q1 := (rowo r2 (j := 1) (v := .bool (bs1 1)) rfl).1
  have p2 := (rowo r1 (j := 2) (v := .bool (bs1 2)) rfl).1
  have q2 := (rowo r2 (j := 2) (v := .bool (bs1 2)) rfl).1
  have p3 := (rowo r1 (j := 3) (v := .bool (bs1 3)) rfl).1
  have q3 := (rowo r2 (j := 3) (v := .bool (bs1 3)) rfl).1
  have p4 := (rowo r1 (j := 4) (v := .bool (bs1 4)) rfl).1
  have q4 := (rowo r2 (j := 4) (v := .bool (bs1 4)) rfl).1
  have p5 := (rowo r1 (j := 5) (v := .bool (bs1 5)) rfl).1
  have q5 := (rowo r2 (j := 5) (v := .bool (bs1 5)) rfl).1
  have p6 := (rowo r1 (j := 6) (v := .bool (bs1 6)) rfl).1
  have q6 := (rowo r2 (j := 6) (v := .bool (bs1 6)) rfl).1
  have p7 := (rowo r1 (j := 7) (v := .bool (bs1 7)) rfl).1
  have q7 := (rowo r2 (j := 7) (v := .bool (bs1 7)) rfl).1
  have p8 := (rowo r1 (j := 8) (v := .bool (bs1 8)) rfl).1
  have q8 := (rowo r2 (j := 8) (v := .bool (bs1 8)) rfl).1
  have p9 := (rowo r1 (j := 9) (v := .bool (bs1 9)) rfl).1
  have q9 := (rowo r2 (j := 9) (v := .bool (bs1 9)) rfl).1
  have p10 := (rowo r1 (j := 10) (v := .bool nv) rfl).1
  have q10 := (rowo r2 (j := 10) (v := .bool nv) rfl).1
  have p11 := (rowo r1 (j := 11) (v := .slice A1 NF c1) rfl).1
  have q11 := (rowo r2 (j := 11) (v := .slice B1 NF d1) rfl).1
  have p12 := (rowo r1 (j := 12) (v := .slice A2 NG c2) rfl).1
  have q12 := (rowo r2 (j := 12) (v := .slice B2 NG d2) rfl).1
  have p13 := (rowo r1 (j := 13) (v := .slice A3 NV c3) rfl).1
  have q13 := (rowo r2 (j := 13) (v := .slice B3 NV d3) rfl).1
  have HB0 := Lib.hid k0
  clear r1 r2 hs2 k0
  unfold opRow at hw2 ⊢
  go_enter Tryd.func30, Tryd.ntmps30
  go_upto_region 1 with fail
  try rw [hw2]
  clear hw2
  obtain ⟨ob, hob⟩ : ∃ ob, w.heap.size = ob := ⟨_, rfl⟩
  have HOB := Lib.hid hob
  rw [hob] at p0 q0 p1 q1 p2 q2 p3 q3 p4 q4 p5 q5 p6 q6 p7 q7 p8 q8 p9 q9 p10 q10 p11 q11 p12 q12 p13 q13 ⊢
  clear hob
  go_wp2_with fail
  refine (HCF.out w2 HB0.out).mono ?_
  rintro e w3 ⟨rfl, hb3⟩
  have HB3 := Lib.hid (show Below (w.heap.size + 2) w2 w3 from by rw [← HS2.out]; exact hb3)
  obtain ⟨r1, r2, k3⟩ := HB.out w3 HB3.out
  rw [HOB.out] at r1 r2
  have p12' := (rowo r1 (j := 12) (v := .slice A2 NG c2) rfl).1
  have q12' := (rowo r2 (j := 12) (v := .slice B2 NG d2) rfl).1
  clear hb3 r1 r2
  go_wp2_with fail
  refine (HCG.out w3 k3).mono ?_
  rintro e w4 ⟨rfl, hb4⟩
  have HB4 := Lib.hid (HB3.out.trans (hb4.mono (by have := HB3.out.size; have := HS2.out; omega)))
  obtain ⟨r1, r2, k4⟩ := HB.out w4 HB4.out
  rw [HOB.out] at r1 r2
  have p13' := (rowo r1 (j := 13) (v := .slice A3 NV c3) rfl).1
  have q13' := (rowo r2 (j := 13) (v := .slice B3 NV d3) rfl).1
  clear hb4 r1 r2
  go_wp2_with fail
  refine (HCV.out w4 k4).mono ?_
  rintro e w5 ⟨rfl, hb5⟩
  go_wp2
  go_ret
  exact ⟨rfl, k4.trans (hb5.mono k4.size)⟩
end Go.Proofs.YtmcemaphhlcjfaaDoor
