/- VarsPlays: every row of calls answers, and leaves, what the document says; a twin has nothing to do with what follows, and what is answered is the caller's. -/
import Derived.Test.YtndoloohdloflabVarsDo
import Derived.Test.YtndoloohdloflabVarsSame
namespace Go.Proofs.Ytndoloohdloflab
open Go.RowKit Go.Maps

/-- a block that is none of the two stores' own -/
def Away (W : World) (m r k : Nat) : Prop := k < W.heap.size ∧ k ≠ m ∧ k ≠ r ∧ rowBlk W r ≠ some k
theorem Away.keep {W W' : World} {m r k : Nat} (h : Away W m r k) (hf : FrM W W' m r) : Away W' m r k ∧ W'.heap[k]? = W.heap[k]? := by
  obtain ⟨h1, h2, h3, h4⟩ := h
  obtain ⟨e1, e2⟩ := hf.2 k h1 h2 h3 h4
  exact ⟨⟨Nat.lt_of_lt_of_le h1 hf.1, h2, h3, e2⟩, e1⟩
/-- the twin, and the list that was taken of the store when it was made -/
def TwinAt (W : World) (m r : Nat) (tw ws : Value) : Prop := ∃ p2 m2 l2 A2 n2 c2, tw = .pointer (some ⟨p2, 0, none⟩) ∧ ws = .slice A2 n2 c2 ∧ StoreAt W p2 m2 l2 ∧ Up l2 ∧ l2.length = n2 ∧ OwnG W 0 64 5 (.slice A2 n2 c2) n2 (vRows l2) ∧
  Away W m r p2 ∧ Away W m r m2 ∧ ∀ k, (Value.slice A2 n2 c2).ownBlock = some k → Away W m r k
theorem TwinAt.keep {W W' : World} {m r : Nat} {tw ws : Value} (h : TwinAt W m r tw ws) (hf : FrM W W' m r) : TwinAt W' m r tw ws := by
  obtain ⟨p2, m2, l2, A2, n2, c2, e1, e2, h1, h2, h3, h4, h5, h6, h7⟩ := h
  obtain ⟨a1, b1⟩ := h5.keep hf
  obtain ⟨a2, b2⟩ := h6.keep hf
  exact ⟨p2, m2, l2, A2, n2, c2, e1, e2, h1.move b1 b2, h2, h3, h4.move fun k hk => ((h7 k hk).keep hf).2, a1, a2, fun k hk => ((h7 k hk).keep hf).1⟩
theorem RefAt.blk {w : World} {r : Nat} {l : List Vr} (h : RefAt w r l) : ∀ k, rowBlk w r = some k → k < w.heap.size := by
  obtain ⟨v, h1, h2⟩ := h.own
  intro k hk
  rw [rowBlk_of h1] at hk
  exact (h2.block_lt k hk).2
theorem TwinAt.made {W0 W1 W2 : World} {p m r p2 m2 : Nat} {l : List Vr} {A2 : Option Addr} {n2 c2 : Nat} (hB : Both W0 p m r l) (hS : StoreAt W1 p2 m2 l) (hb1 : Below W0.heap.size W0 W1) (hp : W0.heap.size ≤ p2) (hm : W0.heap.size ≤ m2)
    (hO : OwnG W2 W1.heap.size 64 5 (.slice A2 n2 c2) n2 (vRows l)) (hb2 : Below W1.heap.size W1 W2) (hn : l.length = n2) : TwinAt W2 m r (.pointer (some ⟨p2, 0, none⟩)) (.slice A2 n2 c2) := by
  have hz1 := hb1.size
  have hz2 := hb2.size
  have hr := hB.rf.lt
  have hmr := hB.mr
  have hr1 : W2.heap[r]? = W0.heap[r]? := (hb2.block r (by omega)).trans (hb1.block r hr)
  have haw : ∀ k, W0.heap.size ≤ k → k < W2.heap.size → Away W2 m r k := fun k h1 h2 => ⟨h2, by omega, by omega, by
    rw [rowBlk_same hr1]; intro e; have := hB.rf.blk k e; omega⟩
  have hpl := hS.box.lt
  have hml := hS.mlt
  exact ⟨p2, m2, l, A2, n2, c2, rfl, rfl, hS.move (hb2.block p2 hpl) (hb2.block m2 hml), hB.rf.up, hn, hO.lower (Nat.zero_le _), haw p2 hp (by omega), haw m2 hm (by omega), fun k hk => haw k (by have := (hO.block_lt k hk).1; omega) (hO.block_lt k hk).2⟩
theorem RefAt.list {w : World} {r : Nat} {l : List Vr} (h : RefAt w r l) : ∃ A c, w.cell? ⟨r, 0, none⟩ = some (.slice A l.length c) ∧ OwnG w (r + 1) 64 5 (.slice A l.length c) l.length (vRows l) := by
  obtain ⟨v, h1, h2⟩ := h.own
  obtain ⟨A, c, rfl, _, _⟩ := h2.form
  exact ⟨A, c, by simp [World.cell?, h1], h2⟩

theorem wrap64_half (k : Nat) (h : k ≤ 1000) : wrap64 (k : Int) = (k : Int) := by unfold wrap64; omega
theorem costO_le (xs : List Opr) (k : Nat) : costO (xs.take k) ≤ costO xs := by
  induction xs generalizing k with
  | nil => simp [costO]
  | cons x xs ih =>
    cases k with
    | zero => simp [costO]
    | succ k => have := ih k; simp only [costO, List.take_succ_cons, List.map_cons, List.sum_cons] at this ⊢; omega
set_option maxRecDepth 100000 in
set_option maxHeartbeats 4000000 in
theorem VarsPlays_walk (A : Option Addr) (c : Nat) (xs : List Opr) (w : World) (ha : OprsAt w A xs) (hl : xs.length ≤ 140737488351232) (hz : ∀ x ∈ xs, x.name.size ≤ 140737488351232 ∧ x.value.size ≤ 140737488351232) (hc : xs.length ≤ c) :
    Calls Try.prog 11 #[.slice A xs.length c] w fun e w' => e = .returned (.bool true) ∧ Below w.heap.size w w' := by
  have HL := Lib.hid (varsAlive_any w)
  have HA := Lib.hid ha
  have HZ := Lib.hid hz
  obtain ⟨n, hn⟩ : ∃ n, xs.length = n := ⟨_, rfl⟩
  have HN := Lib.hid hn
  have HMu := Lib.hid fun w1 (h : Below w.heap.size w w1) => Much_any w1 A n c xs (HA.out.below h) hn (by omega) hz
  rw [hn] at hl hc ⊢
  clear ha hz hn
  go_enter Try.func11, Try.ntmps11
  go_wp2_with fail
  refine (HL.out).mono ?_
  rintro e w1 ⟨rfl, HB1⟩
  go_wp2_with fail
  refine (HMu.out w1 HB1).mono ?_
  rintro e w2 ⟨b, nq, rfl, hb, hw2⟩
  have HB2 : Below w.heap.size w w2 := by rw [hw2]; exact below_drewN HB1 nq
  clear hw2
  cases b
  · obtain ⟨hcost, hn300⟩ := hb rfl
    have HCO := Lib.hid hcost
    clear hb hcost HMu HL
    go_wp2_with fail
    refine (New_any w2).mono ?_
    rintro e w3 ⟨p, m, rfl, S1, g1, hp, hm⟩
    have B1 := Lib.hid (Both.start S1)
    have HB3 := (HB2.grown g1 HB2.size (by simp)).alloc (Nat.le_trans HB2.size g1.size) (.cells #[.slice none 0 0] 50)
    have HPM := Lib.hid (And.intro (Nat.le_trans HB2.size hp) (Nat.le_trans HB2.size hm))
    have hwr : w.heap.size ≤ w3.heap.size := Nat.le_trans HB2.size g1.size
    obtain ⟨r, hr⟩ : ∃ r, w3.heap.size = r := ⟨_, rfl⟩
    rw [hr] at B1 hwr
    have HWR := Lib.hid hwr
    have HR := Lib.hid hr
    clear S1 g1 hp hm hwr
    obtain ⟨half, hh⟩ : ∃ half, n / 2 = half := ⟨_, rfl⟩
    have t1 : (n : Int) / 2 = (half : Int) := by omega
    clear hh hr
    go_wp2_with fail
    rw [HR.out]
    go_loopw [8, 9, 10, 11, 12, 13, 14, 15] (fun tw ws i _ _ _ _ _ wi => ∃ (k : Nat) (l : List Vr), i = .int .i64 k ∧ k ≤ n ∧ Both wi p m r l ∧ Hid (VB l (costO (xs.take k))) ∧ Below w.heap.size w wi ∧ ((k ≤ half ∧ tw = .pointer none ∧ ws = .slice none 0 0) ∨ (half < k ∧ Hid (TwinAt wi m r tw ws)))) (fun _ _ i _ _ _ _ _ _ => n - (intOf i).toNat)
    case atStart => exact ⟨0, [], rfl, Nat.zero_le _, B1.out, (show VB [] _ from fun x hx => by cases hx), HB3, .inl ⟨Nat.zero_le _, rfl, rfl⟩⟩
    case round =>
      obtain ⟨k, l, rfl, hk, hB, hvb, hbel, htw⟩ := hrel
      by_cases hlt : k < n
      · obtain ⟨x, hx⟩ : ∃ x, xs[k]? = some x := ⟨_, List.getElem?_eq_getElem (by rw [HN.out]; exact hlt)⟩
        obtain ⟨ab, ao, rfl, c0, c1, c2, c3, c4⟩ := HA.out k x hx
        have hab : ab < w.heap.size := World.block_lt_of_cell? _ _ c0
        have HCELL : Hid (∀ W, Below w.heap.size w W → W.cell? ⟨ab, ao + k * 5, none⟩ = some (.int .i64 x.kind) ∧ W.cell? ⟨ab, ao + k * 5 + 1, none⟩ = some (.string x.name) ∧ W.cell? ⟨ab, ao + k * 5 + 2, none⟩ = some (.string x.value) ∧ W.cell? ⟨ab, ao + k * 5 + 3, none⟩ = some (.int .i64 x.flav) ∧ W.cell? ⟨ab, ao + k * 5 + 4, none⟩ = some (.int .i64 x.origin)) := fun W hb => by
          have hm : ∀ i, W.cell? ⟨ab, i, none⟩ = w.cell? ⟨ab, i, none⟩ := fun i => hb.cell (p := ⟨ab, i, none⟩) hab
          exact ⟨(hm _).trans c0, (hm _).trans c1, (hm _).trans c2, (hm _).trans c3, (hm _).trans c4⟩
        obtain ⟨hz1, hz2⟩ := HZ.out x (List.mem_of_getElem? hx)
        have hct := costO_take hx
        have hcle : costO (xs.take (k + 1)) ≤ costO xs := costO_le xs (k + 1)
        have hco := HCO.out
        have hcb : costO (xs.take k) ≤ 1000000 := by omega
        have HCT : Hid (costO (xs.take k) + x.value.size + 1 ≤ costO (xs.take (k + 1))) := by unfold Hid; omega
        obtain ⟨x0, x1, x2, x3, x4⟩ := x
        simp only at HCELL hz1 hz2 HCT
        have q1 : (k : Int) < n := by omega
        clear c0 c1 c2 c3 c4 hx hct hcle hco
        by_cases hkh : k = half
        · subst hkh
          obtain ⟨-, rfl, rfl⟩ := htw.resolve_right fun h => absurd h.1 (Nat.lt_irrefl _)
          have HTw := Lib.hid (Twin_any wr p m l hB.st hB.rf.up)
          go_wp2_with (first | (go_at_call 44; refine HTw.out.mono ?_; rintro e w4 ⟨p2, m2, rfl, hS4, hb4, hp4, hm4⟩; have hB4 := hB.below hb4) | (go_at_call 42; refine (List_any w4 p m l hB4.st hB4.rf.up).mono ?_; rintro e w5 ⟨v, rfl, hv5, hb5⟩; obtain ⟨A2, c2, rfl, _, _⟩ := hv5.form; have HT := Lib.hid (TwinAt.made hB hS4 hb4 hp4 hm4 hv5 hb5 rfl); have hBc := hB4.below hb5; have hbc := (hbel.trans (hb4.mono hbel.size)).trans (hb5.mono (Nat.le_trans hbel.size hb4.size)); obtain ⟨d0, d1, d2, d3, d4⟩ := HCELL.out _ hbc; clear hv5 hS4) | (go_at_call 45; refine (Do_any _ p m r l _ _ _ _ _ (costO (xs.take k)) hz1 hz2 hcb hBc hvb.out).mono ?_; rintro e w6 ⟨rfl, l', hB6, hvb6, hbe6, hfm6⟩; have hb6 := hbc.trans (hbe6 _ HPM.out.1 HPM.out.2); have hfmc := Lib.hid hfm6; have hvbc := Lib.hid hvb6; clear hbe6 hfm6 hvb6; obtain ⟨d0, d1, d2, d3, d4⟩ := HCELL.out _ hb6; obtain ⟨q, hq⟩ : ∃ q, (getV l' x1).getD vr0 = q := ⟨_, rfl⟩; obtain ⟨fq, hfq⟩ : ∃ fq, (getV l' x1).isSome = fq := ⟨_, rfl⟩; obtain ⟨y1, y2, y3, y4, y5⟩ := q; have HGet : Hid (∀ W, Both W p m r l' → Calls Try.prog 46 #[.pointer (some ⟨p, 0, none⟩), .string x1] W fun e w' => e = .returned (.tuple #[.agg #[.string y1, .string y2, .int .i64 y3, .int .i64 y4, .int .i64 y5], .bool fq]) ∧ W.grownBy w' none) := (fun W h => by have h2 := Get_any W p m l' x1 hz1 h.st; rw [hq, hfq] at h2; exact h2); have HRGet : Hid (∀ W, Both W p m r l' → Calls Try.prog 47 #[.pointer (some ⟨r, 0, none⟩), .string x1] W fun e w' => e = .returned (.tuple #[.agg #[.string y1, .string y2, .int .i64 y3, .int .i64 y4, .int .i64 y5], .bool fq]) ∧ Below W.heap.size W w') := (fun W h => by have h2 := refGet_any W r l' x1 h.rf; rw [hq, hfq] at h2; exact h2); clear hq hfq) | (go_at_call 46; refine (HGet.out _ hB6).mono ?_; rintro e w7 ⟨rfl, g7⟩; have hb67 : Below w6.heap.size w6 w7 := (Below.refl _ w6).grown g7 (Nat.le_refl _) (by simp); have hB7 := (hB6.below hb67).allocd (.cells #[.string y1, .string y2, .int .i64 y3, .int .i64 y4, .int .i64 y5] 64); have hb7 := (hb6.trans (hb67.mono hb6.size)).alloc (Nat.le_trans hb6.size hb67.size) (.cells #[.string y1, .string y2, .int .i64 y3, .int .i64 y4, .int .i64 y5] 64); have hk7 := Lib.hid (heap_alloc_last w7 (.cells #[.string y1, .string y2, .int .i64 y3, .int .i64 y4, .int .i64 y5] 64)); have hf7 : Below w6.heap.size w6 (w7.alloc (.cells #[.string y1, .string y2, .int .i64 y3, .int .i64 y4, .int .i64 y5] 64)) := hb67.alloc hb67.size _; clear d0 d1 d2 d3 d4; obtain ⟨d0, d1, d2, d3, d4⟩ := HCELL.out _ hb7; clear g7 hb67) | (go_at_call 47; refine (HRGet.out _ hB7).mono ?_; rintro e w8 ⟨rfl, hb8⟩; have hl7 : w7.heap.size < w8.heap.size := (by have := hb8.size; simp at this; omega); have hk8 : w8.heap[w7.heap.size]? = some (.cells #[.string y1, .string y2, .int .i64 y3, .int .i64 y4, .int .i64 y5] 64 (0, 0)) := (hb8.block w7.heap.size (by simp)).trans hk7.out; have e0 : w8.cell? ⟨w7.heap.size, 0, none⟩ = some (.string y1) := (by simp [World.cell?, hk8]); have e1 : w8.cell? ⟨w7.heap.size, 1, none⟩ = some (.string y2) := (by simp [World.cell?, hk8]); have e2 : w8.cell? ⟨w7.heap.size, 2, none⟩ = some (.int .i64 y3) := (by simp [World.cell?, hk8]); have e3 : w8.cell? ⟨w7.heap.size, 3, none⟩ = some (.int .i64 y4) := (by simp [World.cell?, hk8]); have e4 : w8.cell? ⟨w7.heap.size, 4, none⟩ = some (.int .i64 y5) := (by simp [World.cell?, hk8]); have hF8 : Below w6.heap.size w6 (w8.alloc (.cells #[.string y1, .string y2, .int .i64 y3, .int .i64 y4, .int .i64 y5] 64)) := (hf7.trans (hb8.mono hf7.size)).alloc (Nat.le_trans hf7.size hb8.size) _; have HB9 := Lib.hid (hB6.below hF8); have Hb9 := Lib.hid (hb6.trans (hF8.mono hb6.size)); have HF9 := Lib.hid (hfmc.out.trans (FrM.below hF8 hB6.rf.lt)); clear hb8 hk8 hF8))
          refine ⟨?rel, ?measure⟩
          case rel => exact ⟨k + 1, l', by go_num, by omega, HB9.out, hvbc.out.mono HCT.out, Hb9.out, Or.inr ⟨Nat.lt_succ_self _, HT.out.keep HF9.out⟩⟩
          case measure => simp [intOf]; omega
        · have hne : ¬ (k : Int) = (half : Int) := by omega
          have hBc := hB
          have hbc := hbel
          obtain ⟨d0, d1, d2, d3, d4⟩ := HCELL.out _ hbc
          have HTW := Lib.hid htw
          clear htw
          go_wp2_with (first | (go_at_call 45; refine (Do_any _ p m r l _ _ _ _ _ (costO (xs.take k)) hz1 hz2 hcb hBc hvb.out).mono ?_; rintro e w6 ⟨rfl, l', hB6, hvb6, hbe6, hfm6⟩; have hb6 := hbc.trans (hbe6 _ HPM.out.1 HPM.out.2); have hfmc := Lib.hid hfm6; have hvbc := Lib.hid hvb6; clear hbe6 hfm6 hvb6; obtain ⟨d0, d1, d2, d3, d4⟩ := HCELL.out _ hb6; obtain ⟨q, hq⟩ : ∃ q, (getV l' x1).getD vr0 = q := ⟨_, rfl⟩; obtain ⟨fq, hfq⟩ : ∃ fq, (getV l' x1).isSome = fq := ⟨_, rfl⟩; obtain ⟨y1, y2, y3, y4, y5⟩ := q; have HGet : Hid (∀ W, Both W p m r l' → Calls Try.prog 46 #[.pointer (some ⟨p, 0, none⟩), .string x1] W fun e w' => e = .returned (.tuple #[.agg #[.string y1, .string y2, .int .i64 y3, .int .i64 y4, .int .i64 y5], .bool fq]) ∧ W.grownBy w' none) := (fun W h => by have h2 := Get_any W p m l' x1 hz1 h.st; rw [hq, hfq] at h2; exact h2); have HRGet : Hid (∀ W, Both W p m r l' → Calls Try.prog 47 #[.pointer (some ⟨r, 0, none⟩), .string x1] W fun e w' => e = .returned (.tuple #[.agg #[.string y1, .string y2, .int .i64 y3, .int .i64 y4, .int .i64 y5], .bool fq]) ∧ Below W.heap.size W w') := (fun W h => by have h2 := refGet_any W r l' x1 h.rf; rw [hq, hfq] at h2; exact h2); clear hq hfq) | (go_at_call 46; refine (HGet.out _ hB6).mono ?_; rintro e w7 ⟨rfl, g7⟩; have hb67 : Below w6.heap.size w6 w7 := (Below.refl _ w6).grown g7 (Nat.le_refl _) (by simp); have hB7 := (hB6.below hb67).allocd (.cells #[.string y1, .string y2, .int .i64 y3, .int .i64 y4, .int .i64 y5] 64); have hb7 := (hb6.trans (hb67.mono hb6.size)).alloc (Nat.le_trans hb6.size hb67.size) (.cells #[.string y1, .string y2, .int .i64 y3, .int .i64 y4, .int .i64 y5] 64); have hk7 := Lib.hid (heap_alloc_last w7 (.cells #[.string y1, .string y2, .int .i64 y3, .int .i64 y4, .int .i64 y5] 64)); have hf7 : Below w6.heap.size w6 (w7.alloc (.cells #[.string y1, .string y2, .int .i64 y3, .int .i64 y4, .int .i64 y5] 64)) := hb67.alloc hb67.size _; clear d0 d1 d2 d3 d4; obtain ⟨d0, d1, d2, d3, d4⟩ := HCELL.out _ hb7; clear g7 hb67) | (go_at_call 47; refine (HRGet.out _ hB7).mono ?_; rintro e w8 ⟨rfl, hb8⟩; have hl7 : w7.heap.size < w8.heap.size := (by have := hb8.size; simp at this; omega); have hk8 : w8.heap[w7.heap.size]? = some (.cells #[.string y1, .string y2, .int .i64 y3, .int .i64 y4, .int .i64 y5] 64 (0, 0)) := (hb8.block w7.heap.size (by simp)).trans hk7.out; have e0 : w8.cell? ⟨w7.heap.size, 0, none⟩ = some (.string y1) := (by simp [World.cell?, hk8]); have e1 : w8.cell? ⟨w7.heap.size, 1, none⟩ = some (.string y2) := (by simp [World.cell?, hk8]); have e2 : w8.cell? ⟨w7.heap.size, 2, none⟩ = some (.int .i64 y3) := (by simp [World.cell?, hk8]); have e3 : w8.cell? ⟨w7.heap.size, 3, none⟩ = some (.int .i64 y4) := (by simp [World.cell?, hk8]); have e4 : w8.cell? ⟨w7.heap.size, 4, none⟩ = some (.int .i64 y5) := (by simp [World.cell?, hk8]); have hF8 : Below w6.heap.size w6 (w8.alloc (.cells #[.string y1, .string y2, .int .i64 y3, .int .i64 y4, .int .i64 y5] 64)) := (hf7.trans (hb8.mono hf7.size)).alloc (Nat.le_trans hf7.size hb8.size) _; have HB9 := Lib.hid (hB6.below hF8); have Hb9 := Lib.hid (hb6.trans (hF8.mono hb6.size)); have HF9 := Lib.hid (hfmc.out.trans (FrM.below hF8 hB6.rf.lt)); clear hb8 hk8 hF8))
          refine ⟨?rel, ?measure⟩
          case rel => exact ⟨k + 1, l', by go_num, by omega, HB9.out, hvbc.out.mono HCT.out, Hb9.out, HTW.out.elim (fun h => Or.inl ⟨by have := h.1; omega, h.2⟩) (fun h => Or.inr ⟨by have := h.1; omega, h.2.out.keep HF9.out⟩)⟩
          case measure => simp [intOf]; omega
      · obtain rfl : k = n := by omega
        have q1 : ¬ (k : Int) < k := by omega
        obtain ⟨wo, hwo⟩ : ∃ wo : World, wo = wr := ⟨wr, rfl⟩
        subst hwo
        obtain ⟨M, hM⟩ : ∃ M, l.length = M := ⟨_, rfl⟩
        have HM := Lib.hid hM
        have hM1 : M ≤ 1000 := by rw [← hM]; exact hB.rf.len
        have HBw := Lib.hid hB
        have HBe := Lib.hid hbel
        have HList := Lib.hid fun W (h : Both W p m r l) => List_any W p m l h.st h.rf.up
        have HSame := Lib.hid fun W A1 c1 b1 (h1 : OwnG W b1 64 5 (.slice A1 M c1) M (vRows l)) A2 c2 b2 (h2 : OwnG W b2 64 5 (.slice A2 M c2) M (vRows l)) => SameVars_any W b1 b2 M c1 c2 A1 A2 l h1 h2 (by omega)
        rw [hM] at HList
        clear hM hB hbel hvb
        rcases htw with ⟨-, rfl, rfl⟩ | ⟨-, hT⟩
        · go_wp2_with (first | (go_at_call 42; refine (HList.out _ HBw.out).mono ?_; rintro e w4 ⟨v, rfl, hv4, hb4⟩; obtain ⟨A4, c4, rfl, _, _⟩ := hv4.form; have hB4 := HBw.out.below hb4; obtain ⟨A5, c5, hbx5, ho5⟩ := hB4.rf.list; rw [HM.out] at hbx5 ho5; have HO4 := Lib.hid hv4; have HO5 := Lib.hid ho5; have hb4' := Lib.hid hb4; have hrlt := hB4.rf.lt; clear hv4 ho5 hb4) | (go_at_call 48; refine (HSame.out _ A4 c4 _ HO4.out A5 c5 _ HO5.out).mono ?_; rintro e w5 ⟨rfl, m5, hw5⟩; have hb5 : Below wo.heap.size wo w5 := (by rw [hw5]; exact below_drewN hb4'.out m5); have ho4 : OwnG w5 wo.heap.size 64 5 (.slice A4 M c4) M (vRows l) := (by rw [hw5]; exact HO4.out.below (below_drewN (Below.refl _ _) m5)); clear hw5))
          go_loopw [18] (fun i wi => ∃ (j : Nat) (ys : List Value), i = .int .i64 j ∧ j ≤ M ∧ Hid (OwnG wi wo.heap.size 64 5 (.slice A4 M c4) M ys) ∧ Below wo.heap.size wo wi) (fun i _ => M - (intOf i).toNat)
          case atStart => exact ⟨0, _, rfl, Nat.zero_le _, ho4, hb5⟩
          case round =>
            obtain ⟨j, ys, rfl, hj, hoj, hbj⟩ := hrel
            by_cases hjl : j < M
            · obtain ⟨g4, rfl⟩ : ∃ g4, A4 = some ⟨g4, 0, none⟩ := by
                rcases hoj.out.2 with ⟨e, h0⟩ | ⟨g, cap, cur, e, _⟩
                · omega
                · cases e; exact ⟨g, rfl⟩
              obtain ⟨uu, hcu⟩ := hoj.out.cellEx (j * 5) (by omega)
              have hfu := hoj.out.ice (j * 5)
              have hgg := (hoj.out.block_lt g4 (by simp [Value.ownBlock])).1
              have HO2 := Lib.hid (hoj.out.setAt (j * 5) (.string ⟨#[63]⟩))
              have hbj2 := Lib.hid (hbj.setCell (p := ⟨g4, j * 5, none⟩) hgg (.string ⟨#[63]⟩))
              have q2 : (j : Int) < M := by omega
              clear hoj hbj
              go_wp2
              all_goals exact ⟨⟨j + 1, _, by go_num, by omega, HO2, hbj2.out⟩, by simp [intOf]; omega⟩
            · obtain rfl : j = M := by omega
              have q2 : ¬ (j : Int) < j := by omega
              have HB7 := Lib.hid fun W (h : Below wo.heap.size wo W) => HBw.out.below h
              have HLd := Lib.hid hbj
              clear hoj
              have hb7 := hbj
              go_wp2_with fail
              have hB7 := HB7.out _ (hb7.drew)
              obtain ⟨A8, c8, hbx8, ho8⟩ := hB7.rf.list
              rw [HM.out] at hbx8 ho8
              have hzd := hb7.drew.size
              have HBD := Lib.hid (HBe.out.trans (hb7.drew.mono HBe.out.size))
              have hrl8 := hB7.rf.lt
              first | (go_region_law (first
                | (go_simp; go_at_call 42; refine (HList.out _ hB7).mono ?_; rintro e w8 ⟨v8, rfl, hv8, hb8⟩; obtain ⟨A9, c9, rfl, _, _⟩ := hv8.form; have hbx9 : w8.cell? ⟨r, 0, none⟩ = some (.slice A8 j c8) := (by rw [hb8.cell (p := ⟨r, 0, none⟩) hrl8]; exact hbx8); have ho9 := ho8.below hb8; have HB8 := HBD.out.trans (hb8.mono HBD.out.size))
                | (go_simp; go_at_call 48; refine (HSame.out _ A9 c9 _ hv8 A8 c8 _ ho9).mono ?_; rintro e w9 ⟨rfl, m9, hw9⟩; have HB9 : Below w.heap.size w w9 := (by rw [hw9]; exact below_drewN HB8 m9); clear hw9)
                | fail)) | fail
              all_goals
                go_wp2
                go_ret
                exact ⟨rfl, HB9⟩
        · obtain ⟨p2, m2, l2, A2, n2, c2, rfl, rfl, hT1, hT2, hT3, hT4, hA1, hA2, hA3⟩ := hT.out
          have HT1 := Lib.hid hT1
          have HT2 := Lib.hid hT2
          have HT3 := Lib.hid hT3
          have HT4 := Lib.hid hT4
          have HA1 := Lib.hid hA1
          have HA2 := Lib.hid hA2
          have HA3 := Lib.hid hA3
          have HN2 : Hid (n2 ≤ 100000) := by have := hT1.len; unfold Hid; omega
          clear hT1 hT2 hT3 hT4 hA1 hA2 hA3 hT
          go_wp2_with (first | (go_at_call 42; refine (HList.out _ HBw.out).mono ?_; rintro e w4 ⟨v, rfl, hv4, hb4⟩; obtain ⟨A4, c4, rfl, _, _⟩ := hv4.form; have hB4 := HBw.out.below hb4; obtain ⟨A5, c5, hbx5, ho5⟩ := hB4.rf.list; rw [HM.out] at hbx5 ho5; have HO4 := Lib.hid hv4; have HO5 := Lib.hid ho5; have hb4' := Lib.hid hb4; have hrlt := hB4.rf.lt; clear hv4 ho5 hb4) | (go_at_call 48; refine (HSame.out _ A4 c4 _ HO4.out A5 c5 _ HO5.out).mono ?_; rintro e w5 ⟨rfl, m5, hw5⟩; have hb5 : Below wo.heap.size wo w5 := (by rw [hw5]; exact below_drewN hb4'.out m5); have ho4 : OwnG w5 wo.heap.size 64 5 (.slice A4 M c4) M (vRows l) := (by rw [hw5]; exact HO4.out.below (below_drewN (Below.refl _ _) m5)); clear hw5))
          go_loopw [18] (fun i wi => ∃ (j : Nat) (ys : List Value), i = .int .i64 j ∧ j ≤ M ∧ Hid (OwnG wi wo.heap.size 64 5 (.slice A4 M c4) M ys) ∧ Below wo.heap.size wo wi) (fun i _ => M - (intOf i).toNat)
          case atStart => exact ⟨0, _, rfl, Nat.zero_le _, ho4, hb5⟩
          case round =>
            obtain ⟨j, ys, rfl, hj, hoj, hbj⟩ := hrel
            by_cases hjl : j < M
            · obtain ⟨g4, rfl⟩ : ∃ g4, A4 = some ⟨g4, 0, none⟩ := by
                rcases hoj.out.2 with ⟨e, h0⟩ | ⟨g, cap, cur, e, _⟩
                · omega
                · cases e; exact ⟨g, rfl⟩
              obtain ⟨uu, hcu⟩ := hoj.out.cellEx (j * 5) (by omega)
              have hfu := hoj.out.ice (j * 5)
              have hgg := (hoj.out.block_lt g4 (by simp [Value.ownBlock])).1
              have HO2 := Lib.hid (hoj.out.setAt (j * 5) (.string ⟨#[63]⟩))
              have hbj2 := Lib.hid (hbj.setCell (p := ⟨g4, j * 5, none⟩) hgg (.string ⟨#[63]⟩))
              have q2 : (j : Int) < M := by omega
              clear hoj hbj
              go_wp2
              all_goals exact ⟨⟨j + 1, _, by go_num, by omega, HO2, hbj2.out⟩, by simp [intOf]; omega⟩
            · obtain rfl : j = M := by omega
              have q2 : ¬ (j : Int) < j := by omega
              have HB7 := Lib.hid fun W (h : Below wo.heap.size wo W) => HBw.out.below h
              have HLd := Lib.hid hbj
              have hS2 := HT1.out.move (hbj.block p2 HA1.out.1) (hbj.block m2 HA2.out.1)
              have hW2 := HT4.out.move fun kk hkk => hbj.block kk (HA3.out kk hkk).1
              have HLi2 := Lib.hid (List_any _ p2 m2 l2 hS2 HT2.out)
              rw [HT3.out] at HLi2
              have HW2 := Lib.hid hW2
              clear hS2 hW2 hoj
              go_wp2_with (first | (go_at_call 42; refine HLi2.out.mono ?_; rintro e w6 ⟨v6, rfl, hv6, hb6⟩; obtain ⟨A6, c6, rfl, _, _⟩ := hv6.form; have HS2 := Lib.hid (SameVars_any w6 _ _ n2 c6 c2 A6 A2 l2 hv6 (HW2.out.below hb6) HN2.out); have hb6' := hbj.trans (hb6.mono hbj.size); clear hv6 hb6) | (go_at_call 48; refine HS2.out.mono ?_; rintro e w7 ⟨rfl, m7, hw7⟩; have hb7 : Below wo.heap.size wo w7 := (by rw [hw7]; exact below_drewN hb6' m7); clear hw7) | fail)
              have hB7 := HB7.out _ (hb7.drew)
              obtain ⟨A8, c8, hbx8, ho8⟩ := hB7.rf.list
              rw [HM.out] at hbx8 ho8
              have hzd := hb7.drew.size
              have HBD := Lib.hid (HBe.out.trans (hb7.drew.mono HBe.out.size))
              have hrl8 := hB7.rf.lt
              first | (go_region_law (first
                | (go_simp; go_at_call 42; refine (HList.out _ hB7).mono ?_; rintro e w8 ⟨v8, rfl, hv8, hb8⟩; obtain ⟨A9, c9, rfl, _, _⟩ := hv8.form; have hbx9 : w8.cell? ⟨r, 0, none⟩ = some (.slice A8 j c8) := (by rw [hb8.cell (p := ⟨r, 0, none⟩) hrl8]; exact hbx8); have ho9 := ho8.below hb8; have HB8 := HBD.out.trans (hb8.mono HBD.out.size))
                | (go_simp; go_at_call 48; refine (HSame.out _ A9 c9 _ hv8 A8 c8 _ ho9).mono ?_; rintro e w9 ⟨rfl, m9, hw9⟩; have HB9 : Below w.heap.size w w9 := (by rw [hw9]; exact below_drewN HB8 m9); clear hw9)
                | fail)) | fail
              all_goals
                go_wp2
                go_ret
                exact ⟨rfl, HB9⟩
  · go_wp2
    go_ret
    exact ⟨rfl, HB2⟩
end Go.Proofs.Ytndoloohdloflab
