/- RefsParses: the parts of every text, or that it has none; two answers in hand are two. -/
import Derived.Test.YtndoloohdloflaaRefsK
namespace Go.Proofs.Ytndoloohdloflaa
open Go.RowKit

/-- where a list is written over: below base, and beside the list's own block, all is as it was; the own block is a row of texts of the same size -/
theorem Wipe2_any (w : World) (base n : Nat) (v : Value) (xs : List Value) (h : OwnG w base 9 1 v n xs) :
    Calls Try.prog 51 #[v] w fun e w' => e = .returned (.tuple #[]) ∧ Below base w w' ∧ (∀ k, v.ownBlock ≠ some k → w'.heap[k]? = w.heap[k]?) ∧
      (∀ g cur, v.ownBlock = some g → w.heap[g]? = some (.cells cur 9 (0, 0)) → ∃ cs, cs.size = cur.size ∧ w'.heap[g]? = some (.cells cs 9 (0, 0))) := by
  rcases h.2 with ⟨rfl, rfl⟩ | ⟨g, cap, cur, rfl, hg, hb, hnc, hcm, hcs, _⟩
  · go_enter Try.func51, Try.ntmps51
    go_wp2
    go_loopw [2] (fun i wi => i = .int .i64 0 ∧ wi = w) (fun i _ => 0)
    case atStart => exact ⟨rfl, rfl⟩
    case round =>
      obtain ⟨rfl, rfl⟩ := hrel
      go_wp2
      go_end0
      exact ⟨rfl, Below.refl _ _, fun k _ => rfl, fun g cur h _ => by simp [Value.ownBlock] at h⟩
  · unfold maxLen at hcm
    go_enter Try.func51, Try.ntmps51
    go_wp2
    go_loopw [2] (fun i wi => ∃ (k : Nat) (cs : Array Value), i = .int .i64 k ∧ k ≤ n ∧ cs.size = cur.size ∧ wi.heap[g]? = some (.cells cs 9 (0, 0)) ∧ Below base w wi ∧ Hid (∀ k, k ≠ g → wi.heap[k]? = w.heap[k]?)) (fun i _ => n - (intOf i).toNat)
    case atStart => exact ⟨0, cur, rfl, Nat.zero_le _, rfl, hb, Below.refl _ w, Lib.hid (fun _ _ => rfl)⟩
    case round =>
      obtain ⟨k, cs, rfl, hk, hcz, hbk, hbel, hoth⟩ := hrel
      by_cases hlt : k < n
      · have q1 : (k : Int) < n := by omega
        have hlg : g < wr.heap.size := (Array.getElem?_eq_some_iff.1 hbk).1
        have hkc : k < cs.size := by omega
        have hc : wr.cell? ⟨g, k, none⟩ = some cs[k] := by simp [World.cell?, hbk, hkc]
        have hf : wr.frozen? ⟨g, k, none⟩ = false := frozen_of_row wr _ _ _ _ hbk
        have hb2 := Lib.hid (heap_setCell_same wr g k cs 9 (.string ⟨#[63]⟩) hbk)
        have hbl := Lib.hid (hbel.setCell (p := ⟨g, k, none⟩) hg (.string ⟨#[63]⟩))
        have HO : Hid (∀ j, j ≠ g → (wr.setCell ⟨g, k, none⟩ (.string ⟨#[63]⟩)).heap[j]? = w.heap[j]?) := fun j hj => (Below.heap_setCell _ _ _ _ hj).trans (hoth.out j hj)
        clear hoth
        generalize cs[k] = old at hc
        go_wp2
        exact ⟨⟨k + 1, _, by go_num, by omega, by rw [Array.size_setIfInBounds]; exact hcz, hb2.out, hbl.out, HO⟩, by simp [intOf]; omega⟩
      · go_wp2
        go_end0
        refine ⟨rfl, hbel, fun j hj => hoth.out j (fun e => hj (by simp [Value.ownBlock, e])), fun g2 cur2 h1 h2 => ?_⟩
        simp [Value.ownBlock] at h1
        subst h1
        rw [hb] at h2; cases h2
        exact ⟨cs, hcz, hbk⟩

/-- v is a slice of n texts, in a block from base on, or nothing -/
def Lives (W : World) (base : Nat) (v : Value) : Prop := ∃ n xs, OwnG W base 9 1 v n xs
theorem lives_same {W W' : World} {base : Nat} {v u : Value} (h : Lives W base u) (h1 : ∀ k, v.ownBlock ≠ some k → W'.heap[k]? = W.heap[k]?)
    (h2 : ∀ g cur, v.ownBlock = some g → W.heap[g]? = some (.cells cur 9 (0, 0)) → ∃ cs : Array Value, cs.size = cur.size ∧ W'.heap[g]? = some (.cells cs 9 (0, 0))) : Lives W' base u := by
  obtain ⟨n, xs, h⟩ := h
  rcases h.2 with ⟨rfl, rfl⟩ | ⟨g, cap, cur, rfl, hg, hb, hnc, hcm, hcs, ht⟩
  · exact ⟨0, [], OwnG.nil _ _ _ _⟩
  · by_cases e : v.ownBlock = some g
    · obtain ⟨cs, hz, hc⟩ := h2 g cur e hb
      exact ⟨n, cs.toList.take (n * 1), by simp; omega, .inr ⟨g, cap, cs, rfl, hg, hc, hnc, hcm, by omega, rfl⟩⟩
    · exact ⟨n, xs, h.1, .inr ⟨g, cap, cur, rfl, hg, (h1 g e).trans hb, hnc, hcm, hcs, ht⟩⟩
theorem lives_other {W W' : World} {base b : Nat} {u : Value} {c : Array Value} {fz : Nat × Nat} (h : Lives W base u) (h1 : ∀ k, k ≠ b → W'.heap[k]? = W.heap[k]?) (hb : W.heap[b]? = some (.cells c 44 fz)) : Lives W' base u := by
  obtain ⟨n, xs, h⟩ := h
  refine ⟨n, xs, h.move fun k hk => h1 k ?_⟩
  rintro rfl
  obtain ⟨c2, fz2, hc⟩ := h.typed k hk
  rw [hb] at hc; cases hc
theorem ParseRes.flat {w W' : World} {R : Option (List (Int × ByteArray × ByteArray × List ByteArray))} {e : Ending} (h : ParseRes w R e W') :
    Below w.heap.size w W' ∧ ∃ A n c l ec, e = .returned (.tuple #[.slice A n c, .int .i64 ec]) ∧ l.map (·.1) = R.getD [] ∧ OwnG W' w.heap.size 44 4 (.slice A n c) n (pRows l) ∧ ArgsIn W' w.heap.size l ∧ ((R.isSome = true ∧ ec = 0) ∨ (R.isSome = false ∧ ec = 40)) := by
  obtain ⟨hb, h⟩ := h
  refine ⟨hb, ?_⟩
  cases R with
  | none => exact ⟨none, 0, 0, [], 40, h, rfl, OwnG.nil _ _ _ _, fun x hx => (by cases hx), .inr ⟨rfl, rfl⟩⟩
  | some ps =>
    obtain ⟨v, l, rfl, hm, hv, ha⟩ := h
    obtain ⟨A, c, rfl, _, _⟩ := hv.form
    exact ⟨A, l.length, c, l, 0, rfl, hm, hv, ha, .inl ⟨rfl, rfl⟩⟩
theorem PartsRes.flat {w W' : World} {R : Option (List (Int × ByteArray × ByteArray × List ByteArray))} {e : Ending} (h : PartsRes w R e W') :
    Below w.heap.size w W' ∧ ∃ A n c l, e = .returned (.tuple #[.slice A n c, .bool R.isSome]) ∧ l.map (·.1) = R.getD [] ∧ OwnG W' w.heap.size 44 4 (.slice A n c) n (pRows l) ∧ ArgsIn W' w.heap.size l := by
  obtain ⟨hb, h⟩ := h
  refine ⟨hb, ?_⟩
  cases R with
  | none => exact ⟨none, 0, 0, [], h, rfl, OwnG.nil _ _ _ _, fun x hx => (by cases hx)⟩
  | some ps =>
    obtain ⟨v, l, rfl, hm, hv, ha⟩ := h
    obtain ⟨A, c, rfl, _, _⟩ := hv.form
    exact ⟨A, l.length, c, l, rfl, hm, hv, ha⟩

/-- what is left of the second list while it is wiped: from place k on its rows hold what they held, and the arguments' lists are there -/
def RowB (N : Nat) (B : Option Addr) (m : Nat) (lb : List ((Int × ByteArray × ByteArray × List ByteArray) × Value)) (k : Nat) (wi : World) : Prop :=
  0 < m → ∃ gb cs, B = some ⟨gb, 0, none⟩ ∧ N ≤ gb ∧ wi.heap[gb]? = some (.cells cs 44 (0, 0)) ∧ m * 4 ≤ cs.size ∧ ∀ j q, lb[j]? = some q → k ≤ j → cs[j * 4 + 3]? = some q.2 ∧ Lives wi N q.2
theorem RowB.start {W : World} {N m cb : Nat} {B : Option Addr} {lb : List ((Int × ByteArray × ByteArray × List ByteArray) × Value)} (h : OwnG W N 44 4 (.slice B m cb) m (pRows lb)) (ha : ArgsIn W N lb) : RowB N B m lb 0 W := by
  intro hm
  rcases h.2 with ⟨h0, h1⟩ | ⟨g, cap, cur, e, hg, hb, hnc, hcm, hcs, ht⟩
  · omega
  · cases e
    refine ⟨g, cur, rfl, hg, hb, Nat.le_trans (Nat.mul_le_mul_right _ hnc) hcs, fun j q hq _ => ⟨?_, ⟨_, _, ha q (List.mem_of_getElem? hq)⟩⟩⟩
    have h1 := (prow_at lb j q hq).2.2.2
    rw [← ht, List.getElem?_take] at h1
    split at h1
    · simpa using h1
    · cases h1

theorem RowB.next {N m k gb : Nat} {lb : List ((Int × ByteArray × ByteArray × List ByteArray) × Value)} {cs : Array Value} {wr w4 : World} {u : Value} (hgb : N ≤ gb) (hbk : wr.heap[gb]? = some (.cells cs 44 (0, 0))) (hcz : m * 4 ≤ cs.size)
    (hat : ∀ j q, lb[j]? = some q → k ≤ j → cs[j * 4 + 3]? = some q.2 ∧ Lives wr N q.2) (h1 : ∀ j, u.ownBlock ≠ some j → w4.heap[j]? = wr.heap[j]?)
    (h2 : ∀ g cur, u.ownBlock = some g → wr.heap[g]? = some (.cells cur 9 (0, 0)) → ∃ cs : Array Value, cs.size = cur.size ∧ w4.heap[g]? = some (.cells cs 9 (0, 0))) (hne : u.ownBlock ≠ some gb) (v0 v1 v2 v3 : Value) :
    RowB N (some ⟨gb, 0, none⟩) m lb (k + 1) ((((w4.setCell ⟨gb, k * 4, none⟩ v0).setCell ⟨gb, k * 4 + 1, none⟩ v1).setCell ⟨gb, k * 4 + 2, none⟩ v2).setCell ⟨gb, k * 4 + 3, none⟩ v3) := by
  intro _
  have b4 := (h1 gb hne).trans hbk
  have b5 := heap_setCell_same w4 gb (k * 4) cs 44 v0 b4
  have b6 := heap_setCell_same _ gb (k * 4 + 1) _ 44 v1 b5
  have b7 := heap_setCell_same _ gb (k * 4 + 2) _ 44 v2 b6
  have b8 := heap_setCell_same _ gb (k * 4 + 3) _ 44 v3 b7
  refine ⟨gb, _, rfl, hgb, b8, by simpa using hcz, fun j q hq hj => ?_⟩
  obtain ⟨c1, c2⟩ := hat j q hq (by omega)
  refine ⟨?_, ?_⟩
  · rw [Array.getElem?_setIfInBounds_ne (by omega), Array.getElem?_setIfInBounds_ne (by omega), Array.getElem?_setIfInBounds_ne (by omega), Array.getElem?_setIfInBounds_ne (by omega)]
    exact c1
  · refine lives_other (lives_same c2 h1 h2) (fun j hj => ?_) b4
    rw [Below.heap_setCell _ _ _ _ hj, Below.heap_setCell _ _ _ _ hj, Below.heap_setCell _ _ _ _ hj, Below.heap_setCell _ _ _ _ hj]

set_option maxRecDepth 100000 in
set_option maxHeartbeats 2000000 in
theorem RefsParses_walk (s o : ByteArray) (w : World) (hs : s.size ≤ 140737488351232) (ho : o.size ≤ 140737488351232) :
    Calls Try.prog 10 #[.string s, .string o] w fun e w' => e = .returned (.bool true) ∧ Below w.heap.size w w' := by
  have HL := Lib.hid (refsAlive w)
  by_cases h1 : (20000 : Int) < s.size
  · go_enter Try.func10, Try.ntmps10
    go_wp2_with (go_at_call 49; refine HL.out.mono ?_; rintro e w1 ⟨rfl, HB⟩)
    go_ret
    exact ⟨rfl, HB⟩
  by_cases h2 : (20000 : Int) < o.size
  · go_enter Try.func10, Try.ntmps10
    go_wp2_with (go_at_call 49; refine HL.out.mono ?_; rintro e w1 ⟨rfl, HB⟩)
    go_ret
    exact ⟨rfl, HB⟩
  have E1 := Lib.hid fun w => Parse_any s w (by omega)
  have E2 := Lib.hid fun w => Parse_any o w (by omega)
  have E3 := Lib.hid fun w => Parts_any s w (by omega)
  have HN := Lib.hid fun x w => numR_any x w
  obtain ⟨R, hR⟩ : ∃ R, partsI s = R := ⟨_, rfl⟩
  rw [hR] at E1 E3
  clear hR
  go_enter Try.func10, Try.ntmps10
  go_wp2_with fail
  refine HL.out.mono ?_
  rintro e w1 ⟨rfl, hb1⟩
  go_wp2_with fail
  refine (E1.out w1).mono ?_
  intro e w2 hr2
  obtain ⟨hb2, A, n, ca, la, ec, rfl, hma, hva, haa, hec⟩ := hr2.flat
  clear hr2
  go_wp2_with fail
  refine (E2.out w2).mono ?_
  intro e w3 hr3
  obtain ⟨hb3, B, m, cb, lb, eb, rfl, hmb, hvb, hab, -⟩ := hr3.flat
  clear hr3 hmb
  have HW := Lib.hid fun (w0 : World) (N n : Nat) (v : Value) (xs : List Value) (h : OwnG w0 N 9 1 v n xs) => Wipe2_any w0 N n v xs h
  obtain ⟨N, hN⟩ : ∃ N, w2.heap.size = N := ⟨_, rfl⟩
  rw [hN] at hvb hab hb3
  have HN2 := Lib.hid hN
  have hlb := rows_len hvb
  have HB0 := Lib.hid (RowB.start hvb hab)
  have hmm : m ≤ 9223372036854775807 := by
    obtain ⟨A', c', e, h3, h4⟩ := hvb.form; unfold maxLen at h4; omega
  clear hN hvb hab
  have HLB := Lib.hid hlb
  clear hlb
  go_wp2_with fail
  go_loopw [10] (fun i wi => ∃ k : Nat, i = .int .i64 k ∧ k ≤ m ∧ Below N w2 wi ∧ Hid (RowB N B m lb k wi)) (fun i _ => m - (intOf i).toNat)
  case atStart => exact ⟨0, rfl, Nat.zero_le _, hb3, HB0⟩
  case round =>
    obtain ⟨k, rfl, hk, hbel, hrow⟩ := hrel
    by_cases hlt : k < m
    · obtain ⟨gb, cs, rfl, hgb, hbk, hcz, hat⟩ := hrow.out (by omega)
      obtain ⟨q, hq⟩ : ∃ q, lb[k]? = some q := ⟨_, List.getElem?_eq_getElem (by rw [← HLB.out]; exact hlt)⟩
      obtain ⟨hc3, n, xs, hl3⟩ := hat k q hq (Nat.le_refl k)
      have HAT := Lib.hid hat
      have q1 : (k : Int) < m := by omega
      have hcl : wr.cell? ⟨gb, k * 4 + 3, none⟩ = some q.2 := by simp only [World.cell?, hbk]; simpa using hc3
      have HC := Lib.hid (HW.out wr N n q.2 xs hl3)
      obtain ⟨u, hu⟩ : ∃ u, q.2 = u := ⟨_, rfl⟩
      rw [hu] at hcl HC
      have HNE : Hid (u.ownBlock ≠ some gb) := by
        intro e
        rw [← hu] at e
        obtain ⟨c, fz, h⟩ := hl3.typed gb e
        rw [hbk] at h; cases h
      have HBK := Lib.hid hbk
      have e0 : k * 4 < cs.size := by omega
      have e1 : k * 4 + 1 < cs.size := by omega
      have e2 : k * 4 + 2 < cs.size := by omega
      have e3 : k * 4 + 3 < cs.size := by omega
      obtain ⟨x0, y0⟩ : ∃ x, cs[k * 4]? = some x := ⟨_, Array.getElem?_eq_getElem e0⟩
      obtain ⟨x1, y1⟩ : ∃ x, cs[k * 4 + 1]? = some x := ⟨_, Array.getElem?_eq_getElem e1⟩
      obtain ⟨x2, y2⟩ : ∃ x, cs[k * 4 + 2]? = some x := ⟨_, Array.getElem?_eq_getElem e2⟩
      obtain ⟨x3, y3⟩ : ∃ x, cs[k * 4 + 3]? = some x := ⟨_, Array.getElem?_eq_getElem e3⟩
      clear hat hc3 hrow hl3
      go_wp2_with (go_at_call 51; refine HC.out.mono ?_; rintro e w4 ⟨rfl, hb4, ho4, hs4⟩; have b4 := (ho4 gb HNE.out).trans HBK.out; have c0 : w4.cell? ⟨gb, k * 4, none⟩ = some x0 := (by simpa [World.cell?, b4] using y0); have c1 : w4.cell? ⟨gb, k * 4 + 1, none⟩ = some x1 := (by simpa [World.cell?, b4] using y1); have c2 : w4.cell? ⟨gb, k * 4 + 2, none⟩ = some x2 := (by simpa [World.cell?, b4] using y2); have c3 : w4.cell? ⟨gb, k * 4 + 3, none⟩ = some x3 := (by simpa [World.cell?, b4] using y3); have f0 := frozen_of_row w4 gb (k * 4) _ _ b4; have f1 := frozen_of_row w4 gb (k * 4 + 1) _ _ b4; have f2 := frozen_of_row w4 gb (k * 4 + 2) _ _ b4; have f3 := frozen_of_row w4 gb (k * 4 + 3) _ _ b4; have HNX := Lib.hid (RowB.next hgb HBK.out hcz HAT.out ho4 hs4 HNE.out (.int .i64 (-1)) (.string ⟨#[]⟩) (.string ⟨#[]⟩) (.slice none 0 0)); have HB8 := Lib.hid (((((hbel.trans hb4).setCell (p := ⟨gb, k * 4, none⟩) hgb (.int .i64 (-1))).setCell (p := ⟨gb, k * 4 + 1, none⟩) hgb (.string ⟨#[]⟩)).setCell (p := ⟨gb, k * 4 + 2, none⟩) hgb (.string ⟨#[]⟩)).setCell (p := ⟨gb, k * 4 + 3, none⟩) hgb (.slice none 0 0)); clear ho4 hs4 b4 hb4)
      all_goals exact ⟨⟨k + 1, by go_num, by omega, HB8.out, HNX⟩, by simp [intOf]; omega⟩
    · have q1 : ¬ (k : Int) < m := by omega
      have hbel2 : Below w2.heap.size w2 wr := by rw [HN2.out]; exact hbel
      have hva2 := hva.below hbel2
      have haa2 : ArgsIn wr w1.heap.size la := fun x hx => (haa x hx).below hbel2
      have hbw : Below w.heap.size w wr := (hb1.trans (hb2.mono hb1.size)).trans (hbel2.mono (Nat.le_trans hb1.size hb2.size))
      have HVA := Lib.hid hva2
      have HAA := Lib.hid haa2
      have HBW := Lib.hid hbw
      have HMA := Lib.hid hma
      have hnl := Lib.hid (rows_len hva2)
      clear hrow HB0 hbel hbel2 hva haa hva2 haa2 hb3 hbw hma
      have HSAME := Lib.hid fun (w5 : World) (C : Option Addr) (n' cc : Nat) (lc : List ((Int × ByteArray × ByteArray × List ByteArray) × Value)) (hb5 : Below wr.heap.size wr w5) (hmc : lc.map (·.1) = R.getD []) (hvc : OwnG w5 wr.heap.size 44 4 (.slice C n' cc) n' (pRows lc)) (hac : ArgsIn w5 wr.heap.size lc) =>
        (show Calls Try.prog 54 #[.slice A n ca, .slice C n' cc] w5 fun e w' => e = .returned (.bool true) ∧ Below w5.heap.size w5 w' by
          have h2 := rows_len hvc
          have h3 : n' = n := by rw [h2, hnl.out, ← List.length_map (f := (·.1)), hmc, ← HMA.out, List.length_map]
          subst h3
          exact same_any w5 w1.heap.size wr.heap.size n' ca cc A C la lc (HVA.out.below hb5) hvc (fun x hx => (HAA.out x hx).below hb5) hac (HMA.out.trans hmc.symm))
      rcases hec with ⟨hr, rfl⟩ | ⟨hr, rfl⟩
      all_goals
        go_wp2_with (first | (go_at_call 52; refine (E3.out _).mono ?_; intro e w5 h5; obtain ⟨hb5, C, n', cc, lc, he, hmc, hvc, hac⟩ := h5.flat; clear h5; rw [hr] at he; subst he; have HS5 := Lib.hid (HSAME.out w5 C n' cc lc hb5 hmc hvc hac); have HB5 := Lib.hid (HBW.out.trans (hb5.mono HBW.out.size)); clear hb5 hmc hvc hac) | (go_at_call 53; refine (HN.out _ _).mono ?_; rintro e w' ⟨rfl, hw'⟩; obtain rfl := hw'.symm) | (go_at_call 54; refine HS5.out.mono ?_; rintro e w7 ⟨rfl, hb7⟩))
        go_ret
        exact ⟨rfl, HB5.out.trans (hb7.mono HB5.out.size)⟩
end Go.Proofs.Ytndoloohdloflaa
