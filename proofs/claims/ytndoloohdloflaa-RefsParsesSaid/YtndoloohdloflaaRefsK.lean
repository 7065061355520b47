/- Two lists of parts compared, as the law of package refs does it; no condition. -/
import Derived.Test.YtndoloohdloflaaRefsJ
import Derived.Test.YtndoloohdloflaaRefsG
namespace Go.Proofs.Ytndoloohdloflaa
open Go.RowKit

set_option maxRecDepth 100000 in
set_option maxHeartbeats 1000000 in
theorem SameQ_any (w : World) (A B : Option Addr) (ca cb : Nat) (xs ys : List ByteArray) (ha : StrsAt w A xs) (hb : StrsAt w B ys) (hx : xs.length ≤ 9223372036854775807) :
    Calls Try.prog 29 #[.slice A xs.length ca, .slice B ys.length cb] w fun e w' => e = .returned (.bool (sameL xs ys)) ∧ ∃ m, w' = w.drewN m := by
  by_cases hl : xs.length = ys.length
  · obtain ⟨N, hN⟩ : ∃ N, xs.length = N := ⟨_, rfl⟩
    have hN2 : ys.length = N := by omega
    rw [hN, hN2]
    rw [hN] at hx
    have HN := Lib.hid hN
    have HN2 := Lib.hid hN2
    clear hl hN hN2
    obtain ⟨R, hR⟩ : ∃ R, sameL xs ys = R := ⟨_, rfl⟩
    rw [hR]
    have HR := Lib.hid hR
    clear hR
    go_enter Try.func29, Try.ntmps29
    go_wp2
    go_loopw [5] (fun i wi => ∃ k : Nat, i = .int .i64 k ∧ k ≤ N ∧ Hid (sameL (xs.drop k) (ys.drop k) = R) ∧ Hid (∃ m, wi = w.drewN m)) (fun i _ => N - (intOf i).toNat)
    case atStart => exact ⟨0, rfl, Nat.zero_le _, HR, ⟨0, rfl⟩⟩
    case round =>
      obtain ⟨k, rfl, hk, hrel, hdr⟩ := hrel
      have hbel : Below w.heap.size w wr := by obtain ⟨m, hm⟩ := hdr.out; rw [hm]; exact below_drewN (Below.refl _ w) m
      have hdq : Hid (∀ q, ∃ m, wr.drewN q = w.drewN m) := fun q => by obtain ⟨m, hm⟩ := hdr.out; exact ⟨m + q, by rw [hm, World.drewN_drewN]⟩
      by_cases hltN : k < N
      · have hlt : k < xs.length := by have := HN.out; omega
        have hlt2 : k < ys.length := by have := HN2.out; omega
        obtain ⟨x, hx1⟩ : ∃ x, xs[k]? = some x := ⟨_, List.getElem?_eq_getElem hlt⟩
        obtain ⟨y, hy1⟩ : ∃ y, ys[k]? = some y := ⟨_, List.getElem?_eq_getElem hlt2⟩
        obtain ⟨b, o, rfl, hcx⟩ := ha k x hx1
        obtain ⟨b2, o2, rfl, hcy⟩ := hb k y hy1
        have hbx := World.block_lt_of_cell? _ _ hcx
        have hby := World.block_lt_of_cell? _ _ hcy
        have dx : xs.drop k = x :: xs.drop (k + 1) := by rw [List.drop_eq_getElem_cons hlt]; congr 1; rw [List.getElem?_eq_getElem hlt] at hx1; exact Option.some.inj hx1
        have dy : ys.drop k = y :: ys.drop (k + 1) := by rw [List.drop_eq_getElem_cons hlt2]; congr 1; rw [List.getElem?_eq_getElem hlt2] at hy1; exact Option.some.inj hy1
        have hd : ((x.toList == y.toList) && sameL (xs.drop (k + 1)) (ys.drop (k + 1))) = R := by have := hrel.out; rw [dx, dy] at this; exact this
        have kx : wr.cell? ⟨b, o + k, none⟩ = some (.string x) := by rw [hbel.cell (p := ⟨b, o + k, none⟩) hbx]; exact hcx
        have ky : wr.cell? ⟨b2, o2 + k, none⟩ = some (.string y) := by rw [hbel.cell (p := ⟨b2, o2 + k, none⟩) hby]; exact hcy
        have q1 : ((k : Int) < N) := by omega
        clear hlt hlt2 dx dy hx1 hy1 hcx hcy
        cases hq : (x.toList == y.toList)
        · rw [hq] at hd
          obtain rfl : R = false := hd.symm
          clear hd hrel
          go_wp2
          go_quiet (fail)
          go_wp2
          go_ret
          exact ⟨rfl, hdq.out _⟩
        · rw [hq] at hd
          have HD : Hid (sameL (xs.drop (k + 1)) (ys.drop (k + 1)) = R) := by simpa [Hid] using hd
          clear hd hrel
          go_wp2
          go_quiet (fail)
          go_wp2
          exact ⟨⟨k + 1, by go_num, by omega, HD, hdq.out _⟩, by simp [intOf]; omega⟩
      · have e : R = true := by
          have := hrel.out
          rw [List.drop_eq_nil_of_le (by have := HN.out; omega), List.drop_eq_nil_of_le (by have := HN2.out; omega)] at this
          exact this.symm
        subst e
        go_wp2
        go_ret
        exact ⟨rfl, hdr.out⟩
  · have hle : ((xs.length : Int) == ys.length) = false := by simp; omega
    rw [sameL_len _ _ hl]
    go_enter Try.func29, Try.ntmps29
    go_wp2
    go_ret
    exact ⟨rfl, 0, rfl⟩


theorem prow_at : ∀ (l : List ((Int × ByteArray × ByteArray × List ByteArray) × Value)) (k : Nat) (q : (Int × ByteArray × ByteArray × List ByteArray) × Value), l[k]? = some q →
    (pRows l)[k * 4]? = some (.int .i64 q.1.1) ∧ (pRows l)[k * 4 + 1]? = some (.string q.1.2.1) ∧ (pRows l)[k * 4 + 2]? = some (.string q.1.2.2.1) ∧ (pRows l)[k * 4 + 3]? = some q.2
  | [], k, q, h => by simp at h
  | p :: l, 0, q, h => by
    simp at h; subst h
    exact ⟨rfl, rfl, rfl, rfl⟩
  | p :: l, k + 1, q, h => by
    have ih := prow_at l k q (by simpa using h)
    have e : ∀ j, (pRows (p :: l))[(k + 1) * 4 + j]? = (pRows l)[k * 4 + j]? := fun j => by
      show (pRow p.1 p.2 ++ pRows l)[(k + 1) * 4 + j]? = _
      rw [List.getElem?_append_right (by simp [pRow]; omega)]
      congr 1
      simp [pRow]; omega
    exact ⟨by rw [← Nat.add_zero ((k + 1) * 4), e]; exact ih.1, by rw [e]; exact ih.2.1, by rw [e]; exact ih.2.2.1, by rw [e]; exact ih.2.2.2⟩

set_option maxRecDepth 100000 in
set_option maxHeartbeats 2000000 in
theorem same_any (w : World) (b1 b2 n ca cb : Nat) (A B : Option Addr) (la lb : List ((Int × ByteArray × ByteArray × List ByteArray) × Value)) (h1 : OwnG w b1 44 4 (.slice A n ca) n (pRows la)) (h2 : OwnG w b2 44 4 (.slice B n cb) n (pRows lb)) (g1 : ArgsIn w b1 la) (g2 : ArgsIn w b2 lb)
    (he : la.map (·.1) = lb.map (·.1)) :
    Calls Try.prog 54 #[.slice A n ca, .slice B n cb] w fun e w' => e = .returned (.bool true) ∧ Below w.heap.size w w' := by
  have hn : n ≤ 9223372036854775807 := by obtain ⟨A', c', e, h3, h4⟩ := h1.form; unfold maxLen at h4; omega
  have hl1 := rows_len h1
  have hl2 := rows_len h2
  go_enter Try.func54, Try.ntmps54
  go_wp2
  go_loopw [5] (fun i wi => ∃ k : Nat, i = .int .i64 k ∧ k ≤ n ∧ Hid (∃ m, wi = w.drewN m)) (fun i _ => n - (intOf i).toNat)
  case atStart => exact ⟨0, rfl, Nat.zero_le _, 0, rfl⟩
  case round =>
    obtain ⟨k, rfl, hk, hdr⟩ := hrel
    have hbel : Below w.heap.size w wr := by obtain ⟨m, hm⟩ := hdr.out; rw [hm]; exact below_drewN (Below.refl _ w) m
    have hdq : Hid (∀ q, ∃ m, wr.drewN q = w.drewN m) := fun q => by obtain ⟨m, hm⟩ := hdr.out; exact ⟨m + q, by rw [hm, World.drewN_drewN]⟩
    by_cases hlt : k < n
    · have q1 : (k : Int) < n := by omega
      obtain ⟨p, hp⟩ : ∃ p, la[k]? = some p := ⟨_, List.getElem?_eq_getElem (by omega)⟩
      obtain ⟨q, hq⟩ : ∃ q, lb[k]? = some q := ⟨_, List.getElem?_eq_getElem (by omega)⟩
      have hpq : p.1 = q.1 := by
        have := congrArg (fun l => l[k]?) he
        simpa [hp, hq] using this
      have h1r := h1.below hbel
      have h2r := h2.below hbel
      rcases h1r.2 with ⟨_, h0⟩ | ⟨ga, capa, cura, h, _⟩
      · omega
      cases h
      rcases h2r.2 with ⟨_, h0⟩ | ⟨gb, capb, curb, h, _⟩
      · omega
      cases h
      have pa := prow_at la k p hp
      have pb := prow_at lb k q hq
      have a0 : wr.cell? ⟨ga, k * 4, none⟩ = _ := h1r.cells _ _ pa.1
      have a1 : wr.cell? ⟨ga, k * 4 + 1, none⟩ = _ := h1r.cells _ _ pa.2.1
      have a2 : wr.cell? ⟨ga, k * 4 + 2, none⟩ = _ := h1r.cells _ _ pa.2.2.1
      have a3 : wr.cell? ⟨ga, k * 4 + 3, none⟩ = _ := h1r.cells _ _ pa.2.2.2
      have c0 : wr.cell? ⟨gb, k * 4, none⟩ = _ := h2r.cells _ _ pb.1
      have c1 : wr.cell? ⟨gb, k * 4 + 1, none⟩ = _ := h2r.cells _ _ pb.2.1
      have c2 : wr.cell? ⟨gb, k * 4 + 2, none⟩ = _ := h2r.cells _ _ pb.2.2.1
      have c3 : wr.cell? ⟨gb, k * 4 + 3, none⟩ = _ := h2r.cells _ _ pb.2.2.2
      have s1 := (g1 p (List.mem_of_getElem? hp)).below hbel
      have s2 := (g2 q (List.mem_of_getElem? hq)).below hbel
      rw [← hpq] at c0 c1 c2 s2
      obtain ⟨A1, e1, hA1, hzl1, hzl2⟩ := s1.form
      have hzl : p.1.2.2.2.length ≤ 9223372036854775807 := by unfold maxLen at hzl2; omega
      obtain ⟨B1, e2, hB1, _, _⟩ := s2.form
      rw [hA1] at a3 s1
      rw [hB1] at c3 s2
      obtain ⟨⟨p1, p2, p3, p4⟩, pv⟩ := p
      have HS := Lib.hid fun (m : Nat) => SameQ_any (wr.drewN m) A1 B1 e1 e2 p4 p4 (s1.strsAt.below (Nat.le_refl _) (below_drewN (Below.refl _ wr) m)) (s2.strsAt.below (Nat.le_refl _) (below_drewN (Below.refl _ wr) m)) hzl
      rw [sameL_self] at HS
      clear hp hq hpq h1r h2r pa pb s1 s2 hzl hA1 hB1
      go_wp2
      go_quiet (first | (go_at_call 29; exact Calls.quiet_of (HS.out _)))
      go_wp2
      exact ⟨⟨k + 1, by go_num, by omega, hdq.out _⟩, by simp [intOf]; omega⟩
    · have q1 : ¬ (k : Int) < n := by omega
      go_wp2
      go_ret
      exact ⟨rfl, hbel⟩
end Go.Proofs.Ytndoloohdloflaa
