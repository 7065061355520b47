/- GramAround; conditions: the library's one number and one type in their cells. -/
import Derived.Test.YtioddclglemlmaaGreatDoorGramAd
import Derived.Deep.Cut
namespace Go.Proofs.YtioddclglemlmaaGreatDoor
open Go.RowKit

/-- two boxes that hold trees -/
structure ArS (w wi : World) (bA bB : Nat) (cx cy : List Value) (x y : CmdT) : Prop where
  below : Below w.heap.size w wi
  ra : wi.heap[bA]? = some (.cells cx.toArray 28 (0, 0))
  rb : wi.heap[bB]? = some (.cells cy.toArray 28 (0, 0))
  ha : w.heap.size ≤ bA
  hb : w.heap.size ≤ bB
  tx : CmdAt wi (fun k => k < wi.heap.size ∧ k ≠ bA ∧ k ≠ bB) cx x
  ty : CmdAt wi (fun k => k < wi.heap.size ∧ k ≠ bA ∧ k ≠ bB) cy y
  ne : bA ≠ bB
theorem ArS.next {w wi wj : World} {bA bB : Nat} {cx cy : List Value} {x y : CmdT} (h : ArS w wi bA bB cx cy x y) (hb : Below wi.heap.size wi wj) : ArS w wj bA bB cx cy x y :=
  ⟨h.below.trans (hb.mono h.below.size), (hb.block _ (lt_of_block h.ra)).trans h.ra, (hb.block _ (lt_of_block h.rb)).trans h.rb, h.ha, h.hb, h.tx.move (fun k e => ⟨Nat.lt_of_lt_of_le e.1 hb.size, e.2⟩) fun k e => hb.block k e.1, h.ty.move (fun k e => ⟨Nat.lt_of_lt_of_le e.1 hb.size, e.2⟩) fun k e => hb.block k e.1, h.ne⟩
/-- the first box is stored anew -/
theorem ArS.setA {w wi : World} {bA bB : Nat} {cx cy : List Value} {x y : CmdT} (h : ArS w wi bA bB cx cy x y) {a0 a1 a2 a3 a4 a5 a6 : Value} {t : CmdT} (ht : CmdAt wi (fun k => k < wi.heap.size ∧ k ≠ bA ∧ k ≠ bB) [a0, a1, a2, a3, a4, a5, a6] t) : ArS w (put7 wi bA a0 a1 a2 a3 a4 a5 a6) bA bB [a0, a1, a2, a3, a4, a5, a6] cy t y := by
  have hk := put7_kept (Kept.refl (fun k => k = bA) wi) (.inl rfl) a0 a1 a2 a3 a4 a5 a6
  have ho : ∀ k, k ≠ bA → (put7 wi bA a0 a1 a2 a3 a4 a5 a6).heap[k]? = wi.heap[k]? := fun k e => put7_other e _ _ _ _ _ _ _
  obtain ⟨z0, z1, z2, z3, z4, z5, z6, hz⟩ : ∃ z0 z1 z2 z3 z4 z5 z6, cx = [z0, z1, z2, z3, z4, z5, z6] := by
    obtain ⟨_, _, _, _, _, _, _, _, _, _, _, _, _, e, _⟩ := h.tx.form
    exact ⟨_, _, _, _, _, _, _, e⟩
  have hr := h.ra
  rw [hz] at hr
  refine ⟨h.below.trans (hk.to_below h.below.size fun i e => by rw [e]; exact h.ha), set7 hr a0 a1 a2 a3 a4 a5 a6, (ho bB (Ne.symm h.ne)).trans h.rb, h.ha, h.hb, ht.move (fun k e => ⟨Nat.lt_of_lt_of_le e.1 hk.size, e.2⟩) fun k e => ho k e.2.1, h.ty.move (fun k e => ⟨Nat.lt_of_lt_of_le e.1 hk.size, e.2⟩) fun k e => ho k e.2.1, h.ne⟩
theorem oneT_many {ks : List CmdT} (h : ks.length ≠ 1) : oneT ks = .mk 5 false [] [] [] ks [] [] := by
  match ks, h with
  | [], _ => rfl
  | [_], h => exact absurd rfl h
  | _ :: _ :: _, _ => rfl
theorem ArS.setB {w wi : World} {bA bB : Nat} {cx cy : List Value} {x y : CmdT} (h : ArS w wi bA bB cx cy x y) {a0 a1 a2 a3 a4 a5 a6 : Value} {t : CmdT} (ht : CmdAt wi (fun k => k < wi.heap.size ∧ k ≠ bA ∧ k ≠ bB) [a0, a1, a2, a3, a4, a5, a6] t) : ArS w (put7 wi bB a0 a1 a2 a3 a4 a5 a6) bA bB cx [a0, a1, a2, a3, a4, a5, a6] x t := by
  have hk := put7_kept (Kept.refl (fun k => k = bB) wi) (.inl rfl) a0 a1 a2 a3 a4 a5 a6
  have ho : ∀ k, k ≠ bB → (put7 wi bB a0 a1 a2 a3 a4 a5 a6).heap[k]? = wi.heap[k]? := fun k e => put7_other e _ _ _ _ _ _ _
  obtain ⟨z0, z1, z2, z3, z4, z5, z6, hz⟩ : ∃ z0 z1 z2 z3 z4 z5 z6, cy = [z0, z1, z2, z3, z4, z5, z6] := by
    obtain ⟨_, _, _, _, _, _, _, _, _, _, _, _, _, e, _⟩ := h.ty.form
    exact ⟨_, _, _, _, _, _, _, e⟩
  have hr := h.rb
  rw [hz] at hr
  refine ⟨h.below.trans (hk.to_below h.below.size fun i e => by rw [e]; exact h.hb), (ho bA h.ne).trans h.ra, set7 hr a0 a1 a2 a3 a4 a5 a6, h.ha, h.hb, h.tx.move (fun k e => ⟨Nat.lt_of_lt_of_le e.1 hk.size, e.2⟩) fun k e => ho k e.2.2, ht.move (fun k e => ⟨Nat.lt_of_lt_of_le e.1 hk.size, e.2⟩) fun k e => ho k e.2.2, h.ne⟩
/-- behind the forms and what they shall be -/
structure ArL (w wi : World) (bF bW B : Nat) (F : List ByteArray) (kc : List (List Value)) (T : List CmdT) : Prop where
  below : Below w.heap.size w wi
  rf : wi.heap[bF]? = some (.cells (F.map .string).toArray 9 (0, 0))
  rd : RdG wi (fun k => k < B) 28 7 (.slice (some ⟨bW, 0, none⟩) 6 6) 6 kc.flatten
  kids : KidsAt wi (fun k => k < B) kc T
  hB : B ≤ wi.heap.size
theorem ArL.next {w wi wj : World} {bF bW B : Nat} {F : List ByteArray} {kc : List (List Value)} {T : List CmdT} (h : ArL w wi bF bW B F kc T) (hb : Below wi.heap.size wi wj) : ArL w wj bF bW B F kc T :=
  ⟨h.below.trans (hb.mono h.below.size), (hb.block _ (lt_of_block h.rf)).trans h.rf, h.rd.move (fun _ e => e) fun k e => hb.block k (Nat.lt_of_lt_of_le e h.hB), h.kids.move (fun _ e => e) fun k e => hb.block k (Nat.lt_of_lt_of_le e h.hB), Nat.le_trans h.hB hb.size⟩
theorem arl_start {w w8 : World} {bA bB bF : Nat} {cx cy : List Value} {x y : CmdT} {F : List ByteArray} (h : ArS w w8 bA bB cx cy x y) (hf : w8.heap[bF]? = some (.cells (F.map .string).toArray 9 (0, 0))) :
    ArL w (allocs w8 (arO w8.heap.size cx cy)) bF (w8.heap.size + 9) (w8.heap.size + 10) F (arO.arC w8.heap.size) (arT x y) := by
  have hb := allocs_below (arO w8.heap.size cx cy) w8
  have hs : (allocs w8 (arO w8.heap.size cx cy)).heap.size = w8.heap.size + 10 := by rw [allocs_size]; rfl
  obtain ⟨h1, h2⟩ := ar_world h.tx h.ty (fun k e => e.1) rfl
  rw [hs] at h1 h2
  exact ⟨h.below.trans (hb.mono h.below.size), (hb.block _ (lt_of_block hf)).trans hf, h1, h2, Nat.le_of_eq hs.symm⟩
set_option maxRecDepth 100000 in
set_option maxHeartbeats 8000000 in
theorem GramAround_law (a b : ByteArray) (w : World) (_ha : a.size ≤ 140737488351232) (_hb : b.size ≤ 140737488351232) (hw : 1 < w.heap.size) (m : Int) (hm : w.cell? ⟨1, 0, none⟩ = some (.int .i64 m)) (hg : w.cell? ⟨0, 0, none⟩ = some ErrT) :
    Calls Tryz.prog 4 #[.string a, .string b] w fun e w' => e = .returned (.bool true) ∧ Below w.heap.size w w' := by
  have HA := Lib.hid (gramAlive w hw m hm hg)
  have HP := Lib.hid fun wi (hb : Below w.heap.size w wi) (s : ByteArray) (hs : s.size ≤ 65536) nob => Parse_any s wi hs nob m ((hb.cell (p := ⟨1, 0, none⟩) hw).trans hm) ((hb.cell (p := ⟨0, 0, none⟩) (Nat.lt_of_succ_lt hw)).trans hg) (Nat.lt_of_lt_of_le hw hb.size)
  clear hm hg
  by_cases qa : 2000 < a.size
  · go_enter Tryz.func4, Tryz.ntmps4
    go_wp2_with fail
    refine HA.out.mono ?_
    rintro e w1 ⟨rfl, hb1⟩
    go_wp2
    go_ret
    exact ⟨rfl, hb1⟩
  by_cases qb : 2000 < b.size
  · go_enter Tryz.func4, Tryz.ntmps4
    go_wp2_with fail
    refine HA.out.mono ?_
    rintro e w1 ⟨rfl, hb1⟩
    go_wp2
    go_ret
    exact ⟨rfl, hb1⟩
  go_enter Tryz.func4, Tryz.ntmps4
  go_wp2_with fail
  refine HA.out.mono ?_
  rintro e w1 ⟨rfl, hb1⟩
  obtain ⟨w2, hw2⟩ : ∃ w2, w1.alloc (.cells #[.string a, .string b] 9) = w2 := ⟨_, rfl⟩
  have HB2 : Hid (Below w.heap.size w w2) := by rw [← hw2]; exact hb1.alloc hb1.size _
  have HL : Hid (∀ i, i < 2 → w2.cell? ⟨w1.heap.size, i, none⟩ = some (.string ([a, b].getD i ⟨#[]⟩))) := fun i hi => by
    have h := heap_alloc_last w1 (.cells #[.string a, .string b] 9)
    rw [hw2] at h
    obtain rfl | rfl : i = 0 ∨ i = 1 := by omega
    · exact (rowc h (j := 0) rfl).1
    · exact (rowc h (j := 1) rfl).1
  have HW2 := Lib.hid hw2
  clear hw2 HA hb1
  go_wp2
  rw [HW2.out]
  go_loopw [7, 8] (fun iv _ wi => ∃ i : Nat, iv = .int .i64 i ∧ i ≤ 2 ∧ wi = w2 ∧ Hid (∀ j, j < i → ∀ c ∈ ([a, b].getD j ⟨#[]⟩).data.toList, c ≠ 92 ∧ c ≠ 35)) (fun iv _ _ => 2 - (intOf iv).toNat)
  case atStart => exact ⟨0, rfl, by decide, rfl, (fun j hj => absurd hj (Nat.not_lt_zero _) : ∀ j, j < 0 → _)⟩
  case round =>
    obtain ⟨i, rfl, hi, hwr, hno⟩ := hrel
    obtain rfl : w2 = wr := hwr.symm
    by_cases hlt : i < 2
    · have q1 : (i : Int) < 2 := by omega
      have kx := HL.out i hlt
      have hxs : ([a, b].getD i ⟨#[]⟩).size ≤ 2000 := by
        obtain rfl | rfl : i = 0 ∨ i = 1 := by omega
        · show a.size ≤ 2000; omega
        · show b.size ≤ 2000; omega
      obtain ⟨x, hx⟩ : ∃ x, [a, b].getD i ⟨#[]⟩ = x := ⟨_, rfl⟩
      rw [hx] at kx hxs
      have HX := Lib.hid hx
      clear hx
      go_wp2
      go_loopw [8] (fun kv wi => ∃ j : Nat, kv = .int .i64 j ∧ j ≤ x.size ∧ wi = w2 ∧ Hid (∀ i, i < j → x.get! i ≠ 92 ∧ x.get! i ≠ 35)) (fun kv _ => x.size - (intOf kv).toNat)
      case atStart => exact ⟨0, rfl, Nat.zero_le _, rfl, (fun i hi => absurd hi (Nat.not_lt_zero _) : ∀ i, i < 0 → _)⟩
      case round =>
        obtain ⟨j, rfl, hj, hwr, hnob⟩ := hrel
        obtain rfl : w2 = wr := hwr.symm
        by_cases hjl : j < x.size
        · have q2 : (j : Int) < x.size := by omega
          have hgj : x.get! j = x[j] := by rw [← get_list x j hjl]; rfl
          by_cases qb : x[j] = 35 ∨ x[j] = 92
          · generalize hc : x[j] = c at qb
            rcases qb with rfl | rfl
            · go_wp2
              go_ret
              exact ⟨rfl, HB2.out⟩
            · go_wp2
              go_ret
              exact ⟨rfl, HB2.out⟩
          · have HNO : Hid (∀ i, i < j + 1 → x.get! i ≠ 92 ∧ x.get! i ≠ 35) := fun i hi => by
              by_cases e : i = j
              · subst e; rw [hgj]; exact ⟨fun e => qb (.inr e), fun e => qb (.inl e)⟩
              · exact hnob.out i (by omega)
            generalize hc : x[j] = c at qb
            have b35 : ((c.toNat : Int) == 35) = false := by have := u8_beq c 35; rw [show ((c.toNat : Int) == 35) = (c == 35) from this]; exact beq_eq_false_iff_ne.2 fun e => qb (.inl e)
            have b92 : ((c.toNat : Int) == 92) = false := by have := u8_beq c 92; rw [show ((c.toNat : Int) == 92) = (c == 92) from this]; exact beq_eq_false_iff_ne.2 fun e => qb (.inr e)
            clear qb hgj
            go_wp2
            exact ⟨⟨j + 1, by go_num, by omega, trivial, HNO⟩, by simp [intOf]; omega⟩
        · have HNO : Hid (∀ j, j < i + 1 → ∀ c ∈ ([a, b].getD j ⟨#[]⟩).data.toList, c ≠ 92 ∧ c ≠ 35) := fun l hl c hc => by
            by_cases e : l = i
            · subst e
              rw [HX.out] at hc
              obtain ⟨p, hp, rfl⟩ := List.getElem_of_mem hc
              have hp' : p < x.size := by simpa using hp
              rw [get_list x p hp']
              exact hnob.out p (by omega)
            · exact hno.out l (by omega) c hc
          go_wp2
          exact ⟨⟨i + 1, by go_num, by omega, trivial, HNO⟩, by simp [intOf]; omega⟩
    · obtain rfl : i = 2 := by omega
      have hna := hno.out 0 (by decide)
      have hnb := hno.out 1 (by decide)
      have HNA : Hid (∀ c ∈ a.data.toList, c ≠ 92 ∧ c ≠ 35) := hna
      have HNB : Hid (∀ c ∈ b.data.toList, c ≠ 92 ∧ c ≠ 35) := hnb
      have HPA := Lib.hid (HP.out w2 HB2.out a (by omega) HNA.out)
      clear hna hnb hno HL
      go_wp2_with fail
      refine HPA.out.mono ?_
      rintro e w3 ⟨hb3, hpa⟩
      obtain ⟨kd, no, A2, l2, m2, A3, l3, m3, A4, l4, m4, A5, l5, m5, A6, l6, m6, n, rfl, hres⟩ := hpa.gen
      obtain ⟨w4, hw4⟩ : ∃ w4, w3.alloc (.cells #[.int .i64 kd, .bool no, .slice A2 l2 m2, .slice A3 l3 m3, .slice A4 l4 m4, .slice A5 l5 m5, .slice A6 l6 m6] 28) = w4 := ⟨_, rfl⟩
      have r4 : w4.heap[w3.heap.size]? = some (.cells #[.int .i64 kd, .bool no, .slice A2 l2 m2, .slice A3 l3 m3, .slice A4 l4 m4, .slice A5 l5 m5, .slice A6 l6 m6] 28 (0, 0)) := by rw [← hw4]; exact heap_alloc_last w3 _
      have hb34 : Below w3.heap.size w3 w4 := by rw [← hw4]; exact (Below.refl _ w3).alloc (Nat.le_refl _) _
      have HB23 := Lib.hid hb3
      have HB34 := Lib.hid hb34
      have HB4 := Lib.hid (HB2.out.trans ((hb3.trans (hb34.mono hb3.size)).mono HB2.out.size))
      have HRA := Lib.hid hres
      have HW4 := Lib.hid hw4
      have HR4 := Lib.hid r4
      have HPB := Lib.hid (HP.out w4 HB4.out b (by omega) HNB.out)
      clear hpa hres hw4 r4 hb34 hb3
      go_wp2_with fail
      rw [HW4.out]
      refine HPB.out.mono ?_
      rintro e w5 ⟨hb5, hpb⟩
      obtain ⟨kd', no', C2, p2, q2, C3, p3, q3, C4, p4, q4, C5, p5, q5, C6, p6, q6, n', rfl, hres⟩ := hpb.gen
      obtain ⟨w6, hw6⟩ : ∃ w6, w5.alloc (.cells #[.int .i64 kd', .bool no', .slice C2 p2 q2, .slice C3 p3 q3, .slice C4 p4 q4, .slice C5 p5 q5, .slice C6 p6 q6] 28) = w6 := ⟨_, rfl⟩
      have r6 : w6.heap[w5.heap.size]? = some (.cells #[.int .i64 kd', .bool no', .slice C2 p2 q2, .slice C3 p3 q3, .slice C4 p4 q4, .slice C5 p5 q5, .slice C6 p6 q6] 28 (0, 0)) := by rw [← hw6]; exact heap_alloc_last w5 _
      have hb56 : Below w5.heap.size w5 w6 := by rw [← hw6]; exact (Below.refl _ w5).alloc (Nat.le_refl _) _
      have HB46 := Lib.hid (hb5.trans (hb56.mono hb5.size))
      have HB56 := Lib.hid hb56
      have HB6 := Lib.hid (HB4.out.trans (HB46.out.mono HB4.out.size))
      have HSZ5 := Lib.hid hb5.size
      have HRB := Lib.hid hres
      have HW6 := Lib.hid hw6
      have HR6 := Lib.hid r6
      have HN3 : Hid (w3.heap.size < w6.heap.size ∧ w3.heap.size ≠ w5.heap.size) := by
        have h1 := lt_of_block HR4.out
        have h2 := hb5.size
        have h3 := HB46.out.size
        exact ⟨by omega, by omega⟩
      clear hpb hres hw6 r6 hb56 hb5
      obtain ⟨x0, x1, x2, x3, x4, x5, x6⟩ := row7 ((HB46.out.block _ (lt_of_block HR4.out)).trans HR4.out)
      obtain ⟨y0, y1, y2, y3, y4, y5, y6⟩ := row7 HR6.out
      go_wp2_with fail
      rw [HW6.out]
      refine (num_some n w6).mono ?_
      rintro e w7 ⟨rfl, hw7⟩
      obtain rfl := hw7.symm
      by_cases qn : n = 0
      · subst qn
        go_wp2_with fail
        refine (num_some n' w6).mono ?_
        rintro e w7 ⟨rfl, hw7⟩
        obtain rfl := hw7.symm
        by_cases qn' : n' = 0
        · subst qn'
          by_cases ql : l5 = 0
          · subst ql
            go_wp2
            go_ret
            exact ⟨rfl, HB6.out⟩
          · have ql0 : ((l5 : Int) == 0) = false := beq_eq_false_iff_ne.2 (by omega)
            by_cases qp : p5 = 0
            · subst qp
              go_wp2
              go_ret
              exact ⟨rfl, HB6.out⟩
            · have qp0 : ((p5 : Int) == 0) = false := beq_eq_false_iff_ne.2 (by omega)
              have qk : l5 ≠ 0 := ql
              have HNE := Lib.hid qk
              have HNE' := Lib.hid qp
              obtain ⟨ks, hga, rfl, rfl, hcx⟩ : ∃ ks, gramP a = .ok (.mk 5 false [] [] [] ks [] []) ∧ l5 = ks.length ∧ kd = 5 ∧ CmdAt w3 (fun k => w2.heap.size ≤ k ∧ k < w3.heap.size) [.int .i64 kd, .bool no, .slice A2 l2 m2, .slice A3 l3 m3, .slice A4 l4 m4, .slice A5 l5 m5, .slice A6 l6 m6] (.mk 5 false [] [] [] ks [] []) := by
                rcases HRA.out with ⟨ks', e1, e2, e3, e4, e5⟩ | ⟨_, e2⟩ | ⟨t, e1, e2⟩
                · exact ⟨ks', e1, e3, e4, e5⟩
                · exact absurd e2 ql
                · obtain ⟨ks', e3⟩ := gram_list e1
                  exact absurd e3 (e2 ks')
              obtain ⟨ms, hgb, rfl, rfl, hcy⟩ : ∃ ks, gramP b = .ok (.mk 5 false [] [] [] ks [] []) ∧ p5 = ks.length ∧ kd' = 5 ∧ CmdAt w5 (fun k => w4.heap.size ≤ k ∧ k < w5.heap.size) [.int .i64 kd', .bool no', .slice C2 p2 q2, .slice C3 p3 q3, .slice C4 p4 q4, .slice C5 p5 q5, .slice C6 p6 q6] (.mk 5 false [] [] [] ks [] []) := by
                rcases HRB.out with ⟨ks', e1, e2, e3, e4, e5⟩ | ⟨_, e2⟩ | ⟨t, e1, e2⟩
                · exact ⟨ks', e1, e3, e4, e5⟩
                · exact absurd e2 qp
                · obtain ⟨ks', e3⟩ := gram_list e1
                  exact absurd e3 (e2 ks')
              obtain ⟨_, rfl⟩ := hcx.head
              obtain ⟨_, rfl⟩ := hcy.head
              have HTA : Hid (SomeText a ks) := ⟨hga, by rintro rfl; exact HNE.out rfl, HNA.out, by omega⟩
              have HTB : Hid (SomeText b ms) := ⟨hgb, by rintro rfl; exact HNE'.out rfl, HNB.out, by omega⟩
              have hb36 : Below w3.heap.size w3 w6 := HB34.out.trans (HB46.out.mono HB34.out.size)
              have HAS : Hid (ArS w w6 w3.heap.size w5.heap.size [.int .i64 5, .bool false, .slice A2 l2 m2, .slice A3 l3 m3, .slice A4 l4 m4, .slice A5 ks.length m5, .slice A6 l6 m6] [.int .i64 5, .bool false, .slice C2 p2 q2, .slice C3 p3 q3, .slice C4 p4 q4, .slice C5 ms.length q5, .slice C6 p6 q6] (.mk 5 false [] [] [] ks [] []) (.mk 5 false [] [] [] ms [] [])) :=
                ⟨HB6.out, (HB46.out.block _ (lt_of_block HR4.out)).trans HR4.out, HR6.out, Nat.le_trans HB2.out.size HB23.out.size, Nat.le_trans HB4.out.size (by have := HB23.out.size; have h1 := lt_of_block HR4.out; have h2 := HN3.out; have h3 := lt_of_block HR6.out; have h4 := HB46.out.size; have h5 := HB56.out.size; exact HSZ5.out),
                  hcx.move (fun k e => ⟨by have := HN3.out.1; omega, by omega, by have := HSZ5.out; have h1 := lt_of_block HR4.out; omega⟩) fun k e => hb36.block k e.2, hcy.move (fun k e => ⟨by have := HB56.out.size; omega, by have h1 := lt_of_block HR4.out; omega, by omega⟩) fun k e => HB56.out.block k e.2, HN3.out.2⟩
              clear hcx hcy hga hgb hb36 HRA HRB HPA HPB HNE HNE' x0 x1 x2 x3 x4 x5 x6 y0 y1 y2 y3 y4 y5 y6 qk
              obtain ⟨x0, x1, x2, x3, x4, x5, x6⟩ := row7 HAS.out.ra
              obtain ⟨y0, y1, y2, y3, y4, y5, y6⟩ := row7 HAS.out.rb
              obtain ⟨nk, hnk⟩ : ∃ nk, ks.length = nk := ⟨_, rfl⟩
              obtain ⟨nm, hnm⟩ : ∃ nm, ms.length = nm := ⟨_, rfl⟩
              rw [hnk] at HAS x5 ql ql0 ⊢
              rw [hnm] at HAS y5 qp qp0 ⊢
              have HNK := Lib.hid hnk
              have HNM := Lib.hid hnm
              clear hnk hnm
              go_upto_if 97 with fail
              go_cut [] from 98 (fun wi => Hid (∃ (ka : Int) (oa : Bool) (D2a : Option Addr) (d2a e2a : Nat) (D3a : Option Addr) (d3a e3a : Nat) (D4a : Option Addr) (d4a e4a : Nat) (D5a : Option Addr) (d5a e5a : Nat) (D6a : Option Addr) (d6a e6a : Nat), ArS w wi w3.heap.size w5.heap.size [.int .i64 ka, .bool oa, .slice D2a d2a e2a, .slice D3a d3a e3a, .slice D4a d4a e4a, .slice D5a d5a e5a, .slice D6a d6a e6a] [.int .i64 5, .bool false, .slice C2 p2 q2, .slice C3 p3 q3, .slice C4 p4 q4, .slice C5 nm q5, .slice C6 p6 q6] (oneT ks) (.mk 5 false [] [] [] ms [] [])))
              case first =>
                by_cases qs : nk = 1
                · subst qs
                  obtain ⟨t, rfl⟩ : ∃ t, ks = [t] := by
                    have := HNK.out
                    match ks, this with
                    | [t], _ => exact ⟨t, rfl⟩
                  obtain ⟨_, _, _, ⟨kc', hkc1, hkc2⟩, _⟩ := HAS.out.tx.kids
                  obtain ⟨c, rfl, hc⟩ := kc_one hkc2
                  obtain ⟨gk, rfl, hgk⟩ := hkc1.addr (by simp)
                  obtain ⟨kc0, nc0, F2, g2, i2, F3, g3, i3, F4, g4, i4, F5, g5, i5, F6, g6, i6, rfl⟩ := hc.lit
                  have z0 := hkc1.1.cells 0 _ rfl
                  have z1 := hkc1.1.cells 1 _ rfl
                  have z2 := hkc1.1.cells 2 _ rfl
                  have z3 := hkc1.1.cells 3 _ rfl
                  have z4 := hkc1.1.cells 4 _ rfl
                  have z5 := hkc1.1.cells 5 _ rfl
                  have z6 := hkc1.1.cells 6 _ rfl
                  have hst := HAS.out.setA hc
                  unfold put7 at hst
                  have HX : Hid (∃ (ka : Int) (oa : Bool) (D2a : Option Addr) (d2a e2a : Nat) (D3a : Option Addr) (d3a e3a : Nat) (D4a : Option Addr) (d4a e4a : Nat) (D5a : Option Addr) (d5a e5a : Nat) (D6a : Option Addr) (d6a e6a : Nat), ArS w _ w3.heap.size w5.heap.size [.int .i64 ka, .bool oa, .slice D2a d2a e2a, .slice D3a d3a e3a, .slice D4a d4a e4a, .slice D5a d5a e5a, .slice D6a d6a e6a] [.int .i64 5, .bool false, .slice C2 p2 q2, .slice C3 p3 q3, .slice C4 p4 q4, .slice C5 nm q5, .slice C6 p6 q6] (oneT [t]) (.mk 5 false [] [] [] ms [] [])) := ⟨_, _, _, _, _, _, _, _, _, _, _, _, _, _, _, _, _, hst⟩
                  obtain ⟨f0, f1, f2, f3, f4, f5, f6⟩ := And.intro (rowc HAS.out.ra (j := 0) rfl).2 (And.intro (rowc HAS.out.ra (j := 1) rfl).2 (And.intro (rowc HAS.out.ra (j := 2) rfl).2 (And.intro (rowc HAS.out.ra (j := 3) rfl).2 (And.intro (rowc HAS.out.ra (j := 4) rfl).2 (And.intro (rowc HAS.out.ra (j := 5) rfl).2 (rowc HAS.out.ra (j := 6) rfl).2)))))
                  clear hkc1 hkc2 hc hst
                  go_wp2
                  go_meet
                  case rel => exact HX
                · have qt : ((nk : Int) == 1) = false := beq_eq_false_iff_ne.2 (by omega)
                  have HX : Hid (∃ (ka : Int) (oa : Bool) (D2a : Option Addr) (d2a e2a : Nat) (D3a : Option Addr) (d3a e3a : Nat) (D4a : Option Addr) (d4a e4a : Nat) (D5a : Option Addr) (d5a e5a : Nat) (D6a : Option Addr) (d6a e6a : Nat), ArS w w6 w3.heap.size w5.heap.size [.int .i64 ka, .bool oa, .slice D2a d2a e2a, .slice D3a d3a e3a, .slice D4a d4a e4a, .slice D5a d5a e5a, .slice D6a d6a e6a] [.int .i64 5, .bool false, .slice C2 p2 q2, .slice C3 p3 q3, .slice C4 p4 q4, .slice C5 nm q5, .slice C6 p6 q6] (oneT ks) (.mk 5 false [] [] [] ms [] [])) := by
                    rw [oneT_many (by rw [HNK.out]; exact qs)]
                    exact ⟨_, _, _, _, _, _, _, _, _, _, _, _, _, _, _, _, _, HAS.out⟩
                  go_wp2
                  go_meet
                  case rel => exact HX
              case rest =>
                obtain ⟨ka, oa, D2a, d2a, e2a, D3a, d3a, e3a, D4a, d4a, e4a, D5a, d5a, e5a, D6a, d6a, e6a, has⟩ := hcut.out
                have HAT := Lib.hid has
                clear has hcut HAS x0 x1 x2 x3 x4 x5 x6 y0 y1 y2 y3 y4 y5 y6
                obtain ⟨y0, y1, y2, y3, y4, y5, y6⟩ := row7 HAT.out.rb
                go_upto_if 105 with fail
                go_cut [] from 106 (fun wi => Hid (∃ (ka : Int) (oa : Bool) (D2a : Option Addr) (d2a e2a : Nat) (D3a : Option Addr) (d3a e3a : Nat) (D4a : Option Addr) (d4a e4a : Nat) (D5a : Option Addr) (d5a e5a : Nat) (D6a : Option Addr) (d6a e6a : Nat), ∃ (kb : Int) (ob : Bool) (D2b : Option Addr) (d2b e2b : Nat) (D3b : Option Addr) (d3b e3b : Nat) (D4b : Option Addr) (d4b e4b : Nat) (D5b : Option Addr) (d5b e5b : Nat) (D6b : Option Addr) (d6b e6b : Nat), ArS w wi w3.heap.size w5.heap.size [.int .i64 ka, .bool oa, .slice D2a d2a e2a, .slice D3a d3a e3a, .slice D4a d4a e4a, .slice D5a d5a e5a, .slice D6a d6a e6a] [.int .i64 kb, .bool ob, .slice D2b d2b e2b, .slice D3b d3b e3b, .slice D4b d4b e4b, .slice D5b d5b e5b, .slice D6b d6b e6b] (oneT ks) (oneT ms)))
                case first =>
                  by_cases qs : nm = 1
                  · subst qs
                    obtain ⟨t, rfl⟩ : ∃ t, ms = [t] := by
                      have := HNM.out
                      match ms, this with
                      | [t], _ => exact ⟨t, rfl⟩
                    obtain ⟨_, _, _, ⟨kc', hkc1, hkc2⟩, _⟩ := HAT.out.ty.kids
                    obtain ⟨c, rfl, hc⟩ := kc_one hkc2
                    obtain ⟨gk, rfl, hgk⟩ := hkc1.addr (by simp)
                    obtain ⟨kc0, nc0, F2, g2, i2, F3, g3, i3, F4, g4, i4, F5, g5, i5, F6, g6, i6, rfl⟩ := hc.lit
                    have z0 := hkc1.1.cells 0 _ rfl
                    have z1 := hkc1.1.cells 1 _ rfl
                    have z2 := hkc1.1.cells 2 _ rfl
                    have z3 := hkc1.1.cells 3 _ rfl
                    have z4 := hkc1.1.cells 4 _ rfl
                    have z5 := hkc1.1.cells 5 _ rfl
                    have z6 := hkc1.1.cells 6 _ rfl
                    have hst := HAT.out.setB hc
                    unfold put7 at hst
                    have HX : Hid (∃ (ka : Int) (oa : Bool) (D2a : Option Addr) (d2a e2a : Nat) (D3a : Option Addr) (d3a e3a : Nat) (D4a : Option Addr) (d4a e4a : Nat) (D5a : Option Addr) (d5a e5a : Nat) (D6a : Option Addr) (d6a e6a : Nat), ∃ (kb : Int) (ob : Bool) (D2b : Option Addr) (d2b e2b : Nat) (D3b : Option Addr) (d3b e3b : Nat) (D4b : Option Addr) (d4b e4b : Nat) (D5b : Option Addr) (d5b e5b : Nat) (D6b : Option Addr) (d6b e6b : Nat), ArS w _ w3.heap.size w5.heap.size [.int .i64 ka, .bool oa, .slice D2a d2a e2a, .slice D3a d3a e3a, .slice D4a d4a e4a, .slice D5a d5a e5a, .slice D6a d6a e6a] [.int .i64 kb, .bool ob, .slice D2b d2b e2b, .slice D3b d3b e3b, .slice D4b d4b e4b, .slice D5b d5b e5b, .slice D6b d6b e6b] (oneT ks) (oneT [t])) := ⟨_, _, _, _, _, _, _, _, _, _, _, _, _, _, _, _, _, _, _, _, _, _, _, _, _, _, _, _, _, _, _, _, _, _, hst⟩
                    obtain ⟨f0, f1, f2, f3, f4, f5, f6⟩ := And.intro (rowc HAT.out.rb (j := 0) rfl).2 (And.intro (rowc HAT.out.rb (j := 1) rfl).2 (And.intro (rowc HAT.out.rb (j := 2) rfl).2 (And.intro (rowc HAT.out.rb (j := 3) rfl).2 (And.intro (rowc HAT.out.rb (j := 4) rfl).2 (And.intro (rowc HAT.out.rb (j := 5) rfl).2 (rowc HAT.out.rb (j := 6) rfl).2)))))
                    clear hkc1 hkc2 hc hst
                    go_wp2
                    go_meet
                    case rel => exact HX
                  · have qt : ((nm : Int) == 1) = false := beq_eq_false_iff_ne.2 (by omega)
                    have HX : Hid (∃ (ka : Int) (oa : Bool) (D2a : Option Addr) (d2a e2a : Nat) (D3a : Option Addr) (d3a e3a : Nat) (D4a : Option Addr) (d4a e4a : Nat) (D5a : Option Addr) (d5a e5a : Nat) (D6a : Option Addr) (d6a e6a : Nat), ∃ (kb : Int) (ob : Bool) (D2b : Option Addr) (d2b e2b : Nat) (D3b : Option Addr) (d3b e3b : Nat) (D4b : Option Addr) (d4b e4b : Nat) (D5b : Option Addr) (d5b e5b : Nat) (D6b : Option Addr) (d6b e6b : Nat), ArS w wc w3.heap.size w5.heap.size [.int .i64 ka, .bool oa, .slice D2a d2a e2a, .slice D3a d3a e3a, .slice D4a d4a e4a, .slice D5a d5a e5a, .slice D6a d6a e6a] [.int .i64 kb, .bool ob, .slice D2b d2b e2b, .slice D3b d3b e3b, .slice D4b d4b e4b, .slice D5b d5b e5b, .slice D6b d6b e6b] (oneT ks) (oneT ms)) := by
                      rw [oneT_many (ks := ms) (by rw [HNM.out]; exact qs)]
                      exact ⟨_, _, _, _, _, _, _, _, _, _, _, _, _, _, _, _, _, _, _, _, _, _, _, _, _, _, _, _, _, _, _, _, _, _, HAT.out⟩
                    go_wp2
                    go_meet
                    case rel => exact HX
                case rest =>
                  obtain ⟨ka, oa, D2a, d2a, e2a, D3a, d3a, e3a, D4a, d4a, e4a, D5a, d5a, e5a, D6a, d6a, e6a, kb, ob, D2b, d2b, e2b, D3b, d3b, e3b, D4b, d4b, e4b, D5b, d5b, e5b, D6b, d6b, e6b, has⟩ := hcut.out
                  have HAV := Lib.hid has
                  clear has hcut HAT y0 y1 y2 y3 y4 y5 y6
                  have s1 : a.size ≤ 2000 := by omega
                  have s2 : b.size ≤ 2000 := by omega
                  obtain ⟨bA, hbA⟩ : ∃ bA, w3.heap.size = bA := ⟨_, rfl⟩
                  obtain ⟨bB, hbB⟩ : ∃ bB, w5.heap.size = bB := ⟨_, rfl⟩
                  rw [hbA, hbB] at HAV
                  rw [hbA, hbB]
                  clear hbA hbB
                  go_upto_region 22 with fail
                  obtain ⟨w8, hw8⟩ : ∃ w8, wc.alloc (.cells #[.string ((⟨#[40]⟩ ++ a) ++ ⟨#[10, 41]⟩), .string ((⟨#[123, 32]⟩ ++ a) ++ ⟨#[10, 125]⟩), .string ((((⟨#[105, 102, 32]⟩ ++ a) ++ ⟨#[10, 116, 104, 101, 110, 32]⟩) ++ b) ++ ⟨#[10, 102, 105]⟩), .string ((((⟨#[119, 104, 105, 108, 101, 32]⟩ ++ a) ++ ⟨#[10, 100, 111, 32]⟩) ++ b) ++ ⟨#[10, 100, 111, 110, 101]⟩), .string ((⟨#[102, 111, 114, 32, 105, 32, 105, 110, 32, 49, 32, 50, 59, 32, 100, 111, 32]⟩ ++ a) ++ ⟨#[10, 100, 111, 110, 101]⟩), .string ((⟨#[99, 97, 115, 101, 32, 119, 32, 105, 110, 32, 112, 41, 32]⟩ ++ a) ++ ⟨#[10, 59, 59, 32, 101, 115, 97, 99]⟩)] 9) = w8 := ⟨_, rfl⟩
                  have hb8 : Below wc.heap.size wc w8 := by rw [← hw8]; exact (Below.refl _ wc).alloc (Nat.le_refl _) _
                  have HF8 : Hid (w8.heap[wc.heap.size]? = some (.cells ((arF a b).map .string).toArray 9 (0, 0))) := by
                    have h := heap_alloc_last wc (.cells #[.string ((⟨#[40]⟩ ++ a) ++ ⟨#[10, 41]⟩), .string ((⟨#[123, 32]⟩ ++ a) ++ ⟨#[10, 125]⟩), .string ((((⟨#[105, 102, 32]⟩ ++ a) ++ ⟨#[10, 116, 104, 101, 110, 32]⟩) ++ b) ++ ⟨#[10, 102, 105]⟩), .string ((((⟨#[119, 104, 105, 108, 101, 32]⟩ ++ a) ++ ⟨#[10, 100, 111, 32]⟩) ++ b) ++ ⟨#[10, 100, 111, 110, 101]⟩), .string ((⟨#[102, 111, 114, 32, 105, 32, 105, 110, 32, 49, 32, 50, 59, 32, 100, 111, 32]⟩ ++ a) ++ ⟨#[10, 100, 111, 110, 101]⟩), .string ((⟨#[99, 97, 115, 101, 32, 119, 32, 105, 110, 32, 112, 41, 32]⟩ ++ a) ++ ⟨#[10, 59, 59, 32, 101, 115, 97, 99]⟩)] 9)
                    rw [hw8] at h; exact h
                  rw [hw8]
                  have HA8 := Lib.hid (HAV.out.next hb8)
                  have HLF := Lib.hid (show wc.heap.size < w8.heap.size from lt_of_block HF8.out)
                  obtain ⟨bF, hbF⟩ : ∃ bF, wc.heap.size = bF := ⟨_, rfl⟩
                  rw [hbF] at HF8 HLF ⊢
                  obtain ⟨x0, x1, x2, x3, x4, x5, x6⟩ := row7 HA8.out.ra
                  obtain ⟨y0, y1, y2, y3, y4, y5, y6⟩ := row7 HA8.out.rb
                  have hA := lt_of_block HA8.out.ra
                  have hB := lt_of_block HA8.out.rb
                  clear hw8 hb8 hbF HAV
                  have nA1 : bA < w8.heap.size + 1 := by omega
                  have nA2 : bA < w8.heap.size + 2 := by omega
                  have mA2 : bA < w8.heap.size + 1 + 1 := by omega
                  have lA2 : bA ≤ w8.heap.size + 1 := by omega
                  have nA3 : bA < w8.heap.size + 3 := by omega
                  have mA3 : bA < w8.heap.size + 1 + 1 + 1 := by omega
                  have lA3 : bA ≤ w8.heap.size + 2 := by omega
                  have nA4 : bA < w8.heap.size + 4 := by omega
                  have mA4 : bA < w8.heap.size + 1 + 1 + 1 + 1 := by omega
                  have lA4 : bA ≤ w8.heap.size + 3 := by omega
                  have nA5 : bA < w8.heap.size + 5 := by omega
                  have mA5 : bA < w8.heap.size + 1 + 1 + 1 + 1 + 1 := by omega
                  have lA5 : bA ≤ w8.heap.size + 4 := by omega
                  have nA6 : bA < w8.heap.size + 6 := by omega
                  have mA6 : bA < w8.heap.size + 1 + 1 + 1 + 1 + 1 + 1 := by omega
                  have lA6 : bA ≤ w8.heap.size + 5 := by omega
                  have nA7 : bA < w8.heap.size + 7 := by omega
                  have mA7 : bA < w8.heap.size + 1 + 1 + 1 + 1 + 1 + 1 + 1 := by omega
                  have lA7 : bA ≤ w8.heap.size + 6 := by omega
                  have nA8 : bA < w8.heap.size + 8 := by omega
                  have mA8 : bA < w8.heap.size + 1 + 1 + 1 + 1 + 1 + 1 + 1 + 1 := by omega
                  have lA8 : bA ≤ w8.heap.size + 7 := by omega
                  have nA9 : bA < w8.heap.size + 9 := by omega
                  have mA9 : bA < w8.heap.size + 1 + 1 + 1 + 1 + 1 + 1 + 1 + 1 + 1 := by omega
                  have lA9 : bA ≤ w8.heap.size + 8 := by omega
                  have nB1 : bB < w8.heap.size + 1 := by omega
                  have nB2 : bB < w8.heap.size + 2 := by omega
                  have mB2 : bB < w8.heap.size + 1 + 1 := by omega
                  have lB2 : bB ≤ w8.heap.size + 1 := by omega
                  have nB3 : bB < w8.heap.size + 3 := by omega
                  have mB3 : bB < w8.heap.size + 1 + 1 + 1 := by omega
                  have lB3 : bB ≤ w8.heap.size + 2 := by omega
                  have nB4 : bB < w8.heap.size + 4 := by omega
                  have mB4 : bB < w8.heap.size + 1 + 1 + 1 + 1 := by omega
                  have lB4 : bB ≤ w8.heap.size + 3 := by omega
                  have nB5 : bB < w8.heap.size + 5 := by omega
                  have mB5 : bB < w8.heap.size + 1 + 1 + 1 + 1 + 1 := by omega
                  have lB5 : bB ≤ w8.heap.size + 4 := by omega
                  have nB6 : bB < w8.heap.size + 6 := by omega
                  have mB6 : bB < w8.heap.size + 1 + 1 + 1 + 1 + 1 + 1 := by omega
                  have lB6 : bB ≤ w8.heap.size + 5 := by omega
                  have nB7 : bB < w8.heap.size + 7 := by omega
                  have mB7 : bB < w8.heap.size + 1 + 1 + 1 + 1 + 1 + 1 + 1 := by omega
                  have lB7 : bB ≤ w8.heap.size + 6 := by omega
                  have nB8 : bB < w8.heap.size + 8 := by omega
                  have mB8 : bB < w8.heap.size + 1 + 1 + 1 + 1 + 1 + 1 + 1 + 1 := by omega
                  have lB8 : bB ≤ w8.heap.size + 7 := by omega
                  have nB9 : bB < w8.heap.size + 9 := by omega
                  have mB9 : bB < w8.heap.size + 1 + 1 + 1 + 1 + 1 + 1 + 1 + 1 + 1 := by omega
                  have lB9 : bB ≤ w8.heap.size + 8 := by omega
                  go_wp2
                  have HST := Lib.hid (arl_start HA8.out HF8.out)
                  obtain ⟨bW, hbW⟩ : ∃ bW, w8.heap.size + 1 + 1 + 1 + 1 + 1 + 1 + 1 + 1 + 1 = bW := ⟨_, rfl⟩
                  rw [show w8.heap.size + 9 = bW from hbW] at HST
                  rw [hbW]
                  clear x0 x1 x2 x3 x4 x5 x6 y0 y1 y2 y3 y4 y5 y6 hA hB nA1 nA2 mA2 lA2 nA3 mA3 lA3 nA4 mA4 lA4 nA5 mA5 lA5 nA6 mA6 lA6 nA7 mA7 lA7 nA8 mA8 lA8 nA9 mA9 lA9 nB1 nB2 mB2 lB2 nB3 mB3 lB3 nB4 mB4 lB4 nB5 mB5 lB5 nB6 mB6 lB6 nB7 mB7 lB7 nB8 mB8 lB8 nB9 mB9 lB9
                  have HAR := Lib.hid (around_all HTA.out HTB.out)
                  have HFT := Lib.hid (arF_fit s1 s2 HNA.out HNB.out)
                  obtain ⟨F, hF⟩ : ∃ F, arF a b = F := ⟨_, rfl⟩
                  obtain ⟨T, hT⟩ : ∃ T, arT (oneT ks) (oneT ms) = T := ⟨_, rfl⟩
                  have HLF := Lib.hid (show F.length = 6 by rw [← hF]; rfl)
                  have HLT := Lib.hid (show T.length = 6 by rw [← hT]; rfl)
                  rw [hF] at HST HAR HFT
                  rw [hT] at HST HAR
                  generalize arO.arC w8.heap.size = kc at HST
                  obtain ⟨B, hB⟩ : ∃ B, w8.heap.size + 10 = B := ⟨_, rfl⟩
                  rw [hB] at HST
                  have HB10 := Lib.hid hB
                  clear hbW hF hT hB HA8 HF8
                  go_loopw [15, 16, 17] (fun iv _ _ wi => ∃ i : Nat, iv = .int .i64 i ∧ i ≤ 6 ∧ ArL w wi bF bW B F kc T) (fun iv _ _ _ => 6 - (intOf iv).toNat)
                  case atStart => exact ⟨0, rfl, by decide, HST.out⟩
                  case round =>
                    clear HST
                    obtain ⟨i, rfl, hi, hal⟩ := hrel
                    have HAL := Lib.hid hal
                    by_cases hlt : i < 6
                    · have q1 : (i : Int) < 6 := by omega
                      obtain ⟨f1, f2⟩ := HFT.out i hlt
                      have har := HAR.out i hlt
                      have kx : wr.cell? ⟨bF, i, none⟩ = some (.string (F.getD i ⟨#[]⟩)) := by
                        refine (rowc hal.rf (j := i) ?_).1
                        have hl : i < F.length := by rw [HLF.out]; exact hlt
                        rw [List.getD_eq_getElem?_getD, List.getElem?_eq_getElem hl]
                        simp [hl]
                      obtain ⟨t, ht⟩ : ∃ t, F.getD i ⟨#[]⟩ = t := ⟨_, rfl⟩
                      obtain ⟨C, hC⟩ : ∃ C, T.getD i (.leaf 0) = C := ⟨_, rfl⟩
                      rw [ht] at kx f1 f2 har
                      rw [hC] at har
                      have HPT := Lib.hid (HP.out wr hal.below t f1 f2)
                      have HCE := Lib.hid hC
                      clear ht hC f2 hal
                      go_wp2_with fail
                      refine HPT.out.mono ?_
                      rintro e w9 ⟨hb9, hpa⟩
                      obtain ⟨kd, no, A2, l2, m2, A3, l3, m3, A4, l4, m4, A5, l5, m5, A6, l6, m6, n, rfl, hres⟩ := hpa.gen
                      obtain ⟨wa, hwa⟩ : ∃ wa, w9.alloc (.cells #[.int .i64 kd, .bool no, .slice A2 l2 m2, .slice A3 l3 m3, .slice A4 l4 m4, .slice A5 l5 m5, .slice A6 l6 m6] 28) = wa := ⟨_, rfl⟩
                      have ra : wa.heap[w9.heap.size]? = some (.cells #[.int .i64 kd, .bool no, .slice A2 l2 m2, .slice A3 l3 m3, .slice A4 l4 m4, .slice A5 l5 m5, .slice A6 l6 m6] 28 (0, 0)) := by rw [← hwa]; exact heap_alloc_last w9 _
                      have hb9a : Below w9.heap.size w9 wa := by rw [← hwa]; exact (Below.refl _ w9).alloc (Nat.le_refl _) _
                      have HALa := Lib.hid (HAL.out.next (hb9.trans (hb9a.mono hb9.size)))
                      have HB9 := Lib.hid hb9a
                      have HWA := Lib.hid hwa
                      have HRA := Lib.hid ra
                      clear hpa hwa ra hb9a hb9 HPT kx
                      go_wp2_with fail
                      rw [HWA.out]
                      refine (num_some n wa).mono ?_
                      rintro e wb ⟨rfl, hwb⟩
                      obtain rfl := hwb.symm
                      rcases har with hgr | hgr
                      · obtain ⟨rfl, rfl, rfl, hcm⟩ : n = 0 ∧ l5 = 1 ∧ kd = 5 ∧ CmdAt w9 (fun k => wr.heap.size ≤ k ∧ k < w9.heap.size) [.int .i64 kd, .bool no, .slice A2 l2 m2, .slice A3 l3 m3, .slice A4 l4 m4, .slice A5 l5 m5, .slice A6 l6 m6] (.mk 5 false [] [] [] [C] [] []) := by
                          rcases hres with ⟨ks', e1, e2, e3, e4, e5⟩ | ⟨e1, _⟩ | ⟨t', e1, e2⟩
                          · rw [hgr] at e1
                            cases e1
                            exact ⟨e2, e3, e4, e5⟩
                          · rw [hgr] at e1; cases e1
                          · rw [hgr] at e1; cases e1; exact absurd rfl (e2 _)
                        obtain ⟨_, rfl⟩ := hcm.head
                        obtain ⟨_, _, _, ⟨kc', hkc1, hkc2⟩, _⟩ := (hcm.move (S' := fun k => k < wa.heap.size) (fun k e => Nat.lt_of_lt_of_le e.2 HB9.out.size) fun k e => HB9.out.block k e.2).kids
                        obtain ⟨c, rfl, hc⟩ := kc_one hkc2
                        obtain ⟨gk, rfl, hgk⟩ := hkc1.addr (by simp)
                        have hil : i < T.length := by rw [HLT.out]; exact hlt
                        have p := kid_cells HALa.out.rd HALa.out.kids hil rfl
                        have t2 := HALa.out.kids.2 i hil
                        rw [HCE.out] at t2
                        have hcall := Lib.hid fun wi (hb : Below wa.heap.size wa wi) => Same_any (hc.move (W' := wi) (S' := fun k => k < wa.heap.size) (fun _ e => e) fun k e => hb.block k e) (t2.move (W' := wi) (S' := fun k => k < B) (fun _ e => e) fun k e => hb.block k (Nat.lt_of_lt_of_le e HALa.out.hB))
                        obtain ⟨kc0, nc0, F2, g2, i2, F3, g3, i3, F4, g4, i4, F5, g5, i5, F6, g6, i6, rfl⟩ := hc.lit
                        obtain ⟨kc1, nc1, H2, j2, k2, H3, j3, k3, H4, j4, k4, H5, j5, k5, H6, j6, k6, h8⟩ := t2.lit
                        rw [h8] at p hcall
                        have p0 := p 0 (by decide)
                        have p1 := p 1 (by decide)
                        have p2 := p 2 (by decide)
                        have p3 := p 3 (by decide)
                        have p4 := p 4 (by decide)
                        have p5 := p 5 (by decide)
                        have p6 := p 6 (by decide)
                        simp only [List.getD_cons_zero, List.getD_cons_succ, Nat.add_zero] at p0 p1 p2 p3 p4 p5 p6
                        have z0 := hkc1.1.cells 0 _ rfl
                        have z1 := hkc1.1.cells 1 _ rfl
                        have z2 := hkc1.1.cells 2 _ rfl
                        have z3 := hkc1.1.cells 3 _ rfl
                        have z4 := hkc1.1.cells 4 _ rfl
                        have z5 := hkc1.1.cells 5 _ rfl
                        have z6 := hkc1.1.cells 6 _ rfl
                        obtain ⟨x0, x1, x2, x3, x4, x5, x6⟩ := row7 HRA.out
                        clear p t2 h8 hc hkc1 hkc2 hcm hres
                        go_upto_region 28 with fail
                        go_still_tail 18, (by kernel_rfl)
                        still_call (num_some 0 _)
                        repeat still_step
                        refine wpStill_nil ?_
                        change wpList _ _ _ _ _ wa.drew
                        have HB5 := Lib.hid (below_drewN (Below.refl wa.heap.size wa) 1)
                        obtain ⟨wd, hwd⟩ : ∃ wd, wa.drew = wd := ⟨_, rfl⟩
                        have HB5 : Hid (Below wa.heap.size wa wd) := by rw [← hwd]; exact HB5.out
                        rw [hwd]
                        have HC := Lib.hid (hcall.out wd HB5.out)
                        have HS5 := Lib.hid (HALa.out.next HB5.out)
                        clear hwd hcall x0 x1 x2 x3 x4 x5 x6 p0 p1 p2 p3 p4 p5 p6 z0 z1 z2 z3 z4 z5 z6
                        go_wp2_with fail
                        refine HC.out.mono ?_
                        rintro e we ⟨rfl, hbe⟩
                        have HS6 := Lib.hid (HS5.out.next hbe)
                        clear hbe
                        go_wp2
                        exact ⟨⟨i + 1, by go_num, by omega, HS6.out⟩, by simp [intOf]; omega⟩
                      · obtain rfl : n = 42 := by
                          rcases hres with ⟨ks', e1, _⟩ | ⟨e1, _⟩ | ⟨t', e1, _⟩
                          · rw [hgr] at e1; cases e1
                          · rw [hgr] at e1; cases e1; rfl
                          · rw [hgr] at e1; cases e1
                        go_wp2
                        exact ⟨⟨i + 1, by go_num, by omega, HALa.out⟩, by simp [intOf]; omega⟩
                    · go_wp2
                      go_ret
                      exact ⟨rfl, HAL.out.below⟩
        · have hr1 : (n' != 0) = true := by unfold bne; rw [beq_eq_false_iff_ne.2 qn']; rfl
          go_wp2
          go_ret
          exact ⟨rfl, HB6.out⟩
      · have hr1 : (n != 0) = true := by unfold bne; rw [beq_eq_false_iff_ne.2 qn]; rfl
        go_wp2
        go_ret
        exact ⟨rfl, HB6.out⟩
end Go.Proofs.YtioddclglemlmaaGreatDoor
