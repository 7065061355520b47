/- The lexer's state that takes a word; conditions: a text of at most 65,536 bytes. -/
import Derived.Test.YtioddclglemlmaaGreatDoorLexTB
namespace Go.Proofs.YtioddclglemlmaaGreatDoor
open Go.RowKit

theorem sl_len (s : ByteArray) (i j : Nat) (hj : j ≤ s.size) : (sl s i j).length = j - i := by
  unfold sl; rw [List.length_drop, List.length_take, Array.length_toList]
  show min j s.size - i = _
  rw [Nat.min_eq_left hj]
/-- a word is told, or there are too many tokens, or it has no end -/
def WdA (xb : Nat) (s : ByteArray) (x : LxS) (r : Except Int Nat) (e : Ending) (W' : World) : Prop := match r with
  | .error n => e = .panicked (stopV n)
  | .ok j => x.out.length = 5000 ∧ e = .panicked (stopV 2) ∨ x.out.length < 5000 ∧ e = .returned (fnV 25) ∧ LxAt W' xb s ⟨j, sl s x.i j, x.op, x.out ++ [(1, mk (sl s x.i j))]⟩
def LxS.bare (x : LxS) : LxS := { x with word := [] }
theorem lx_bare {w : World} {xb : Nat} {s : ByteArray} {x : LxS} (h : LxAt w xb s x) : LxAt (w.setCell ⟨xb, 2, none⟩ (.slice none 0 0)) xb s x.bare ∧ Below xb w (w.setCell ⟨xb, 2, none⟩ (.slice none 0 0)) := by
  obtain ⟨hf, vw, vo, vt, h1, h2, h3, h4, h5⟩ := h
  exact lxs_word hf h1 h2 h3 h4 h5 (v' := .slice none 0 0) ⟨fun xb _ _ => Below.refl _ _, fun _ _ _ => rfl, fun k hk => by simp [Value.ownBlock] at hk⟩ [] (Nat.zero_le _) (OwnG.nil _ _ _ _)

set_option maxRecDepth 100000 in
set_option maxHeartbeats 4000000 in
theorem lword_any (xb : Nat) (s : ByteArray) (x : LxS) (w : World) (h : LxAt w xb s x) (hs : s.size ≤ 70000) (hlt : x.i < s.size) (hst : stopB (s.get! x.i) = false) (ho : x.op = []) (hl : x.out.length ≤ 5000) :
    Calls Tryz.prog 39 #[.pointer (some ⟨xb, 0, none⟩)] w fun e w' => WdA xb s x (wordF s (s.size + 1) x.i) e w' ∧ Below xb w w' := by
  obtain ⟨R, hR⟩ : ∃ R, wordF s (s.size + 1) x.i = R := ⟨_, rfl⟩
  rw [hR]
  have HR := Lib.hid hR
  have HX0 := Lib.hid (lx_bare h)
  have hfr : w.frozen? ⟨xb, 2, none⟩ = false ∧ ∃ v, w.cell? ⟨xb, 2, none⟩ = some v := by
    obtain ⟨_, vw, vo, vt, h1, _⟩ := h
    exact ⟨(lx_row h1).2.2.2.2.2.2.2.1, _, (lx_row h1).2.2.1⟩
  obtain ⟨f2, v2, c2⟩ := hfr
  clear hR h
  go_enter Tryz.func39, Tryz.ntmps39
  go_wp2
  refine wp_scope_straight ?_
  go_wp2
  refine wp_label ?_
  rename_i K hK
  refine hK _ _ ?_
  obtain ⟨w1, hw1⟩ : ∃ w1, w.setCell ⟨xb, 2, none⟩ (.slice none 0 0) = w1 := ⟨_, rfl⟩
  have hx1 := HX0.out
  rw [hw1] at hx1 ⊢
  have HX1 := Lib.hid hx1.1
  have HB1 := Lib.hid hx1.2
  clear hw1 hx1 HX0 f2 c2
  go_wp2
  go_loopw [] (fun wi => ∃ j f : Nat, x.i ≤ j ∧ j ≤ s.size ∧ s.size < f + j ∧ LxAt wi xb s (x.bare.to s j) ∧ Below xb w wi ∧ Hid (wordF s f j = R)) (fun wi => s.size - iOf wi xb)
  case atStart => exact ⟨x.i, s.size + 1, Nat.le_refl _, by omega, by omega, by rw [show x.bare.to s x.i = x.bare from x.bare.to_self s]; exact HX1.out, HB1.out, HR⟩
  case round =>
    obtain ⟨j, f, hj, hj2, hf, hx, hb, hr⟩ := hrel
    obtain ⟨f, rfl⟩ : ∃ g, f = g + 1 := ⟨f - 1, by omega⟩
    have hst2 := hr.out
    rw [wordF] at hst2
    have hm := iOf_at hx
    have hm2 : (x.bare.to s j).i = j := rfl
    rw [hm2] at hm
    have HM := Lib.hid hm
    have HM0 := Lib.hid (more_any xb s (x.bare.to s j) wr hx)
    rw [hm2] at HM0
    have HB := Lib.hid hb
    clear hr hx hm hm2 hb
    by_cases hlt2 : j < s.size
    · rw [decide_eq_true hlt2] at HM0
      have hb2 := bget s j hlt2
      obtain ⟨c, hc⟩ : ∃ c, s.get! j = c := ⟨_, rfl⟩
      rw [hc] at hb2 hst2
      have qj : (j : Int) < s.size := by omega
      have HJ : Hid (stopB c = true → x.i < j) := fun h => by
        rcases Nat.lt_or_eq_of_le hj with h2 | h2
        · exact h2
        · rw [h2, hc, h] at hst; cases hst
      clear hc hst
      go_wp2_with fail
      refine HM0.out.mono ?_
      rintro e w2 ⟨rfl, hx2, hb3⟩
      obtain ⟨c0, c1, f1⟩ := lx_cells hx2
      have c1' : w2.cell? ⟨xb, 1, none⟩ = some (.int .i64 j) := c1
      have HX2 := Lib.hid hx2
      have HB2 := Lib.hid (HB.out.trans hb3)
      clear hx2 hb3 HM0 HB c1
      go_wp2
      go_quiet (fail)
      have hx3 := HX2.out.drewN nq
      obtain ⟨w3, hw3⟩ : ∃ w3, w2.drewN nq = w3 := ⟨_, rfl⟩
      have hb3 := below_drewN HB2.out nq
      rw [hw3] at hx3 hb3 ⊢
      have HX3 := Lib.hid hx3
      have HB3 := Lib.hid hb3
      have HST := Lib.hid hst2
      clear hw3 hx3 hb3 c0 c1' f1 HX2 HB2 hst2
      by_cases h32 : c = 32
      · have hji := HJ.out (by rw [h32]; rfl)
        have hRj : R = .ok j := by have := HST.out; rw [if_neg (fun q => by rw [h32] at q; cases q.2)] at this; exact this.symm
        subst hRj
        have n32 : ((c.toNat : Int) == 32) = true := by rw [h32]; rfl
        clear h32
        obtain ⟨_, vw, vo, vt, hr1, hr2, _⟩ := HX3.out
        have hlen : (x.bare.to s j).word.length = j - x.i := by show ([] ++ sl s x.i j).length = _; rw [List.nil_append, sl_len s x.i j hj2]
        obtain ⟨g, cap, cur, rfl, hg1, hg2, hg3, hg4, hg5⟩ := hr2.at_ (by rw [hlen]; omega)
        have hcz := (lx_row hr1).2.2.1
        obtain ⟨tx, htx⟩ : ∃ tx, mk (sl s x.i j) = tx := ⟨_, rfl⟩
        obtain ⟨n, hn⟩ : ∃ n, (x.bare.to s j).word.length = n := ⟨_, rfl⟩
        have hcv := fun W (hh : ∀ j2 u, (u8s (x.bare.to s j).word)[j2]? = some u → W.cell? ⟨g, j2, none⟩ = some u) => conv_bytes W g cap (x.bare.to s j).word hh
        rw [show mk (x.bare.to s j).word = tx from htx] at hcv
        rw [hn] at hcz hcv
        have hcv2 := hcv _ hg5
        have HTX := Lib.hid htx
        clear hr1 hr2 hg1 hg2 hg3 hg4 hg5 hcv htx hn hlen
        go_wp2_with fail
        refine (token_any xb s (x.bare.to s j) 1 tx _ HX3.out hl).mono ?_
        rintro e wt ⟨ht, hbt⟩
        rcases ht with ⟨h5, rfl⟩ | ⟨h5, rfl, hxt⟩
        · have h5' := Lib.hid (show x.out.length = 5000 from h5)
          clear h5 hcv2 hcz
          go_wp2
          exact ⟨rfl, .inl ⟨h5'.out, rfl⟩, HB3.out.trans hbt⟩
        · have HXT := Lib.hid hxt
          have HBT := Lib.hid (HB3.out.trans hbt)
          have h5' := Lib.hid (show x.out.length < 5000 from h5)
          clear hxt hbt h5 hcv2 hcz
          go_wp2
          simp only [Exit.noGoto]
          go_ret
          exact ⟨.inr ⟨h5'.out, rfl, by rw [HTX.out]; exact HXT.out⟩, HBT.out⟩
      by_cases h9 : c = 9
      · have hji := HJ.out (by rw [h9]; rfl)
        have hRj : R = .ok j := by have := HST.out; rw [if_neg (fun q => by rw [h9] at q; cases q.2)] at this; exact this.symm
        subst hRj
        have n32 : ((c.toNat : Int) == 32) = false := by rw [h9]; rfl
        have n9 : ((c.toNat : Int) == 9) = true := by rw [h9]; rfl
        clear h32 h9
        obtain ⟨_, vw, vo, vt, hr1, hr2, _⟩ := HX3.out
        have hlen : (x.bare.to s j).word.length = j - x.i := by show ([] ++ sl s x.i j).length = _; rw [List.nil_append, sl_len s x.i j hj2]
        obtain ⟨g, cap, cur, rfl, hg1, hg2, hg3, hg4, hg5⟩ := hr2.at_ (by rw [hlen]; omega)
        have hcz := (lx_row hr1).2.2.1
        obtain ⟨tx, htx⟩ : ∃ tx, mk (sl s x.i j) = tx := ⟨_, rfl⟩
        obtain ⟨n, hn⟩ : ∃ n, (x.bare.to s j).word.length = n := ⟨_, rfl⟩
        have hcv := fun W (hh : ∀ j2 u, (u8s (x.bare.to s j).word)[j2]? = some u → W.cell? ⟨g, j2, none⟩ = some u) => conv_bytes W g cap (x.bare.to s j).word hh
        rw [show mk (x.bare.to s j).word = tx from htx] at hcv
        rw [hn] at hcz hcv
        have hcv2 := hcv _ hg5
        have HTX := Lib.hid htx
        clear hr1 hr2 hg1 hg2 hg3 hg4 hg5 hcv htx hn hlen
        go_wp2_with fail
        refine (token_any xb s (x.bare.to s j) 1 tx _ HX3.out hl).mono ?_
        rintro e wt ⟨ht, hbt⟩
        rcases ht with ⟨h5, rfl⟩ | ⟨h5, rfl, hxt⟩
        · have h5' := Lib.hid (show x.out.length = 5000 from h5)
          clear h5 hcv2 hcz
          go_wp2
          exact ⟨rfl, .inl ⟨h5'.out, rfl⟩, HB3.out.trans hbt⟩
        · have HXT := Lib.hid hxt
          have HBT := Lib.hid (HB3.out.trans hbt)
          have h5' := Lib.hid (show x.out.length < 5000 from h5)
          clear hxt hbt h5 hcv2 hcz
          go_wp2
          simp only [Exit.noGoto]
          go_ret
          exact ⟨.inr ⟨h5'.out, rfl, by rw [HTX.out]; exact HXT.out⟩, HBT.out⟩
      by_cases h10 : c = 10
      · have hji := HJ.out (by rw [h10]; rfl)
        have hRj : R = .ok j := by have := HST.out; rw [if_neg (fun q => by rw [h10] at q; cases q.2)] at this; exact this.symm
        subst hRj
        have n32 : ((c.toNat : Int) == 32) = false := by rw [h10]; rfl
        have n9 : ((c.toNat : Int) == 9) = false := by rw [h10]; rfl
        have n10 : ((c.toNat : Int) == 10) = true := by rw [h10]; rfl
        clear h32 h9 h10
        obtain ⟨_, vw, vo, vt, hr1, hr2, _⟩ := HX3.out
        have hlen : (x.bare.to s j).word.length = j - x.i := by show ([] ++ sl s x.i j).length = _; rw [List.nil_append, sl_len s x.i j hj2]
        obtain ⟨g, cap, cur, rfl, hg1, hg2, hg3, hg4, hg5⟩ := hr2.at_ (by rw [hlen]; omega)
        have hcz := (lx_row hr1).2.2.1
        obtain ⟨tx, htx⟩ : ∃ tx, mk (sl s x.i j) = tx := ⟨_, rfl⟩
        obtain ⟨n, hn⟩ : ∃ n, (x.bare.to s j).word.length = n := ⟨_, rfl⟩
        have hcv := fun W (hh : ∀ j2 u, (u8s (x.bare.to s j).word)[j2]? = some u → W.cell? ⟨g, j2, none⟩ = some u) => conv_bytes W g cap (x.bare.to s j).word hh
        rw [show mk (x.bare.to s j).word = tx from htx] at hcv
        rw [hn] at hcz hcv
        have hcv2 := hcv _ hg5
        have HTX := Lib.hid htx
        clear hr1 hr2 hg1 hg2 hg3 hg4 hg5 hcv htx hn hlen
        go_wp2_with fail
        refine (token_any xb s (x.bare.to s j) 1 tx _ HX3.out hl).mono ?_
        rintro e wt ⟨ht, hbt⟩
        rcases ht with ⟨h5, rfl⟩ | ⟨h5, rfl, hxt⟩
        · have h5' := Lib.hid (show x.out.length = 5000 from h5)
          clear h5 hcv2 hcz
          go_wp2
          exact ⟨rfl, .inl ⟨h5'.out, rfl⟩, HB3.out.trans hbt⟩
        · have HXT := Lib.hid hxt
          have HBT := Lib.hid (HB3.out.trans hbt)
          have h5' := Lib.hid (show x.out.length < 5000 from h5)
          clear hxt hbt h5 hcv2 hcz
          go_wp2
          simp only [Exit.noGoto]
          go_ret
          exact ⟨.inr ⟨h5'.out, rfl, by rw [HTX.out]; exact HXT.out⟩, HBT.out⟩
      by_cases h59 : c = 59
      · have hji := HJ.out (by rw [h59]; rfl)
        have hRj : R = .ok j := by have := HST.out; rw [if_neg (fun q => by rw [h59] at q; cases q.2)] at this; exact this.symm
        subst hRj
        have n32 : ((c.toNat : Int) == 32) = false := by rw [h59]; rfl
        have n9 : ((c.toNat : Int) == 9) = false := by rw [h59]; rfl
        have n10 : ((c.toNat : Int) == 10) = false := by rw [h59]; rfl
        have n59 : ((c.toNat : Int) == 59) = true := by rw [h59]; rfl
        clear h32 h9 h10 h59
        obtain ⟨_, vw, vo, vt, hr1, hr2, _⟩ := HX3.out
        have hlen : (x.bare.to s j).word.length = j - x.i := by show ([] ++ sl s x.i j).length = _; rw [List.nil_append, sl_len s x.i j hj2]
        obtain ⟨g, cap, cur, rfl, hg1, hg2, hg3, hg4, hg5⟩ := hr2.at_ (by rw [hlen]; omega)
        have hcz := (lx_row hr1).2.2.1
        obtain ⟨tx, htx⟩ : ∃ tx, mk (sl s x.i j) = tx := ⟨_, rfl⟩
        obtain ⟨n, hn⟩ : ∃ n, (x.bare.to s j).word.length = n := ⟨_, rfl⟩
        have hcv := fun W (hh : ∀ j2 u, (u8s (x.bare.to s j).word)[j2]? = some u → W.cell? ⟨g, j2, none⟩ = some u) => conv_bytes W g cap (x.bare.to s j).word hh
        rw [show mk (x.bare.to s j).word = tx from htx] at hcv
        rw [hn] at hcz hcv
        have hcv2 := hcv _ hg5
        have HTX := Lib.hid htx
        clear hr1 hr2 hg1 hg2 hg3 hg4 hg5 hcv htx hn hlen
        go_wp2_with fail
        refine (token_any xb s (x.bare.to s j) 1 tx _ HX3.out hl).mono ?_
        rintro e wt ⟨ht, hbt⟩
        rcases ht with ⟨h5, rfl⟩ | ⟨h5, rfl, hxt⟩
        · have h5' := Lib.hid (show x.out.length = 5000 from h5)
          clear h5 hcv2 hcz
          go_wp2
          exact ⟨rfl, .inl ⟨h5'.out, rfl⟩, HB3.out.trans hbt⟩
        · have HXT := Lib.hid hxt
          have HBT := Lib.hid (HB3.out.trans hbt)
          have h5' := Lib.hid (show x.out.length < 5000 from h5)
          clear hxt hbt h5 hcv2 hcz
          go_wp2
          simp only [Exit.noGoto]
          go_ret
          exact ⟨.inr ⟨h5'.out, rfl, by rw [HTX.out]; exact HXT.out⟩, HBT.out⟩
      by_cases h38 : c = 38
      · have hji := HJ.out (by rw [h38]; rfl)
        have hRj : R = .ok j := by have := HST.out; rw [if_neg (fun q => by rw [h38] at q; cases q.2)] at this; exact this.symm
        subst hRj
        have n32 : ((c.toNat : Int) == 32) = false := by rw [h38]; rfl
        have n9 : ((c.toNat : Int) == 9) = false := by rw [h38]; rfl
        have n10 : ((c.toNat : Int) == 10) = false := by rw [h38]; rfl
        have n59 : ((c.toNat : Int) == 59) = false := by rw [h38]; rfl
        have n38 : ((c.toNat : Int) == 38) = true := by rw [h38]; rfl
        clear h32 h9 h10 h59 h38
        obtain ⟨_, vw, vo, vt, hr1, hr2, _⟩ := HX3.out
        have hlen : (x.bare.to s j).word.length = j - x.i := by show ([] ++ sl s x.i j).length = _; rw [List.nil_append, sl_len s x.i j hj2]
        obtain ⟨g, cap, cur, rfl, hg1, hg2, hg3, hg4, hg5⟩ := hr2.at_ (by rw [hlen]; omega)
        have hcz := (lx_row hr1).2.2.1
        obtain ⟨tx, htx⟩ : ∃ tx, mk (sl s x.i j) = tx := ⟨_, rfl⟩
        obtain ⟨n, hn⟩ : ∃ n, (x.bare.to s j).word.length = n := ⟨_, rfl⟩
        have hcv := fun W (hh : ∀ j2 u, (u8s (x.bare.to s j).word)[j2]? = some u → W.cell? ⟨g, j2, none⟩ = some u) => conv_bytes W g cap (x.bare.to s j).word hh
        rw [show mk (x.bare.to s j).word = tx from htx] at hcv
        rw [hn] at hcz hcv
        have hcv2 := hcv _ hg5
        have HTX := Lib.hid htx
        clear hr1 hr2 hg1 hg2 hg3 hg4 hg5 hcv htx hn hlen
        go_wp2_with fail
        refine (token_any xb s (x.bare.to s j) 1 tx _ HX3.out hl).mono ?_
        rintro e wt ⟨ht, hbt⟩
        rcases ht with ⟨h5, rfl⟩ | ⟨h5, rfl, hxt⟩
        · have h5' := Lib.hid (show x.out.length = 5000 from h5)
          clear h5 hcv2 hcz
          go_wp2
          exact ⟨rfl, .inl ⟨h5'.out, rfl⟩, HB3.out.trans hbt⟩
        · have HXT := Lib.hid hxt
          have HBT := Lib.hid (HB3.out.trans hbt)
          have h5' := Lib.hid (show x.out.length < 5000 from h5)
          clear hxt hbt h5 hcv2 hcz
          go_wp2
          simp only [Exit.noGoto]
          go_ret
          exact ⟨.inr ⟨h5'.out, rfl, by rw [HTX.out]; exact HXT.out⟩, HBT.out⟩
      by_cases h124 : c = 124
      · have hji := HJ.out (by rw [h124]; rfl)
        have hRj : R = .ok j := by have := HST.out; rw [if_neg (fun q => by rw [h124] at q; cases q.2)] at this; exact this.symm
        subst hRj
        have n32 : ((c.toNat : Int) == 32) = false := by rw [h124]; rfl
        have n9 : ((c.toNat : Int) == 9) = false := by rw [h124]; rfl
        have n10 : ((c.toNat : Int) == 10) = false := by rw [h124]; rfl
        have n59 : ((c.toNat : Int) == 59) = false := by rw [h124]; rfl
        have n38 : ((c.toNat : Int) == 38) = false := by rw [h124]; rfl
        have n124 : ((c.toNat : Int) == 124) = true := by rw [h124]; rfl
        clear h32 h9 h10 h59 h38 h124
        obtain ⟨_, vw, vo, vt, hr1, hr2, _⟩ := HX3.out
        have hlen : (x.bare.to s j).word.length = j - x.i := by show ([] ++ sl s x.i j).length = _; rw [List.nil_append, sl_len s x.i j hj2]
        obtain ⟨g, cap, cur, rfl, hg1, hg2, hg3, hg4, hg5⟩ := hr2.at_ (by rw [hlen]; omega)
        have hcz := (lx_row hr1).2.2.1
        obtain ⟨tx, htx⟩ : ∃ tx, mk (sl s x.i j) = tx := ⟨_, rfl⟩
        obtain ⟨n, hn⟩ : ∃ n, (x.bare.to s j).word.length = n := ⟨_, rfl⟩
        have hcv := fun W (hh : ∀ j2 u, (u8s (x.bare.to s j).word)[j2]? = some u → W.cell? ⟨g, j2, none⟩ = some u) => conv_bytes W g cap (x.bare.to s j).word hh
        rw [show mk (x.bare.to s j).word = tx from htx] at hcv
        rw [hn] at hcz hcv
        have hcv2 := hcv _ hg5
        have HTX := Lib.hid htx
        clear hr1 hr2 hg1 hg2 hg3 hg4 hg5 hcv htx hn hlen
        go_wp2_with fail
        refine (token_any xb s (x.bare.to s j) 1 tx _ HX3.out hl).mono ?_
        rintro e wt ⟨ht, hbt⟩
        rcases ht with ⟨h5, rfl⟩ | ⟨h5, rfl, hxt⟩
        · have h5' := Lib.hid (show x.out.length = 5000 from h5)
          clear h5 hcv2 hcz
          go_wp2
          exact ⟨rfl, .inl ⟨h5'.out, rfl⟩, HB3.out.trans hbt⟩
        · have HXT := Lib.hid hxt
          have HBT := Lib.hid (HB3.out.trans hbt)
          have h5' := Lib.hid (show x.out.length < 5000 from h5)
          clear hxt hbt h5 hcv2 hcz
          go_wp2
          simp only [Exit.noGoto]
          go_ret
          exact ⟨.inr ⟨h5'.out, rfl, by rw [HTX.out]; exact HXT.out⟩, HBT.out⟩
      by_cases h40 : c = 40
      · have hji := HJ.out (by rw [h40]; rfl)
        have hRj : R = .ok j := by have := HST.out; rw [if_neg (fun q => by rw [h40] at q; cases q.2)] at this; exact this.symm
        subst hRj
        have n32 : ((c.toNat : Int) == 32) = false := by rw [h40]; rfl
        have n9 : ((c.toNat : Int) == 9) = false := by rw [h40]; rfl
        have n10 : ((c.toNat : Int) == 10) = false := by rw [h40]; rfl
        have n59 : ((c.toNat : Int) == 59) = false := by rw [h40]; rfl
        have n38 : ((c.toNat : Int) == 38) = false := by rw [h40]; rfl
        have n124 : ((c.toNat : Int) == 124) = false := by rw [h40]; rfl
        have n40 : ((c.toNat : Int) == 40) = true := by rw [h40]; rfl
        clear h32 h9 h10 h59 h38 h124 h40
        obtain ⟨_, vw, vo, vt, hr1, hr2, _⟩ := HX3.out
        have hlen : (x.bare.to s j).word.length = j - x.i := by show ([] ++ sl s x.i j).length = _; rw [List.nil_append, sl_len s x.i j hj2]
        obtain ⟨g, cap, cur, rfl, hg1, hg2, hg3, hg4, hg5⟩ := hr2.at_ (by rw [hlen]; omega)
        have hcz := (lx_row hr1).2.2.1
        obtain ⟨tx, htx⟩ : ∃ tx, mk (sl s x.i j) = tx := ⟨_, rfl⟩
        obtain ⟨n, hn⟩ : ∃ n, (x.bare.to s j).word.length = n := ⟨_, rfl⟩
        have hcv := fun W (hh : ∀ j2 u, (u8s (x.bare.to s j).word)[j2]? = some u → W.cell? ⟨g, j2, none⟩ = some u) => conv_bytes W g cap (x.bare.to s j).word hh
        rw [show mk (x.bare.to s j).word = tx from htx] at hcv
        rw [hn] at hcz hcv
        have hcv2 := hcv _ hg5
        have HTX := Lib.hid htx
        clear hr1 hr2 hg1 hg2 hg3 hg4 hg5 hcv htx hn hlen
        go_wp2_with fail
        refine (token_any xb s (x.bare.to s j) 1 tx _ HX3.out hl).mono ?_
        rintro e wt ⟨ht, hbt⟩
        rcases ht with ⟨h5, rfl⟩ | ⟨h5, rfl, hxt⟩
        · have h5' := Lib.hid (show x.out.length = 5000 from h5)
          clear h5 hcv2 hcz
          go_wp2
          exact ⟨rfl, .inl ⟨h5'.out, rfl⟩, HB3.out.trans hbt⟩
        · have HXT := Lib.hid hxt
          have HBT := Lib.hid (HB3.out.trans hbt)
          have h5' := Lib.hid (show x.out.length < 5000 from h5)
          clear hxt hbt h5 hcv2 hcz
          go_wp2
          simp only [Exit.noGoto]
          go_ret
          exact ⟨.inr ⟨h5'.out, rfl, by rw [HTX.out]; exact HXT.out⟩, HBT.out⟩
      by_cases h41 : c = 41
      · have hji := HJ.out (by rw [h41]; rfl)
        have hRj : R = .ok j := by have := HST.out; rw [if_neg (fun q => by rw [h41] at q; cases q.2)] at this; exact this.symm
        subst hRj
        have n32 : ((c.toNat : Int) == 32) = false := by rw [h41]; rfl
        have n9 : ((c.toNat : Int) == 9) = false := by rw [h41]; rfl
        have n10 : ((c.toNat : Int) == 10) = false := by rw [h41]; rfl
        have n59 : ((c.toNat : Int) == 59) = false := by rw [h41]; rfl
        have n38 : ((c.toNat : Int) == 38) = false := by rw [h41]; rfl
        have n124 : ((c.toNat : Int) == 124) = false := by rw [h41]; rfl
        have n40 : ((c.toNat : Int) == 40) = false := by rw [h41]; rfl
        have n41 : ((c.toNat : Int) == 41) = true := by rw [h41]; rfl
        clear h32 h9 h10 h59 h38 h124 h40 h41
        obtain ⟨_, vw, vo, vt, hr1, hr2, _⟩ := HX3.out
        have hlen : (x.bare.to s j).word.length = j - x.i := by show ([] ++ sl s x.i j).length = _; rw [List.nil_append, sl_len s x.i j hj2]
        obtain ⟨g, cap, cur, rfl, hg1, hg2, hg3, hg4, hg5⟩ := hr2.at_ (by rw [hlen]; omega)
        have hcz := (lx_row hr1).2.2.1
        obtain ⟨tx, htx⟩ : ∃ tx, mk (sl s x.i j) = tx := ⟨_, rfl⟩
        obtain ⟨n, hn⟩ : ∃ n, (x.bare.to s j).word.length = n := ⟨_, rfl⟩
        have hcv := fun W (hh : ∀ j2 u, (u8s (x.bare.to s j).word)[j2]? = some u → W.cell? ⟨g, j2, none⟩ = some u) => conv_bytes W g cap (x.bare.to s j).word hh
        rw [show mk (x.bare.to s j).word = tx from htx] at hcv
        rw [hn] at hcz hcv
        have hcv2 := hcv _ hg5
        have HTX := Lib.hid htx
        clear hr1 hr2 hg1 hg2 hg3 hg4 hg5 hcv htx hn hlen
        go_wp2_with fail
        refine (token_any xb s (x.bare.to s j) 1 tx _ HX3.out hl).mono ?_
        rintro e wt ⟨ht, hbt⟩
        rcases ht with ⟨h5, rfl⟩ | ⟨h5, rfl, hxt⟩
        · have h5' := Lib.hid (show x.out.length = 5000 from h5)
          clear h5 hcv2 hcz
          go_wp2
          exact ⟨rfl, .inl ⟨h5'.out, rfl⟩, HB3.out.trans hbt⟩
        · have HXT := Lib.hid hxt
          have HBT := Lib.hid (HB3.out.trans hbt)
          have h5' := Lib.hid (show x.out.length < 5000 from h5)
          clear hxt hbt h5 hcv2 hcz
          go_wp2
          simp only [Exit.noGoto]
          go_ret
          exact ⟨.inr ⟨h5'.out, rfl, by rw [HTX.out]; exact HXT.out⟩, HBT.out⟩
      by_cases h60 : c = 60
      · have hji := HJ.out (by rw [h60]; rfl)
        have hRj : R = .ok j := by have := HST.out; rw [if_neg (fun q => by rw [h60] at q; cases q.2)] at this; exact this.symm
        subst hRj
        have n32 : ((c.toNat : Int) == 32) = false := by rw [h60]; rfl
        have n9 : ((c.toNat : Int) == 9) = false := by rw [h60]; rfl
        have n10 : ((c.toNat : Int) == 10) = false := by rw [h60]; rfl
        have n59 : ((c.toNat : Int) == 59) = false := by rw [h60]; rfl
        have n38 : ((c.toNat : Int) == 38) = false := by rw [h60]; rfl
        have n124 : ((c.toNat : Int) == 124) = false := by rw [h60]; rfl
        have n40 : ((c.toNat : Int) == 40) = false := by rw [h60]; rfl
        have n41 : ((c.toNat : Int) == 41) = false := by rw [h60]; rfl
        have n60 : ((c.toNat : Int) == 60) = true := by rw [h60]; rfl
        clear h32 h9 h10 h59 h38 h124 h40 h41 h60
        obtain ⟨_, vw, vo, vt, hr1, hr2, _⟩ := HX3.out
        have hlen : (x.bare.to s j).word.length = j - x.i := by show ([] ++ sl s x.i j).length = _; rw [List.nil_append, sl_len s x.i j hj2]
        obtain ⟨g, cap, cur, rfl, hg1, hg2, hg3, hg4, hg5⟩ := hr2.at_ (by rw [hlen]; omega)
        have hcz := (lx_row hr1).2.2.1
        obtain ⟨tx, htx⟩ : ∃ tx, mk (sl s x.i j) = tx := ⟨_, rfl⟩
        obtain ⟨n, hn⟩ : ∃ n, (x.bare.to s j).word.length = n := ⟨_, rfl⟩
        have hcv := fun W (hh : ∀ j2 u, (u8s (x.bare.to s j).word)[j2]? = some u → W.cell? ⟨g, j2, none⟩ = some u) => conv_bytes W g cap (x.bare.to s j).word hh
        rw [show mk (x.bare.to s j).word = tx from htx] at hcv
        rw [hn] at hcz hcv
        have hcv2 := hcv _ hg5
        have HTX := Lib.hid htx
        clear hr1 hr2 hg1 hg2 hg3 hg4 hg5 hcv htx hn hlen
        go_wp2_with fail
        refine (token_any xb s (x.bare.to s j) 1 tx _ HX3.out hl).mono ?_
        rintro e wt ⟨ht, hbt⟩
        rcases ht with ⟨h5, rfl⟩ | ⟨h5, rfl, hxt⟩
        · have h5' := Lib.hid (show x.out.length = 5000 from h5)
          clear h5 hcv2 hcz
          go_wp2
          exact ⟨rfl, .inl ⟨h5'.out, rfl⟩, HB3.out.trans hbt⟩
        · have HXT := Lib.hid hxt
          have HBT := Lib.hid (HB3.out.trans hbt)
          have h5' := Lib.hid (show x.out.length < 5000 from h5)
          clear hxt hbt h5 hcv2 hcz
          go_wp2
          simp only [Exit.noGoto]
          go_ret
          exact ⟨.inr ⟨h5'.out, rfl, by rw [HTX.out]; exact HXT.out⟩, HBT.out⟩
      by_cases h62 : c = 62
      · have hji := HJ.out (by rw [h62]; rfl)
        have hRj : R = .ok j := by have := HST.out; rw [if_neg (fun q => by rw [h62] at q; cases q.2)] at this; exact this.symm
        subst hRj
        have n32 : ((c.toNat : Int) == 32) = false := by rw [h62]; rfl
        have n9 : ((c.toNat : Int) == 9) = false := by rw [h62]; rfl
        have n10 : ((c.toNat : Int) == 10) = false := by rw [h62]; rfl
        have n59 : ((c.toNat : Int) == 59) = false := by rw [h62]; rfl
        have n38 : ((c.toNat : Int) == 38) = false := by rw [h62]; rfl
        have n124 : ((c.toNat : Int) == 124) = false := by rw [h62]; rfl
        have n40 : ((c.toNat : Int) == 40) = false := by rw [h62]; rfl
        have n41 : ((c.toNat : Int) == 41) = false := by rw [h62]; rfl
        have n60 : ((c.toNat : Int) == 60) = false := by rw [h62]; rfl
        have n62 : ((c.toNat : Int) == 62) = true := by rw [h62]; rfl
        clear h32 h9 h10 h59 h38 h124 h40 h41 h60 h62
        obtain ⟨_, vw, vo, vt, hr1, hr2, _⟩ := HX3.out
        have hlen : (x.bare.to s j).word.length = j - x.i := by show ([] ++ sl s x.i j).length = _; rw [List.nil_append, sl_len s x.i j hj2]
        obtain ⟨g, cap, cur, rfl, hg1, hg2, hg3, hg4, hg5⟩ := hr2.at_ (by rw [hlen]; omega)
        have hcz := (lx_row hr1).2.2.1
        obtain ⟨tx, htx⟩ : ∃ tx, mk (sl s x.i j) = tx := ⟨_, rfl⟩
        obtain ⟨n, hn⟩ : ∃ n, (x.bare.to s j).word.length = n := ⟨_, rfl⟩
        have hcv := fun W (hh : ∀ j2 u, (u8s (x.bare.to s j).word)[j2]? = some u → W.cell? ⟨g, j2, none⟩ = some u) => conv_bytes W g cap (x.bare.to s j).word hh
        rw [show mk (x.bare.to s j).word = tx from htx] at hcv
        rw [hn] at hcz hcv
        have hcv2 := hcv _ hg5
        have HTX := Lib.hid htx
        clear hr1 hr2 hg1 hg2 hg3 hg4 hg5 hcv htx hn hlen
        go_wp2_with fail
        refine (token_any xb s (x.bare.to s j) 1 tx _ HX3.out hl).mono ?_
        rintro e wt ⟨ht, hbt⟩
        rcases ht with ⟨h5, rfl⟩ | ⟨h5, rfl, hxt⟩
        · have h5' := Lib.hid (show x.out.length = 5000 from h5)
          clear h5 hcv2 hcz
          go_wp2
          exact ⟨rfl, .inl ⟨h5'.out, rfl⟩, HB3.out.trans hbt⟩
        · have HXT := Lib.hid hxt
          have HBT := Lib.hid (HB3.out.trans hbt)
          have h5' := Lib.hid (show x.out.length < 5000 from h5)
          clear hxt hbt h5 hcv2 hcz
          go_wp2
          simp only [Exit.noGoto]
          go_ret
          exact ⟨.inr ⟨h5'.out, rfl, by rw [HTX.out]; exact HXT.out⟩, HBT.out⟩
      have hns : stopB c = false := by unfold stopB; simp [h32, h9, h10, h59, h38, h124, h40, h41, h60, h62]
      have n32 : ((c.toNat : Int) == 32) = false := (u8_beq c 32).trans (beq_eq_false_iff_ne.2 h32)
      have n9 : ((c.toNat : Int) == 9) = false := (u8_beq c 9).trans (beq_eq_false_iff_ne.2 h9)
      have n10 : ((c.toNat : Int) == 10) = false := (u8_beq c 10).trans (beq_eq_false_iff_ne.2 h10)
      have n59 : ((c.toNat : Int) == 59) = false := (u8_beq c 59).trans (beq_eq_false_iff_ne.2 h59)
      have n38 : ((c.toNat : Int) == 38) = false := (u8_beq c 38).trans (beq_eq_false_iff_ne.2 h38)
      have n124 : ((c.toNat : Int) == 124) = false := (u8_beq c 124).trans (beq_eq_false_iff_ne.2 h124)
      have n40 : ((c.toNat : Int) == 40) = false := (u8_beq c 40).trans (beq_eq_false_iff_ne.2 h40)
      have n41 : ((c.toNat : Int) == 41) = false := (u8_beq c 41).trans (beq_eq_false_iff_ne.2 h41)
      have n60 : ((c.toNat : Int) == 60) = false := (u8_beq c 60).trans (beq_eq_false_iff_ne.2 h60)
      have n62 : ((c.toNat : Int) == 62) = false := (u8_beq c 62).trans (beq_eq_false_iff_ne.2 h62)
      clear h32 h9 h10 h59 h38 h124 h40 h41 h60 h62
      obtain ⟨r, hr⟩ : ∃ r, quoP s (withF s (s.size + 1)) 0 c true (j + 1) = r := ⟨_, rfl⟩
      have hst3 := HST.out
      rw [if_pos ⟨hlt2, hns⟩, hr] at hst3
      have HRR := Lib.hid hr
      have HS3 := Lib.hid hst3
      have HGE : Hid (∀ jn, r = .ok jn → j + 1 ≤ jn ∧ jn ≤ s.size) := fun jn e => quo_ge s _ (with_ge s _) _ _ _ _ _ (by omega) (hr.trans e)
      have HN := Lib.hid (next_to xb s (x.bare.to s j) w3 HX3.out hs hlt2)
      have hm2 : (x.bare.to s j).i = j := rfl
      rw [hm2, x.bare.to_to s j (j + 1) hj (by omega) hj2] at HN
      clear hm2
      have HC := Lib.hid ((bget s j hlt2).symm.trans hb2)
      rw [HC.out] at HN
      clear hr hst3 HST hns HJ
      go_wp2_with fail
      refine HN.out.mono ?_
      rintro e w4 ⟨rfl, hx4, hb4⟩
      have HX4 := Lib.hid hx4
      have HB4 := Lib.hid (HB3.out.trans hb4)
      clear hx4 hb4
      have hQ1 := quoted_of s (s.size + 1) (within_all s hs _) xb (x.bare.to s (j + 1)) c true w4 HX4.out hs (by show x.op.length ≤ 60; rw [ho]; exact Nat.zero_le _) (by show s.size < s.size + 1 + (j + 1); omega)
      rw [show quoP s (withF s (s.size + 1)) (x.bare.to s (j + 1)).op.length c true (x.bare.to s (j + 1)).i = r from by rw [← HRR.out]; show quoP s (withF s (s.size + 1)) x.op.length c true (j + 1) = _; rw [ho]; rfl] at hQ1
      have HQ2 := Lib.hid hQ1
      clear hQ1
      go_wp2_with fail
      refine HQ2.out.mono ?_
      rintro ez wz ⟨ha, hbz⟩
      have HBz := Lib.hid (HB4.out.trans hbz)
      clear hbz
      cases r with
      | error n =>
        obtain rfl : ez = .panicked (stopV n) := ha
        have hRR : Except.error n = R := HS3.out
        subst hRR
        go_wp2
        exact ⟨rfl, rfl, HBz.out⟩
      | ok jn =>
        have hge := HGE.out jn rfl
        obtain ⟨rfl, hx5⟩ : ez = .returned (.tuple #[]) ∧ _ := ha
        have hx6 : LxAt wz xb s ((x.bare.to s (j + 1)).to s jn) := hx5
        rw [x.bare.to_to s (j + 1) jn (by show x.i ≤ j + 1; omega) hge.1 hlt2] at hx6
        have HX5 := Lib.hid hx6
        have hmz := iOf_at hx6
        have HMZ := Lib.hid (show iOf wz xb = jn from hmz)
        have HS : Hid (wordF s f jn = R) := HS3.out
        clear hx5 hx6 hmz
        go_wp2
        exact ⟨⟨jn, f, by omega, by omega, by omega, HX5.out, HBz.out, HS⟩, by rw [HMZ.out, HM.out]; omega⟩
    · rw [decide_eq_false hlt2] at HM0
      have hji : x.i < j := by omega
      have hRj : R = .ok j := by rw [if_neg (fun q => hlt2 q.1)] at hst2; exact hst2.symm
      subst hRj
      clear hst2
      go_wp2_with fail
      refine HM0.out.mono ?_
      rintro e w2 ⟨rfl, hx2, hb3⟩
      have HX2 := Lib.hid hx2
      have HB2 := Lib.hid (HB.out.trans hb3)
      clear hx2 hb3 HM0 HB
      obtain ⟨_, vw, vo, vt, hr1, hr2, _⟩ := HX2.out
      have hlen : (x.bare.to s j).word.length = j - x.i := by show ([] ++ sl s x.i j).length = _; rw [List.nil_append, sl_len s x.i j hj2]
      obtain ⟨g, cap, cur, rfl, hg1, hg2, hg3, hg4, hg5⟩ := hr2.at_ (by rw [hlen]; omega)
      have hcz := (lx_row hr1).2.2.1
      obtain ⟨tx, htx⟩ : ∃ tx, mk (sl s x.i j) = tx := ⟨_, rfl⟩
      obtain ⟨n, hn⟩ : ∃ n, (x.bare.to s j).word.length = n := ⟨_, rfl⟩
      have hcv := fun W (hh : ∀ j2 u, (u8s (x.bare.to s j).word)[j2]? = some u → W.cell? ⟨g, j2, none⟩ = some u) => conv_bytes W g cap (x.bare.to s j).word hh
      rw [show mk (x.bare.to s j).word = tx from htx] at hcv
      rw [hn] at hcz hcv
      have hcv2 := hcv _ hg5
      have HTX := Lib.hid htx
      clear hr1 hr2 hg1 hg2 hg3 hg4 hg5 hcv htx hn hlen
      go_wp2_with fail
      refine (token_any xb s (x.bare.to s j) 1 tx _ HX2.out hl).mono ?_
      rintro e wt ⟨ht, hbt⟩
      rcases ht with ⟨h5, rfl⟩ | ⟨h5, rfl, hxt⟩
      · have h5' := Lib.hid (show x.out.length = 5000 from h5)
        clear h5 hcv2 hcz
        go_wp2
        exact ⟨rfl, .inl ⟨h5'.out, rfl⟩, HB2.out.trans hbt⟩
      · have HXT := Lib.hid hxt
        have HBT := Lib.hid (HB2.out.trans hbt)
        have h5' := Lib.hid (show x.out.length < 5000 from h5)
        clear hxt hbt h5 hcv2 hcz
        go_wp2
        simp only [Exit.noGoto]
        go_ret
        exact ⟨.inr ⟨h5'.out, rfl, by rw [HTX.out]; exact HXT.out⟩, HBT.out⟩
end Go.Proofs.YtioddclglemlmaaGreatDoor
