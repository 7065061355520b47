/- What a quote, a brace or a bracket of a text begins, up to its end, in package lex; conditions: a text of at most 65,536 bytes. -/
import Derived.Test.YtioddclglemlmaaGreatDoorLexN
namespace Go.Proofs.YtioddclglemlmaaGreatDoor
open Go.RowKit

/-- on to a place, the bytes between into the word -/
def LxS.to (s : ByteArray) (x : LxS) (j : Nat) : LxS := ⟨j, x.word ++ sl s x.i j, x.op, x.out⟩
theorem LxS.to_self (s : ByteArray) (x : LxS) : x.to s x.i = x := by
  obtain ⟨i, wd, op, out⟩ := x
  simp [LxS.to, sl_nil]
theorem LxS.to_to (s : ByteArray) (x : LxS) (j k : Nat) (h1 : x.i ≤ j) (h2 : j ≤ k) (h3 : j ≤ s.size) : (x.to s j).to s k = x.to s k := by
  obtain ⟨i, wd, op, out⟩ := x
  simp only [LxS.to, List.append_assoc]
  rw [sl_app s i j k h1 h2 h3]
theorem next_to (xb : Nat) (s : ByteArray) (x : LxS) (w : World) (h : LxAt w xb s x) (hs : s.size ≤ 70000) (hlt : x.i < s.size) :
    Calls Tryz.prog 54 #[.pointer (some ⟨xb, 0, none⟩)] w fun e w' => e = .returned (.int .u8 (s.get! x.i).toNat) ∧ LxAt w' xb s (x.to s (x.i + 1)) ∧ Below xb w w' := by
  have := next_any xb s x w h hs hlt
  have e : x.to s (x.i + 1) = { x with i := x.i + 1, word := x.word ++ [s.get! x.i] } := by
    unfold LxS.to
    rw [sl_snoc s x.i x.i (Nat.le_refl _) hlt, sl_nil, List.nil_append]
  rw [e]; exact this
def iOf (W : World) (xb : Nat) : Nat := match W.cell? ⟨xb, 1, none⟩ with
  | some (.int _ q) => q.toNat
  | _ => 0
theorem iOf_at {W : World} {xb : Nat} {s : ByteArray} {x : LxS} (h : LxAt W xb s x) : iOf W xb = x.i := by
  obtain ⟨_, vw, vo, vt, h1, _⟩ := h
  unfold iOf; rw [(lx_row h1).2.1]; simp
/-- how a walk over a text ends: given up, or at a place, with what is open then -/
def Ans (xb : Nat) (s : ByteArray) (x : LxS) (op : List UInt8) (r : Except Int Nat) (e : Ending) (W' : World) : Prop := match r with
  | .error n => e = .panicked (stopV n)
  | .ok j => e = .returned (.tuple #[]) ∧ LxAt W' xb s { x.to s j with op := op }
set_option maxRecDepth 100000 in
theorem single_any (xb : Nat) (s : ByteArray) (x : LxS) (w : World) (h : LxAt w xb s x) (hs : s.size ≤ 70000) :
    Calls Tryz.prog 64 #[.pointer (some ⟨xb, 0, none⟩)] w fun e w' => Ans xb s x x.op (singF s (s.size + 1) x.i) e w' ∧ Below xb w w' := by
  obtain ⟨R, hR⟩ : ∃ R, singF s (s.size + 1) x.i = R := ⟨_, rfl⟩
  rw [hR]
  have HR := Lib.hid hR
  have HX := Lib.hid h
  have hfit := h.1.2.1
  clear hR h
  go_enter Tryz.func64, Tryz.ntmps64
  go_wp2
  go_loopw [] (fun wi => ∃ j f : Nat, x.i ≤ j ∧ j ≤ s.size ∧ s.size < f + j ∧ LxAt wi xb s (x.to s j) ∧ Below xb w wi ∧ Hid (singF s f j = R)) (fun wi => s.size - iOf wi xb)
  case atStart => exact ⟨x.i, s.size + 1, Nat.le_refl _, hfit, by omega, by rw [LxS.to_self]; exact HX.out, Below.refl _ _, HR⟩
  case round =>
    obtain ⟨j, f, hj, hj2, hf, hx, hb, hr⟩ := hrel
    obtain ⟨f, rfl⟩ : ∃ g, f = g + 1 := ⟨f - 1, by omega⟩
    have hst := hr.out
    rw [singF] at hst
    have hm := iOf_at hx
    have hm2 : (x.to s j).i = j := rfl
    rw [hm2] at hm
    by_cases hlt : j < s.size
    · rw [if_pos hlt] at hst
      have HN := Lib.hid (next_to xb s (x.to s j) wr hx hs hlt)
      rw [hm2, x.to_to s j (j + 1) hj (by omega) hj2] at HN
      obtain ⟨c, hc⟩ : ∃ c, s.get! j = c := ⟨_, rfl⟩
      rw [hc] at hst HN
      have HB := Lib.hid hb
      clear hr hc hx hb
      by_cases hq : c = 39
      · subst hq
        rw [if_pos rfl] at hst
        subst hst
        clear hm
        go_wp2_with fail
        refine HN.out.mono ?_
        rintro e w1 ⟨rfl, hx1, hb1⟩
        go_wp2
        first | go_end0 | refine bodyPost_ret (results_none rfl _ _ _) rfl ?_
        exact ⟨⟨rfl, hx1⟩, HB.out.trans hb1⟩
      · rw [if_neg hq] at hst
        have HS := Lib.hid hst
        have hne : ((c.toNat : Int) == 39) = false := beq_eq_false_iff_ne.2 (fun e => hq (UInt8.toNat_inj.1 (by show _ = 39; omega)))
        clear hst
        have HM := Lib.hid hm
        clear hm
        go_wp2_with fail
        refine HN.out.mono ?_
        rintro e w1 ⟨rfl, hx1, hb1⟩
        have hm1 := iOf_at hx1
        have hm3 : (x.to s (j + 1)).i = j + 1 := rfl
        rw [hm3] at hm1
        have HX1 := Lib.hid hx1
        have HB1 := Lib.hid (HB.out.trans hb1)
        have HM1 := Lib.hid hm1
        clear hx1 hb1 hm1
        go_wp2
        exact ⟨⟨j + 1, f, by omega, by omega, by omega, HX1.out, HB1.out, HS⟩, by rw [HM1.out, HM.out]; omega⟩
    · rw [if_neg hlt] at hst
      subst hst
      have HN := Lib.hid (next_end xb s (x.to s j) wr hx hlt)
      have HB := Lib.hid hb
      clear hm hr hx hb
      go_wp2_with fail
      refine HN.out.mono ?_
      rintro e w1 ⟨rfl, hb1⟩
      go_wp2
      exact ⟨rfl, rfl, HB.out.trans hb1⟩

theorem toEnd {W : World} {xb : Nat} {s : ByteArray} {x y : LxS} {o : List UInt8} {j : Nat} (hy : x.to s (x.i + 1) = y) (h : LxAt W xb s { (LxS.to s { y with op := o } j) with op := y.op }) (hj : y.i ≤ j) (hlt : x.i < s.size) (_ : True) : LxAt W xb s { (x.to s j) with op := x.op } := by
  subst hy
  have e : ({ (LxS.to s { (x.to s (x.i + 1)) with op := o } j) with op := (x.to s (x.i + 1)).op } : LxS) = { ((x.to s (x.i + 1)).to s j) with op := x.op } := rfl
  rw [e, x.to_to s (x.i + 1) j (by omega) hj (by omega)] at h
  exact h
def WithC (s : ByteArray) (f : Nat) : Prop := ∀ (xb : Nat) (x : LxS) (w : World) (o : List UInt8) (t e : UInt8), LxAt w xb s x → x.op = o ++ [t] → s.size < f + x.i → x.op.length ≤ 60 →
  Calls Tryz.prog 66 #[.pointer (some ⟨xb, 0, none⟩), .int .u8 e.toNat] w fun e' w' => Ans xb s x o (withF s f x.op.length t e x.i) e' w' ∧ Below xb w w'

set_option maxRecDepth 100000 in
set_option maxHeartbeats 1000000 in
theorem dollar_of (s : ByteArray) (f : Nat) (hW : WithC s f) (xb : Nat) (x : LxS) (w : World) (h : LxAt w xb s x) (hs : s.size ≤ 70000) (hl : x.op.length ≤ 60) (hf : s.size < f + x.i) :
    Calls Tryz.prog 67 #[.pointer (some ⟨xb, 0, none⟩)] w fun e w' => Ans xb s x x.op (dolP s (withF s f) x.op.length x.i) e w' ∧ Below xb w w' := by
  obtain ⟨R, hR⟩ : ∃ R, dolP s (withF s f) x.op.length x.i = R := ⟨_, rfl⟩
  rw [hR]
  unfold dolP ent at hR
  have HW := Lib.hid hW
  have HL := Lib.hid (looks_any xb s x 40 w h)
  by_cases hp : (decide (x.i < s.size) && s.get! x.i == 40) = true
  · rw [if_pos hp] at hR
    rw [hp] at HL
    have HR := Lib.hid hR
    have hlt : x.i < s.size := by simp only [Bool.and_eq_true, decide_eq_true_eq] at hp; exact hp.1
    clear hp hR h hW
    go_enter Tryz.func67, Tryz.ntmps67
    go_wp2_with fail
    refine HL.out.mono ?_
    rintro e w0 ⟨rfl, hx0, hb0⟩
    have HN := Lib.hid (next_to xb s x w0 hx0 hs hlt)
    clear hx0
    go_wp2_with fail
    refine HN.out.mono ?_
    rintro e w1 ⟨rfl, hx1, hb1⟩
    obtain ⟨y, hy⟩ : ∃ y, x.to s (x.i + 1) = y := ⟨_, rfl⟩
    rw [hy] at hx1
    have hyi : y.i = x.i + 1 := by rw [← hy]; rfl
    have hyo : y.op = x.op := by rw [← hy]; rfl
    rw [← hyi, ← hyo] at HR
    have hyl : y.op.length ≤ 60 := by rw [hyo]; exact hl
    have HY := Lib.hid (And.intro hyi hyo)
    clear hyo
    have HX1 := Lib.hid hx1
    have HB1 := Lib.hid (hb0.trans hb1)
    clear hx1 hb1 hb0 HN
    go_wp2_with fail
    refine (enter_any xb s y 40 _ HX1.out hyl).mono ?_
    rintro e w2 ⟨hq, hb2⟩
    have HB2 := Lib.hid (HB1.out.trans hb2)
    clear hb2
    rcases hq with ⟨h60, rfl⟩ | ⟨hlt60, rfl, hx2⟩
    · rw [if_pos h60] at HR
      obtain rfl := HR.out.symm
      go_wp2
      exact ⟨rfl, rfl, HB2.out⟩
    · rw [if_neg (Nat.ne_of_lt hlt60)] at HR
      have HH := Lib.hid (HW.out xb { y with op := y.op ++ [40] } w2 y.op 40 41 hx2 rfl (by show s.size < f + y.i; omega) (by simp; omega))
      have hl : (y.op ++ [40]).length = y.op.length + 1 := by simp
      simp only [hl] at HH
      have hR2 := HR.out
      rw [hR2] at HH
      clear hx2 hR2
      go_wp2_with fail
      refine HH.out.mono ?_
      rintro e w3 ⟨ha, hb3⟩
      have HB3 := Lib.hid (HB2.out.trans hb3)
      clear hb3
      cases R with
      | error n =>
        obtain rfl : e = .panicked (stopV n) := ha
        go_wp2
        exact ⟨rfl, rfl, HB3.out⟩
      | ok j =>
        have hRj := HR
        obtain ⟨rfl, hx3⟩ : e = .returned (.tuple #[]) ∧ _ := ha
        have HX3 := Lib.hid hx3
        clear hx3
        go_wp2
        first | go_end0 | refine bodyPost_ret (results_none rfl _ _ _) rfl ?_
        exact ⟨⟨rfl, toEnd hy HX3.out (with_ge s _ _ _ _ _ _ hRj.out).1 hlt trivial⟩, HB3.out⟩
  · rw [if_neg hp] at hR
    rw [Bool.not_eq_true] at hp
    rw [hp] at HL
    have HL2 := Lib.hid fun w h => looks_any xb s x 123 w h
    by_cases hp2 : (decide (x.i < s.size) && s.get! x.i == 123) = true
    · rw [if_pos hp2] at hR
      rw [hp2] at HL2
      have HR := Lib.hid hR
      have hlt : x.i < s.size := by simp only [Bool.and_eq_true, decide_eq_true_eq] at hp2; exact hp2.1
      clear hp hp2 hR h hW
      go_enter Tryz.func67, Tryz.ntmps67
      go_wp2_with fail
      refine HL.out.mono ?_
      rintro e wz ⟨rfl, hxz, hbz⟩
      go_wp2_with fail
      refine (HL2.out _ hxz).mono ?_
      rintro e w0 ⟨rfl, hx0, hb0⟩
      have HN := Lib.hid (next_to xb s x w0 hx0 hs hlt)
      clear hx0 hxz
      go_wp2_with fail
      refine HN.out.mono ?_
      rintro e w1 ⟨rfl, hx1, hb1⟩
      obtain ⟨y, hy⟩ : ∃ y, x.to s (x.i + 1) = y := ⟨_, rfl⟩
      rw [hy] at hx1
      have hyi : y.i = x.i + 1 := by rw [← hy]; rfl
      have hyo : y.op = x.op := by rw [← hy]; rfl
      rw [← hyi, ← hyo] at HR
      have hyl : y.op.length ≤ 60 := by rw [hyo]; exact hl
      have HY := Lib.hid (And.intro hyi hyo)
      clear hyo
      have HX1 := Lib.hid hx1
      have HB1 := Lib.hid (hbz.trans (hb0.trans hb1))
      clear hx1 hb1 hb0 hbz HN
      go_wp2_with fail
      refine (enter_any xb s y 123 _ HX1.out hyl).mono ?_
      rintro e w2 ⟨hq, hb2⟩
      have HB2 := Lib.hid (HB1.out.trans hb2)
      clear hb2
      rcases hq with ⟨h60, rfl⟩ | ⟨hlt60, rfl, hx2⟩
      · rw [if_pos h60] at HR
        obtain rfl := HR.out.symm
        go_wp2
        exact ⟨rfl, rfl, HB2.out⟩
      · rw [if_neg (Nat.ne_of_lt hlt60)] at HR
        have HH := Lib.hid (HW.out xb { y with op := y.op ++ [123] } w2 y.op 123 125 hx2 rfl (by show s.size < f + y.i; omega) (by simp; omega))
        have hl : (y.op ++ [123]).length = y.op.length + 1 := by simp
        simp only [hl] at HH
        have hR2 := HR.out
        rw [hR2] at HH
        clear hx2 hR2
        go_wp2_with fail
        refine HH.out.mono ?_
        rintro e w3 ⟨ha, hb3⟩
        have HB3 := Lib.hid (HB2.out.trans hb3)
        clear hb3
        cases R with
        | error n =>
          obtain rfl : e = .panicked (stopV n) := ha
          go_wp2
          exact ⟨rfl, rfl, HB3.out⟩
        | ok j =>
          have hRj := HR
          obtain ⟨rfl, hx3⟩ : e = .returned (.tuple #[]) ∧ _ := ha
          have HX3 := Lib.hid hx3
          clear hx3
          go_wp2
          first | go_end0 | refine bodyPost_ret (results_none rfl _ _ _) rfl ?_
          exact ⟨⟨rfl, toEnd hy HX3.out (with_ge s _ _ _ _ _ _ hRj.out).1 hlt trivial⟩, HB3.out⟩
    · rw [if_neg hp2] at hR
      rw [Bool.not_eq_true] at hp2
      rw [hp2] at HL2
      subst hR
      clear hp hp2 h hW
      go_enter Tryz.func67, Tryz.ntmps67
      go_wp2_with fail
      refine HL.out.mono ?_
      rintro e wz ⟨rfl, hxz, hbz⟩
      go_wp2_with fail
      refine (HL2.out _ hxz).mono ?_
      rintro e w0 ⟨rfl, hx0, hb0⟩
      have HX0 := Lib.hid hx0
      have HB0 := Lib.hid (hbz.trans hb0)
      clear hx0 hxz hbz hb0
      go_wp2
      first | go_end0 | refine bodyPost_ret (results_none rfl _ _ _) rfl ?_
      exact ⟨⟨rfl, by rw [LxS.to_self]; exact HX0.out⟩, HB0.out⟩

set_option maxRecDepth 100000 in
set_option maxHeartbeats 2000000 in
theorem quoted_of (s : ByteArray) (f : Nat) (hW : WithC s f) (xb : Nat) (x : LxS) (c : UInt8) (sg : Bool) (w : World) (h : LxAt w xb s x) (hs : s.size ≤ 70000) (hl : x.op.length ≤ 60) (hf : s.size < f + x.i) :
    Calls Tryz.prog 53 #[.pointer (some ⟨xb, 0, none⟩), .int .u8 c.toNat, .bool sg] w fun e w' => Ans xb s x x.op (quoP s (withF s f) x.op.length c sg x.i) e w' ∧ Below xb w w' := by
  obtain ⟨R, hR⟩ : ∃ R, quoP s (withF s f) x.op.length c sg x.i = R := ⟨_, rfl⟩
  rw [hR]
  unfold quoP at hR
  have HW := Lib.hid hW
  have HX0 := Lib.hid h
  have HB0 := Lib.hid (Below.refl xb w)
  by_cases h92 : c = 92
  · subst h92
    rw [if_pos rfl] at hR
    have HM := Lib.hid (more_any xb s x w h)
    by_cases hlt : x.i < s.size
    · rw [if_pos hlt] at hR
      rw [decide_eq_true hlt] at HM
      subst hR
      clear h hW
      go_enter Tryz.func53, Tryz.ntmps53
      go_wp2_with fail
      refine HM.out.mono ?_
      rintro e w1 ⟨rfl, hx1, hb1⟩
      have HN := Lib.hid (next_to xb s x w1 hx1 hs hlt)
      clear hx1
      go_wp2_with fail
      refine HN.out.mono ?_
      rintro e w2 ⟨rfl, hx2, hb2⟩
      have HX2 := Lib.hid hx2
      have HB2 := Lib.hid (hb1.trans hb2)
      clear hx2 hb1 hb2
      go_wp2
      first | go_end0 | refine bodyPost_ret (results_none rfl _ _ _) rfl ?_
      exact ⟨⟨rfl, HX2.out⟩, HB2.out⟩
    · rw [if_neg hlt] at hR
      rw [decide_eq_false hlt] at HM
      subst hR
      clear h hW
      go_enter Tryz.func53, Tryz.ntmps53
      go_wp2_with fail
      refine HM.out.mono ?_
      rintro e w1 ⟨rfl, hx1, hb1⟩
      have HX2 := Lib.hid hx1
      have HB2 := Lib.hid hb1
      clear hx1 hb1
      go_wp2
      first | go_end0 | refine bodyPost_ret (results_none rfl _ _ _) rfl ?_
      exact ⟨⟨rfl, by rw [LxS.to_self]; exact HX2.out⟩, HB2.out⟩
  rw [if_neg h92] at hR
  by_cases h39 : c = 39
  · subst h39
    rw [if_pos rfl] at hR
    cases sg
    · rw [if_neg (by decide)] at hR
      subst hR
      clear h hW
      go_enter Tryz.func53, Tryz.ntmps53
      go_wp2
      first | go_end0 | refine bodyPost_ret (results_none rfl _ _ _) rfl ?_
      exact ⟨⟨rfl, by rw [LxS.to_self]; exact HX0.out⟩, HB0.out⟩
    · rw [if_pos rfl] at hR
      have HS := Lib.hid (single_any xb s x w h hs)
      rw [hR] at HS
      clear hR h hW
      go_enter Tryz.func53, Tryz.ntmps53
      go_wp2_with fail
      refine HS.out.mono ?_
      rintro e w1 ⟨ha, hb1⟩
      have HB1 := Lib.hid hb1
      clear hb1
      cases R with
      | error n =>
        obtain rfl : e = .panicked (stopV n) := ha
        go_wp2
        exact ⟨rfl, rfl, HB1.out⟩
      | ok j =>
        obtain ⟨rfl, hx3⟩ : e = .returned (.tuple #[]) ∧ _ := ha
        have HX3 := Lib.hid hx3
        clear hx3
        go_wp2
        first | go_end0 | refine bodyPost_ret (results_none rfl _ _ _) rfl ?_
        exact ⟨⟨rfl, HX3.out⟩, HB1.out⟩
  rw [if_neg h39] at hR
  by_cases h34 : c = 34
  · subst h34
    rw [if_pos rfl] at hR
    unfold ent at hR
    have HR := Lib.hid hR
    clear hR h hW
    go_enter Tryz.func53, Tryz.ntmps53
    go_wp2_with fail
    refine (enter_any xb s x 34 _ HX0.out hl).mono ?_
    rintro e w2 ⟨hq, hb2⟩
    have HB2 := Lib.hid (HB0.out.trans hb2)
    clear hb2
    rcases hq with ⟨h60, rfl⟩ | ⟨hlt60, rfl, hx2⟩
    · rw [if_pos h60] at HR
      obtain rfl := HR.out.symm
      go_wp2
      exact ⟨rfl, rfl, HB2.out⟩
    · rw [if_neg (Nat.ne_of_lt hlt60)] at HR
      have HH := Lib.hid (HW.out xb { x with op := x.op ++ [34] } w2 x.op 34 34 hx2 rfl (by exact hf) (by simp; omega))
      have hl : (x.op ++ [34]).length = x.op.length + 1 := by simp
      simp only [hl] at HH
      have hR2 := HR.out
      rw [hR2] at HH
      clear hx2 hR2
      go_wp2_with fail
      refine HH.out.mono ?_
      rintro e w3 ⟨ha, hb3⟩
      have HB3 := Lib.hid (HB2.out.trans hb3)
      clear hb3
      cases R with
      | error n =>
        obtain rfl : e = .panicked (stopV n) := ha
        go_wp2
        exact ⟨rfl, rfl, HB3.out⟩
      | ok j =>
        have hRj := HR
        obtain ⟨rfl, hx3⟩ : e = .returned (.tuple #[]) ∧ _ := ha
        have HX3 := Lib.hid hx3
        clear hx3
        go_wp2
        first | go_end0 | refine bodyPost_ret (results_none rfl _ _ _) rfl ?_
        exact ⟨⟨rfl, HX3.out⟩, HB3.out⟩
  rw [if_neg h34] at hR
  by_cases h36 : c = 36
  · subst h36
    rw [if_pos rfl] at hR
    have HS := Lib.hid (dollar_of s f hW xb x w h hs hl hf)
    rw [hR] at HS
    clear hR h hW
    go_enter Tryz.func53, Tryz.ntmps53
    go_wp2_with fail
    refine HS.out.mono ?_
    rintro e w1 ⟨ha, hb1⟩
    have HB1 := Lib.hid hb1
    clear hb1
    cases R with
    | error n =>
      obtain rfl : e = .panicked (stopV n) := ha
      go_wp2
      exact ⟨rfl, rfl, HB1.out⟩
    | ok j =>
      obtain ⟨rfl, hx3⟩ : e = .returned (.tuple #[]) ∧ _ := ha
      have HX3 := Lib.hid hx3
      clear hx3
      go_wp2
      first | go_end0 | refine bodyPost_ret (results_none rfl _ _ _) rfl ?_
      exact ⟨⟨rfl, HX3.out⟩, HB1.out⟩
  rw [if_neg h36] at hR
  by_cases h96 : c = 96
  · subst h96
    rw [if_pos rfl] at hR
    unfold ent at hR
    have HR := Lib.hid hR
    clear hR h hW
    go_enter Tryz.func53, Tryz.ntmps53
    go_wp2_with fail
    refine (enter_any xb s x 96 _ HX0.out hl).mono ?_
    rintro e w2 ⟨hq, hb2⟩
    have HB2 := Lib.hid (HB0.out.trans hb2)
    clear hb2
    rcases hq with ⟨h60, rfl⟩ | ⟨hlt60, rfl, hx2⟩
    · rw [if_pos h60] at HR
      obtain rfl := HR.out.symm
      go_wp2
      exact ⟨rfl, rfl, HB2.out⟩
    · rw [if_neg (Nat.ne_of_lt hlt60)] at HR
      have HH := Lib.hid (HW.out xb { x with op := x.op ++ [96] } w2 x.op 96 96 hx2 rfl (by exact hf) (by simp; omega))
      have hl : (x.op ++ [96]).length = x.op.length + 1 := by simp
      simp only [hl] at HH
      have hR2 := HR.out
      rw [hR2] at HH
      clear hx2 hR2
      go_wp2_with fail
      refine HH.out.mono ?_
      rintro e w3 ⟨ha, hb3⟩
      have HB3 := Lib.hid (HB2.out.trans hb3)
      clear hb3
      cases R with
      | error n =>
        obtain rfl : e = .panicked (stopV n) := ha
        go_wp2
        exact ⟨rfl, rfl, HB3.out⟩
      | ok j =>
        have hRj := HR
        obtain ⟨rfl, hx3⟩ : e = .returned (.tuple #[]) ∧ _ := ha
        have HX3 := Lib.hid hx3
        clear hx3
        go_wp2
        first | go_end0 | refine bodyPost_ret (results_none rfl _ _ _) rfl ?_
        exact ⟨⟨rfl, HX3.out⟩, HB3.out⟩
  rw [if_neg h96] at hR
  subst hR
  have n92 : ((c.toNat : Int) == 92) = false := beq_eq_false_iff_ne.2 (fun e => h92 (UInt8.toNat_inj.1 (by show _ = 92; omega)))
  have n39 : ((c.toNat : Int) == 39) = false := beq_eq_false_iff_ne.2 (fun e => h39 (UInt8.toNat_inj.1 (by show _ = 39; omega)))
  have n34 : ((c.toNat : Int) == 34) = false := beq_eq_false_iff_ne.2 (fun e => h34 (UInt8.toNat_inj.1 (by show _ = 34; omega)))
  have n36 : ((c.toNat : Int) == 36) = false := beq_eq_false_iff_ne.2 (fun e => h36 (UInt8.toNat_inj.1 (by show _ = 36; omega)))
  have n96 : ((c.toNat : Int) == 96) = false := beq_eq_false_iff_ne.2 (fun e => h96 (UInt8.toNat_inj.1 (by show _ = 96; omega)))
  clear h hW
  go_enter Tryz.func53, Tryz.ntmps53
  go_wp2
  first | go_end0 | refine bodyPost_ret (results_none rfl _ _ _) rfl ?_
  exact ⟨⟨rfl, by rw [LxS.to_self]; exact HX0.out⟩, HB0.out⟩
end Go.Proofs.YtioddclglemlmaaGreatDoor
