/- Going over what is open up to its end, in package lex. Going over what is open up to its end, in package lex: within a bracket. Going over what is open up to its end, in package lex: within a backquote. Going over what is open up to its end, in package lex: within double quotes, and all of it. Conditions: as each part says. -/
import Derived.Test.YtioddclglemlmaaGreatDoorLexW
/- Going over what is open up to its end, in package lex; conditions: a text of at most 65,536 bytes. -/
namespace Go.Proofs.YtioddclglemlmaaGreatDoor
open Go.RowKit

theorem toIn {W : World} {xb : Nat} {s : ByteArray} {x : LxS} {o op : List UInt8} {i j : Nat} (h : LxAt W xb s { (LxS.to s { (x.to s i) with op := o } j) with op := op }) (hi : x.i ≤ i) (hj : i ≤ j) (hs : i ≤ s.size) (ho : op = x.op) : LxAt W xb s (x.to s j) := by
  have e : ({ (LxS.to s { (x.to s i) with op := o } j) with op := op } : LxS) = { ((x.to s i).to s j) with op := op } := rfl
  rw [e, x.to_to s i j hi hj hs, ho] at h
  exact h
theorem u8_beq (a b : UInt8) : (((a.toNat : Int) == (b.toNat : Int)) : Bool) = (a == b) := by
  by_cases q : a = b
  · subst q; simp
  · rw [beq_eq_false_iff_ne.2 q, beq_eq_false_iff_ne.2]
    intro q2; exact q (UInt8.toNat_inj.1 (by omega))

set_option maxRecDepth 100000 in
set_option maxHeartbeats 4000000 in
theorem within_o (s : ByteArray) (hs : s.size ≤ 70000) (f : Nat) (IH0 : ∀ g, g < f → WithC s g) (xb : Nat) (x : LxS) (w : World) (o : List UInt8) (t e : UInt8) (h : LxAt w xb s x) (ho : x.op = o ++ [t]) (hf : s.size < f + x.i) (hol : x.op.length ≤ 60) (h40 : t ≠ 40) (h96 : t ≠ 96) (h34 : t ≠ 34) :
    Calls Tryz.prog 66 #[.pointer (some ⟨xb, 0, none⟩), .int .u8 e.toNat] w fun e' w' => Ans xb s x o (withF s f x.op.length t e x.i) e' w' ∧ Below xb w w' := by
  obtain ⟨R, hR⟩ : ∃ R, withF s f x.op.length t e x.i = R := ⟨_, rfl⟩
  rw [hR]
  have HR := Lib.hid hR
  have HX := Lib.hid h
  have IH := Lib.hid IH0
  have hfit := h.1.2.1
  clear hR h IH0
  go_enter Tryz.func66, Tryz.ntmps66
  go_wp2
  go_loopw [4] (fun _ wi => ∃ j g : Nat, x.i ≤ j ∧ j ≤ s.size ∧ s.size < g + j ∧ g ≤ f ∧ LxAt wi xb s (x.to s j) ∧ Below xb w wi ∧ Hid (withF s g x.op.length t e j = R)) (fun _ wi => s.size - iOf wi xb)
  case atStart => exact ⟨x.i, f, Nat.le_refl _, hfit, hf, Nat.le_refl _, by rw [LxS.to_self]; exact HX.out, Below.refl _ _, HR⟩
  case round =>
    obtain ⟨j, g, hj, hj2, hg, hgf, hx, hb, hr⟩ := hrel
    obtain ⟨g, rfl⟩ : ∃ k, g = k + 1 := ⟨g - 1, by omega⟩
    have hst := hr.out
    rw [withF] at hst
    have hm := iOf_at hx
    have hm2 : (x.to s j).i = j := rfl
    rw [hm2] at hm
    by_cases hlt : j < s.size
    · rw [if_pos hlt] at hst
      have HN := Lib.hid (next_to xb s (x.to s j) wr hx hs hlt)
      rw [hm2, x.to_to s j (j + 1) hj (by omega) hj2] at HN
      obtain ⟨c, hc⟩ : ∃ c, s.get! j = c := ⟨_, rfl⟩
      rw [hc] at hst HN
      have HB := Lib.hid hb
      have HM := Lib.hid hm
      have HO := Lib.hid ho
      clear hr hc hx hb hm hm2
      by_cases hce : c = e
      · subst hce
        rw [if_pos rfl] at hst
        subst hst
        go_wp2_with fail
        refine HN.out.mono ?_
        rintro e1 w1 ⟨rfl, hx1, hb1⟩
        have HX1 := Lib.hid hx1
        have HB1 := Lib.hid (HB.out.trans hb1)
        clear hx1 hb1
        go_wp2_with fail
        refine (pop_any xb s (x.to s (j + 1)) o t _ HX1.out ho).mono ?_
        rintro e2 w2 ⟨rfl, hx2, hb2⟩
        have HX2 := Lib.hid hx2
        have HB2 := Lib.hid (HB1.out.trans hb2)
        clear hx2 hb2
        go_wp2
        first | go_end0 | refine bodyPost_ret (results_none rfl _ _ _) rfl ?_
        exact ⟨⟨rfl, HX2.out⟩, HB2.out⟩
      · rw [if_neg hce] at hst
        have hce2 : ((c.toNat : Int) == (e.toNat : Int)) = false := by rw [u8_beq]; exact beq_eq_false_iff_ne.2 hce
        obtain ⟨r, hr⟩ : ∃ r, stepW s (withF s g) x.op.length t c (j + 1) = r := ⟨_, rfl⟩
        rw [hr] at hst
        have HST := Lib.hid hst
        have hge : ∀ jn, r = .ok jn → j + 1 ≤ jn ∧ jn ≤ s.size := fun jn e => step_ge s _ (with_ge s g) _ _ _ _ _ (by omega) (hr.trans e)
        have HGE := Lib.hid hge
        clear hst hge
        unfold stepW at hr
        rw [if_neg (fun k => h40 k.1), if_neg (fun k => h96 k.1)] at hr
        have t40 : ((t.toNat : Int) == 40) = false := by have := u8_beq t 40; rw [beq_eq_false_iff_ne.2 h40] at this; exact this
        have t96 : ((t.toNat : Int) == 96) = false := by have := u8_beq t 96; rw [beq_eq_false_iff_ne.2 h96] at this; exact this
        have t34 : ((t.toNat : Int) == 34) = false := by have := u8_beq t 34; rw [beq_eq_false_iff_ne.2 h34] at this; exact this
        have b34 : ((t.toNat : Int) != 34) = true := by unfold bne; rw [t34]; rfl
        rw [show (t != 34) = true by simpa using h34] at hr
        have HRR := Lib.hid hr
        clear hr
        go_wp2_with fail
        refine HN.out.mono ?_
        rintro e1 w1 ⟨rfl, hx1, hb1⟩
        have HX1 := Lib.hid hx1
        have HB1 := Lib.hid (HB.out.trans hb1)
        clear hx1 hb1
        go_wp2_with fail
        refine (top_any xb s (x.to s (j + 1)) o t _ HX1.out ho).mono ?_
        rintro e2 w2 ⟨rfl, hx2, hb2⟩
        have HX2 := Lib.hid hx2
        have HB2 := Lib.hid (HB1.out.trans hb2)
        clear hx2 hb2
        go_wp2_with fail
        refine (top_any xb s (x.to s (j + 1)) o t _ HX2.out ho).mono ?_
        rintro e3 w3 ⟨rfl, hx3, hb3⟩
        have HX3 := Lib.hid hx3
        have HB3 := Lib.hid (HB2.out.trans hb3)
        clear hx3 hb3
        go_wp2_with fail
        refine (top_any xb s (x.to s (j + 1)) o t _ HX3.out ho).mono ?_
        rintro e4 w4 ⟨rfl, hx4, hb4⟩
        have HX4 := Lib.hid hx4
        have HB4 := Lib.hid (HB3.out.trans hb4)
        clear hx4 hb4
        have hQ1 := quoted_of s g (IH.out g (by omega)) xb (x.to s (j + 1)) c true w4 HX4.out hs hol (by show s.size < g + (j + 1); omega)
        rw [show quoP s (withF s g) (x.to s (j + 1)).op.length c true (x.to s (j + 1)).i = r from HRR.out] at hQ1
        have HQ2 := Lib.hid hQ1
        clear hQ1
        go_wp2_with fail
        refine HQ2.out.mono ?_
        rintro ez wz ⟨ha, hbz⟩
        have HBz := Lib.hid (HB4.out.trans hbz)
        clear hbz
        cases r with
        | error n =>
          obtain rfl : ez = .panicked (stopV n) := ha
          have hRR : Except.error n = R := HST.out
          subst hRR
          go_wp2
          exact ⟨rfl, rfl, HBz.out⟩
        | ok jn =>
          have hge := HGE.out jn rfl
          obtain ⟨rfl, hx3⟩ : ez = .returned (.tuple #[]) ∧ _ := ha
          have HX3 := Lib.hid (toIn hx3 (by omega) hge.1 hlt rfl)
          have HS := HST
          clear hx3
          have hmz := iOf_at HX3.out
          have HMZ := Lib.hid hmz
          clear hmz
          go_wp2
          exact ⟨⟨jn, g, by omega, by omega, by omega, by omega, HX3.out, HBz.out, HS⟩, by rw [HMZ.out, HM.out]; show s.size - jn < s.size - j; omega⟩
    · rw [if_neg hlt] at hst
      subst hst
      have HN := Lib.hid (next_end xb s (x.to s j) wr hx hlt)
      have HB := Lib.hid hb
      clear hm hr hx hb
      go_wp2_with fail
      refine HN.out.mono ?_
      rintro e1 w1 ⟨rfl, hb1⟩
      go_wp2
      exact ⟨rfl, rfl, HB.out.trans hb1⟩
end Go.Proofs.YtioddclglemlmaaGreatDoor

/- Going over what is open up to its end, in package lex: within a bracket; conditions: a text of at most 65,536 bytes. -/
namespace Go.Proofs.YtioddclglemlmaaGreatDoor
open Go.RowKit

set_option maxRecDepth 100000 in
set_option maxHeartbeats 4000000 in
theorem within_40 (s : ByteArray) (hs : s.size ≤ 70000) (f : Nat) (IH0 : ∀ g, g < f → WithC s g) (xb : Nat) (x : LxS) (w : World) (o : List UInt8) (t e : UInt8) (h : LxAt w xb s x) (ho : x.op = o ++ [t]) (hf : s.size < f + x.i) (hol : x.op.length ≤ 60) (ht : t = 40) :
    Calls Tryz.prog 66 #[.pointer (some ⟨xb, 0, none⟩), .int .u8 e.toNat] w fun e' w' => Ans xb s x o (withF s f x.op.length t e x.i) e' w' ∧ Below xb w w' := by
  subst ht
  obtain ⟨R, hR⟩ : ∃ R, withF s f x.op.length 40 e x.i = R := ⟨_, rfl⟩
  rw [hR]
  have HR := Lib.hid hR
  have HX := Lib.hid h
  have IH := Lib.hid IH0
  have hfit := h.1.2.1
  clear hR h IH0
  go_enter Tryz.func66, Tryz.ntmps66
  go_wp2
  go_loopw [4] (fun _ wi => ∃ j g : Nat, x.i ≤ j ∧ j ≤ s.size ∧ s.size < g + j ∧ g ≤ f ∧ LxAt wi xb s (x.to s j) ∧ Below xb w wi ∧ Hid (withF s g x.op.length 40 e j = R)) (fun _ wi => s.size - iOf wi xb)
  case atStart => exact ⟨x.i, f, Nat.le_refl _, hfit, hf, Nat.le_refl _, by rw [LxS.to_self]; exact HX.out, Below.refl _ _, HR⟩
  case round =>
    obtain ⟨j, g, hj, hj2, hg, hgf, hx, hb, hr⟩ := hrel
    obtain ⟨g, rfl⟩ : ∃ k, g = k + 1 := ⟨g - 1, by omega⟩
    have hst := hr.out
    rw [withF] at hst
    have hm := iOf_at hx
    have hm2 : (x.to s j).i = j := rfl
    rw [hm2] at hm
    by_cases hlt : j < s.size
    · rw [if_pos hlt] at hst
      have HN := Lib.hid (next_to xb s (x.to s j) wr hx hs hlt)
      rw [hm2, x.to_to s j (j + 1) hj (by omega) hj2] at HN
      obtain ⟨c, hc⟩ : ∃ c, s.get! j = c := ⟨_, rfl⟩
      rw [hc] at hst HN
      have HB := Lib.hid hb
      have HM := Lib.hid hm
      have HO := Lib.hid ho
      clear hr hc hx hb hm hm2
      by_cases hce : c = e
      · subst hce
        rw [if_pos rfl] at hst
        subst hst
        go_wp2_with fail
        refine HN.out.mono ?_
        rintro e1 w1 ⟨rfl, hx1, hb1⟩
        have HX1 := Lib.hid hx1
        have HB1 := Lib.hid (HB.out.trans hb1)
        clear hx1 hb1
        go_wp2_with fail
        refine (pop_any xb s (x.to s (j + 1)) o 40 _ HX1.out ho).mono ?_
        rintro e2 w2 ⟨rfl, hx2, hb2⟩
        have HX2 := Lib.hid hx2
        have HB2 := Lib.hid (HB1.out.trans hb2)
        clear hx2 hb2
        go_wp2
        first | go_end0 | refine bodyPost_ret (results_none rfl _ _ _) rfl ?_
        exact ⟨⟨rfl, HX2.out⟩, HB2.out⟩
      · rw [if_neg hce] at hst
        have hce2 : ((c.toNat : Int) == (e.toNat : Int)) = false := by rw [u8_beq]; exact beq_eq_false_iff_ne.2 hce
        obtain ⟨r, hr⟩ : ∃ r, stepW s (withF s g) x.op.length 40 c (j + 1) = r := ⟨_, rfl⟩
        rw [hr] at hst
        have HST := Lib.hid hst
        have hge : ∀ jn, r = .ok jn → j + 1 ≤ jn ∧ jn ≤ s.size := fun jn e => step_ge s _ (with_ge s g) _ _ _ _ _ (by omega) (hr.trans e)
        have HGE := Lib.hid hge
        clear hst hge
        unfold stepW at hr
        by_cases hc40 : c = 40
        · subst hc40
          have hce3 : ((40 : Int) == (e.toNat : Int)) = false := hce2
          rw [if_pos ⟨rfl, rfl⟩] at hr
          unfold ent at hr
          have HRR := Lib.hid hr
          clear hr hce2
          go_wp2_with fail
          refine HN.out.mono ?_
          rintro e1 w1 ⟨rfl, hx1, hb1⟩
          have HX1 := Lib.hid hx1
          have HB1 := Lib.hid (HB.out.trans hb1)
          clear hx1 hb1
          go_wp2_with fail
          refine (top_any xb s (x.to s (j + 1)) o 40 _ HX1.out ho).mono ?_
          rintro e2 w2 ⟨rfl, hx2, hb2⟩
          have HX2 := Lib.hid hx2
          have HB2 := Lib.hid (HB1.out.trans hb2)
          clear hx2 hb2
          go_wp2_with fail
          refine (enter_any xb s (x.to s (j + 1)) 40 _ HX2.out hol).mono ?_
          rintro e3 w3 ⟨hq, hb3⟩
          have HB3 := Lib.hid (HB2.out.trans hb3)
          clear hb3
          rcases hq with ⟨h60, rfl⟩ | ⟨hlt60, rfl, hx3⟩
          · have h60' : x.op.length = 60 := h60
            have hrr := HRR.out
            rw [if_pos h60'] at hrr
            subst hrr
            have hRR : Except.error 42 = R := HST.out
            subst hRR
            go_wp2
            exact ⟨rfl, rfl, HB3.out⟩
          · have hlt60' : x.op.length < 60 := hlt60
            have hrr := HRR.out
            rw [if_neg (Nat.ne_of_lt hlt60')] at hrr
            have hQ1 := IH.out g (by omega) xb { (x.to s (j + 1)) with op := (x.to s (j + 1)).op ++ [40] } w3 x.op 40 41 hx3 rfl (by show s.size < g + (j + 1); omega) (by show (x.op ++ [40]).length ≤ 60; simp; omega)
            have hl : (x.op ++ [40]).length = x.op.length + 1 := by simp
            rw [show withF s g (LxS.op { (x.to s (j + 1)) with op := (x.to s (j + 1)).op ++ [40] }).length 40 41 (LxS.i { (x.to s (j + 1)) with op := (x.to s (j + 1)).op ++ [40] }) = r from by rw [← hrr, ← hl]; rfl] at hQ1
            have HQ2 := Lib.hid hQ1
            clear hx3 hrr hQ1 hl hlt60
            go_wp2_with fail
            refine HQ2.out.mono ?_
            rintro ez wz ⟨ha, hbz⟩
            have HBz := Lib.hid (HB3.out.trans hbz)
            clear hbz
            cases r with
            | error n =>
              obtain rfl : ez = .panicked (stopV n) := ha
              have hRR : Except.error n = R := HST.out
              subst hRR
              go_wp2
              exact ⟨rfl, rfl, HBz.out⟩
            | ok jn =>
              have hge := HGE.out jn rfl
              obtain ⟨rfl, hx3⟩ : ez = .returned (.tuple #[]) ∧ _ := ha
              have HX3 := Lib.hid (toIn hx3 (by omega) hge.1 hlt rfl)
              have HS := HST
              clear hx3
              have hmz := iOf_at HX3.out
              have HMZ := Lib.hid hmz
              clear hmz
              go_wp2
              exact ⟨⟨jn, g, by omega, by omega, by omega, by omega, HX3.out, HBz.out, HS⟩, by rw [HMZ.out, HM.out]; show s.size - jn < s.size - j; omega⟩
        · rw [if_neg (fun k => hc40 k.2), if_neg (fun k => absurd k.1 (by decide))] at hr
          have HRR := Lib.hid hr
          have n40 : ((c.toNat : Int) == 40) = false := by have := u8_beq c 40; rw [beq_eq_false_iff_ne.2 hc40] at this; exact this
          clear hr
          go_wp2_with fail
          refine HN.out.mono ?_
          rintro e1 w1 ⟨rfl, hx1, hb1⟩
          have HX1 := Lib.hid hx1
          have HB1 := Lib.hid (HB.out.trans hb1)
          clear hx1 hb1
          go_wp2_with fail
          refine (top_any xb s (x.to s (j + 1)) o 40 _ HX1.out ho).mono ?_
          rintro e2 w2 ⟨rfl, hx2, hb2⟩
          have HX2 := Lib.hid hx2
          have HB2 := Lib.hid (HB1.out.trans hb2)
          clear hx2 hb2
          go_wp2_with fail
          refine (top_any xb s (x.to s (j + 1)) o 40 _ HX2.out ho).mono ?_
          rintro e3 w3 ⟨rfl, hx3, hb3⟩
          have HX3 := Lib.hid hx3
          have HB3 := Lib.hid (HB2.out.trans hb3)
          clear hx3 hb3
          go_wp2_with fail
          refine (top_any xb s (x.to s (j + 1)) o 40 _ HX3.out ho).mono ?_
          rintro e4 w4 ⟨rfl, hx4, hb4⟩
          have HX4 := Lib.hid hx4
          have HB4 := Lib.hid (HB3.out.trans hb4)
          clear hx4 hb4
          have hQ1 := quoted_of s g (IH.out g (by omega)) xb (x.to s (j + 1)) c true w4 HX4.out hs hol (by show s.size < g + (j + 1); omega)
          rw [show quoP s (withF s g) (x.to s (j + 1)).op.length c true (x.to s (j + 1)).i = r from HRR.out] at hQ1
          have HQ2 := Lib.hid hQ1
          clear hQ1
          go_wp2_with fail
          refine HQ2.out.mono ?_
          rintro ez wz ⟨ha, hbz⟩
          have HBz := Lib.hid (HB4.out.trans hbz)
          clear hbz
          cases r with
          | error n =>
            obtain rfl : ez = .panicked (stopV n) := ha
            have hRR : Except.error n = R := HST.out
            subst hRR
            go_wp2
            exact ⟨rfl, rfl, HBz.out⟩
          | ok jn =>
            have hge := HGE.out jn rfl
            obtain ⟨rfl, hx3⟩ : ez = .returned (.tuple #[]) ∧ _ := ha
            have HX3 := Lib.hid (toIn hx3 (by omega) hge.1 hlt rfl)
            have HS := HST
            clear hx3
            have hmz := iOf_at HX3.out
            have HMZ := Lib.hid hmz
            clear hmz
            go_wp2
            exact ⟨⟨jn, g, by omega, by omega, by omega, by omega, HX3.out, HBz.out, HS⟩, by rw [HMZ.out, HM.out]; show s.size - jn < s.size - j; omega⟩
    · rw [if_neg hlt] at hst
      subst hst
      have HN := Lib.hid (next_end xb s (x.to s j) wr hx hlt)
      have HB := Lib.hid hb
      clear hm hr hx hb
      go_wp2_with fail
      refine HN.out.mono ?_
      rintro e1 w1 ⟨rfl, hb1⟩
      go_wp2
      exact ⟨rfl, rfl, HB.out.trans hb1⟩
end Go.Proofs.YtioddclglemlmaaGreatDoor

/- Going over what is open up to its end, in package lex: within a backquote; conditions: a text of at most 65,536 bytes. -/
namespace Go.Proofs.YtioddclglemlmaaGreatDoor
open Go.RowKit

set_option maxRecDepth 100000 in
set_option maxHeartbeats 4000000 in
theorem within_96 (s : ByteArray) (hs : s.size ≤ 70000) (f : Nat) (IH0 : ∀ g, g < f → WithC s g) (xb : Nat) (x : LxS) (w : World) (o : List UInt8) (t e : UInt8) (h : LxAt w xb s x) (ho : x.op = o ++ [t]) (hf : s.size < f + x.i) (hol : x.op.length ≤ 60) (ht : t = 96) :
    Calls Tryz.prog 66 #[.pointer (some ⟨xb, 0, none⟩), .int .u8 e.toNat] w fun e' w' => Ans xb s x o (withF s f x.op.length t e x.i) e' w' ∧ Below xb w w' := by
  subst ht
  obtain ⟨R, hR⟩ : ∃ R, withF s f x.op.length 96 e x.i = R := ⟨_, rfl⟩
  rw [hR]
  have HR := Lib.hid hR
  have HX := Lib.hid h
  have IH := Lib.hid IH0
  have hfit := h.1.2.1
  clear hR h IH0
  go_enter Tryz.func66, Tryz.ntmps66
  go_wp2
  go_loopw [4] (fun _ wi => ∃ j g : Nat, x.i ≤ j ∧ j ≤ s.size ∧ s.size < g + j ∧ g ≤ f ∧ LxAt wi xb s (x.to s j) ∧ Below xb w wi ∧ Hid (withF s g x.op.length 96 e j = R)) (fun _ wi => s.size - iOf wi xb)
  case atStart => exact ⟨x.i, f, Nat.le_refl _, hfit, hf, Nat.le_refl _, by rw [LxS.to_self]; exact HX.out, Below.refl _ _, HR⟩
  case round =>
    obtain ⟨j, g, hj, hj2, hg, hgf, hx, hb, hr⟩ := hrel
    obtain ⟨g, rfl⟩ : ∃ k, g = k + 1 := ⟨g - 1, by omega⟩
    have hst := hr.out
    rw [withF] at hst
    have hm := iOf_at hx
    have hm2 : (x.to s j).i = j := rfl
    rw [hm2] at hm
    by_cases hlt : j < s.size
    · rw [if_pos hlt] at hst
      have HN := Lib.hid (next_to xb s (x.to s j) wr hx hs hlt)
      rw [hm2, x.to_to s j (j + 1) hj (by omega) hj2] at HN
      obtain ⟨c, hc⟩ : ∃ c, s.get! j = c := ⟨_, rfl⟩
      rw [hc] at hst HN
      have HB := Lib.hid hb
      have HM := Lib.hid hm
      have HO := Lib.hid ho
      clear hr hc hx hb hm hm2
      by_cases hce : c = e
      · subst hce
        rw [if_pos rfl] at hst
        subst hst
        go_wp2_with fail
        refine HN.out.mono ?_
        rintro e1 w1 ⟨rfl, hx1, hb1⟩
        have HX1 := Lib.hid hx1
        have HB1 := Lib.hid (HB.out.trans hb1)
        clear hx1 hb1
        go_wp2_with fail
        refine (pop_any xb s (x.to s (j + 1)) o 96 _ HX1.out ho).mono ?_
        rintro e2 w2 ⟨rfl, hx2, hb2⟩
        have HX2 := Lib.hid hx2
        have HB2 := Lib.hid (HB1.out.trans hb2)
        clear hx2 hb2
        go_wp2
        first | go_end0 | refine bodyPost_ret (results_none rfl _ _ _) rfl ?_
        exact ⟨⟨rfl, HX2.out⟩, HB2.out⟩
      · rw [if_neg hce] at hst
        have hce2 : ((c.toNat : Int) == (e.toNat : Int)) = false := by rw [u8_beq]; exact beq_eq_false_iff_ne.2 hce
        obtain ⟨r, hr⟩ : ∃ r, stepW s (withF s g) x.op.length 96 c (j + 1) = r := ⟨_, rfl⟩
        rw [hr] at hst
        have HST := Lib.hid hst
        have hge : ∀ jn, r = .ok jn → j + 1 ≤ jn ∧ jn ≤ s.size := fun jn e => step_ge s _ (with_ge s g) _ _ _ _ _ (by omega) (hr.trans e)
        have HGE := Lib.hid hge
        clear hst hge
        unfold stepW at hr
        rw [if_neg (fun k => absurd k.1 (by decide))] at hr
        by_cases hc92 : c = 92
        · subst hc92
          have hce3 : ((92 : Int) == (e.toNat : Int)) = false := hce2
          rw [if_neg (fun k => k.2 rfl)] at hr
          have HRR := Lib.hid hr
          clear hr hce2
          go_wp2_with fail
          refine HN.out.mono ?_
          rintro e1 w1 ⟨rfl, hx1, hb1⟩
          have HX1 := Lib.hid hx1
          have HB1 := Lib.hid (HB.out.trans hb1)
          clear hx1 hb1
          go_wp2_with fail
          refine (top_any xb s (x.to s (j + 1)) o 96 _ HX1.out ho).mono ?_
          rintro e2 w2 ⟨rfl, hx2, hb2⟩
          have HX2 := Lib.hid hx2
          have HB2 := Lib.hid (HB1.out.trans hb2)
          clear hx2 hb2
          go_wp2_with fail
          refine (top_any xb s (x.to s (j + 1)) o 96 _ HX2.out ho).mono ?_
          rintro e3 w3 ⟨rfl, hx3, hb3⟩
          have HX3 := Lib.hid hx3
          have HB3 := Lib.hid (HB2.out.trans hb3)
          clear hx3 hb3
          go_wp2_with fail
          refine (top_any xb s (x.to s (j + 1)) o 96 _ HX3.out ho).mono ?_
          rintro e4 w4 ⟨rfl, hx4, hb4⟩
          have HX4 := Lib.hid hx4
          have HB4 := Lib.hid (HB3.out.trans hb4)
          clear hx4 hb4
          have hQ1 := quoted_of s g (IH.out g (by omega)) xb (x.to s (j + 1)) 92 true w4 HX4.out hs hol (by show s.size < g + (j + 1); omega)
          rw [show quoP s (withF s g) (x.to s (j + 1)).op.length 92 true (x.to s (j + 1)).i = r from HRR.out] at hQ1
          have HQ2 := Lib.hid hQ1
          clear hQ1
          go_wp2_with fail
          refine HQ2.out.mono ?_
          rintro ez wz ⟨ha, hbz⟩
          have HBz := Lib.hid (HB4.out.trans hbz)
          clear hbz
          cases r with
          | error n =>
            obtain rfl : ez = .panicked (stopV n) := ha
            have hRR : Except.error n = R := HST.out
            subst hRR
            go_wp2
            exact ⟨rfl, rfl, HBz.out⟩
          | ok jn =>
            have hge := HGE.out jn rfl
            obtain ⟨rfl, hx3⟩ : ez = .returned (.tuple #[]) ∧ _ := ha
            have HX3 := Lib.hid (toIn hx3 (by omega) hge.1 hlt rfl)
            have HS := HST
            clear hx3
            have hmz := iOf_at HX3.out
            have HMZ := Lib.hid hmz
            clear hmz
            go_wp2
            exact ⟨⟨jn, g, by omega, by omega, by omega, by omega, HX3.out, HBz.out, HS⟩, by rw [HMZ.out, HM.out]; show s.size - jn < s.size - j; omega⟩
        · rw [if_pos ⟨rfl, hc92⟩] at hr
          subst hr
          have n92 : ((c.toNat : Int) == 92) = false := by have := u8_beq c 92; rw [beq_eq_false_iff_ne.2 hc92] at this; exact this
          have HS : Hid (withF s g x.op.length 96 e (j + 1) = R) := HST.out
          go_wp2_with fail
          refine HN.out.mono ?_
          rintro e1 w1 ⟨rfl, hx1, hb1⟩
          have HX1 := Lib.hid hx1
          have HB1 := Lib.hid (HB.out.trans hb1)
          clear hx1 hb1
          go_wp2_with fail
          refine (top_any xb s (x.to s (j + 1)) o 96 _ HX1.out ho).mono ?_
          rintro e2 w2 ⟨rfl, hx2, hb2⟩
          have HX2 := Lib.hid hx2
          have HB2 := Lib.hid (HB1.out.trans hb2)
          clear hx2 hb2
          go_wp2_with fail
          refine (top_any xb s (x.to s (j + 1)) o 96 _ HX2.out ho).mono ?_
          rintro e3 w3 ⟨rfl, hx3, hb3⟩
          have HX3 := Lib.hid hx3
          have HB3 := Lib.hid (HB2.out.trans hb3)
          clear hx3 hb3
          have hmz := iOf_at HX3.out
          have HMZ := Lib.hid hmz
          clear hmz
          go_wp2
          exact ⟨⟨(j + 1), g, by omega, by omega, by omega, by omega, HX3.out, HB3.out, HS⟩, by rw [HMZ.out, HM.out]; show s.size - (j + 1) < s.size - j; omega⟩
    · rw [if_neg hlt] at hst
      subst hst
      have HN := Lib.hid (next_end xb s (x.to s j) wr hx hlt)
      have HB := Lib.hid hb
      clear hm hr hx hb
      go_wp2_with fail
      refine HN.out.mono ?_
      rintro e1 w1 ⟨rfl, hb1⟩
      go_wp2
      exact ⟨rfl, rfl, HB.out.trans hb1⟩
end Go.Proofs.YtioddclglemlmaaGreatDoor

/- Going over what is open up to its end, in package lex: within double quotes, and all of it; conditions: a text of at most 65,536 bytes. -/
namespace Go.Proofs.YtioddclglemlmaaGreatDoor
open Go.RowKit

set_option maxRecDepth 100000 in
set_option maxHeartbeats 4000000 in
theorem within_34 (s : ByteArray) (hs : s.size ≤ 70000) (f : Nat) (IH0 : ∀ g, g < f → WithC s g) (xb : Nat) (x : LxS) (w : World) (o : List UInt8) (t e : UInt8) (h : LxAt w xb s x) (ho : x.op = o ++ [t]) (hf : s.size < f + x.i) (hol : x.op.length ≤ 60) (ht : t = 34) :
    Calls Tryz.prog 66 #[.pointer (some ⟨xb, 0, none⟩), .int .u8 e.toNat] w fun e' w' => Ans xb s x o (withF s f x.op.length t e x.i) e' w' ∧ Below xb w w' := by
  subst ht
  obtain ⟨R, hR⟩ : ∃ R, withF s f x.op.length 34 e x.i = R := ⟨_, rfl⟩
  rw [hR]
  have HR := Lib.hid hR
  have HX := Lib.hid h
  have IH := Lib.hid IH0
  have hfit := h.1.2.1
  clear hR h IH0
  go_enter Tryz.func66, Tryz.ntmps66
  go_wp2
  go_loopw [4] (fun _ wi => ∃ j g : Nat, x.i ≤ j ∧ j ≤ s.size ∧ s.size < g + j ∧ g ≤ f ∧ LxAt wi xb s (x.to s j) ∧ Below xb w wi ∧ Hid (withF s g x.op.length 34 e j = R)) (fun _ wi => s.size - iOf wi xb)
  case atStart => exact ⟨x.i, f, Nat.le_refl _, hfit, hf, Nat.le_refl _, by rw [LxS.to_self]; exact HX.out, Below.refl _ _, HR⟩
  case round =>
    obtain ⟨j, g, hj, hj2, hg, hgf, hx, hb, hr⟩ := hrel
    obtain ⟨g, rfl⟩ : ∃ k, g = k + 1 := ⟨g - 1, by omega⟩
    have hst := hr.out
    rw [withF] at hst
    have hm := iOf_at hx
    have hm2 : (x.to s j).i = j := rfl
    rw [hm2] at hm
    by_cases hlt : j < s.size
    · rw [if_pos hlt] at hst
      have HN := Lib.hid (next_to xb s (x.to s j) wr hx hs hlt)
      rw [hm2, x.to_to s j (j + 1) hj (by omega) hj2] at HN
      obtain ⟨c, hc⟩ : ∃ c, s.get! j = c := ⟨_, rfl⟩
      rw [hc] at hst HN
      have HB := Lib.hid hb
      have HM := Lib.hid hm
      have HO := Lib.hid ho
      clear hr hc hx hb hm hm2
      by_cases hce : c = e
      · subst hce
        rw [if_pos rfl] at hst
        subst hst
        go_wp2_with fail
        refine HN.out.mono ?_
        rintro e1 w1 ⟨rfl, hx1, hb1⟩
        have HX1 := Lib.hid hx1
        have HB1 := Lib.hid (HB.out.trans hb1)
        clear hx1 hb1
        go_wp2_with fail
        refine (pop_any xb s (x.to s (j + 1)) o 34 _ HX1.out ho).mono ?_
        rintro e2 w2 ⟨rfl, hx2, hb2⟩
        have HX2 := Lib.hid hx2
        have HB2 := Lib.hid (HB1.out.trans hb2)
        clear hx2 hb2
        go_wp2
        first | go_end0 | refine bodyPost_ret (results_none rfl _ _ _) rfl ?_
        exact ⟨⟨rfl, HX2.out⟩, HB2.out⟩
      · rw [if_neg hce] at hst
        have hce2 : ((c.toNat : Int) == (e.toNat : Int)) = false := by rw [u8_beq]; exact beq_eq_false_iff_ne.2 hce
        obtain ⟨r, hr⟩ : ∃ r, stepW s (withF s g) x.op.length 34 c (j + 1) = r := ⟨_, rfl⟩
        rw [hr] at hst
        have HST := Lib.hid hst
        have hge : ∀ jn, r = .ok jn → j + 1 ≤ jn ∧ jn ≤ s.size := fun jn e => step_ge s _ (with_ge s g) _ _ _ _ _ (by omega) (hr.trans e)
        have HGE := Lib.hid hge
        clear hst hge
        unfold stepW at hr
        rw [if_neg (fun k => absurd k.1 (by decide)), if_neg (fun k => absurd k.1 (by decide))] at hr
        have HRR := Lib.hid hr
        clear hr
        go_wp2_with fail
        refine HN.out.mono ?_
        rintro e1 w1 ⟨rfl, hx1, hb1⟩
        have HX1 := Lib.hid hx1
        have HB1 := Lib.hid (HB.out.trans hb1)
        clear hx1 hb1
        go_wp2_with fail
        refine (top_any xb s (x.to s (j + 1)) o 34 _ HX1.out ho).mono ?_
        rintro e2 w2 ⟨rfl, hx2, hb2⟩
        have HX2 := Lib.hid hx2
        have HB2 := Lib.hid (HB1.out.trans hb2)
        clear hx2 hb2
        go_wp2_with fail
        refine (top_any xb s (x.to s (j + 1)) o 34 _ HX2.out ho).mono ?_
        rintro e3 w3 ⟨rfl, hx3, hb3⟩
        have HX3 := Lib.hid hx3
        have HB3 := Lib.hid (HB2.out.trans hb3)
        clear hx3 hb3
        go_wp2_with fail
        refine (top_any xb s (x.to s (j + 1)) o 34 _ HX3.out ho).mono ?_
        rintro e4 w4 ⟨rfl, hx4, hb4⟩
        have HX4 := Lib.hid hx4
        have HB4 := Lib.hid (HB3.out.trans hb4)
        clear hx4 hb4
        have hQ1 := quoted_of s g (IH.out g (by omega)) xb (x.to s (j + 1)) c false w4 HX4.out hs hol (by show s.size < g + (j + 1); omega)
        rw [show quoP s (withF s g) (x.to s (j + 1)).op.length c false (x.to s (j + 1)).i = r from HRR.out] at hQ1
        have HQ2 := Lib.hid hQ1
        clear hQ1
        go_wp2_with fail
        refine HQ2.out.mono ?_
        rintro ez wz ⟨ha, hbz⟩
        have HBz := Lib.hid (HB4.out.trans hbz)
        clear hbz
        cases r with
        | error n =>
          obtain rfl : ez = .panicked (stopV n) := ha
          have hRR : Except.error n = R := HST.out
          subst hRR
          go_wp2
          exact ⟨rfl, rfl, HBz.out⟩
        | ok jn =>
          have hge := HGE.out jn rfl
          obtain ⟨rfl, hx3⟩ : ez = .returned (.tuple #[]) ∧ _ := ha
          have HX3 := Lib.hid (toIn hx3 (by omega) hge.1 hlt rfl)
          have HS := HST
          clear hx3
          have hmz := iOf_at HX3.out
          have HMZ := Lib.hid hmz
          clear hmz
          go_wp2
          exact ⟨⟨jn, g, by omega, by omega, by omega, by omega, HX3.out, HBz.out, HS⟩, by rw [HMZ.out, HM.out]; show s.size - jn < s.size - j; omega⟩
    · rw [if_neg hlt] at hst
      subst hst
      have HN := Lib.hid (next_end xb s (x.to s j) wr hx hlt)
      have HB := Lib.hid hb
      clear hm hr hx hb
      go_wp2_with fail
      refine HN.out.mono ?_
      rintro e1 w1 ⟨rfl, hb1⟩
      go_wp2
      exact ⟨rfl, rfl, HB.out.trans hb1⟩

theorem within_all (s : ByteArray) (hs : s.size ≤ 70000) : ∀ f, WithC s f := by
  intro f
  induction f using Nat.strongRecOn with
  | _ f IH =>
  intro xb x w o t e h ho hf hol
  by_cases h40 : t = 40
  · exact within_40 s hs f IH xb x w o t e h ho hf hol h40
  by_cases h96 : t = 96
  · exact within_96 s hs f IH xb x w o t e h ho hf hol h96
  by_cases h34 : t = 34
  · exact within_34 s hs f IH xb x w o t e h ho hf hol h34
  · exact within_o s hs f IH xb x w o t e h ho hf hol h40 h96 h34
end Go.Proofs.YtioddclglemlmaaGreatDoor
