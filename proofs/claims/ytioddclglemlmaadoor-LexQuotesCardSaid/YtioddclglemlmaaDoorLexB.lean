/- The lexer's state ahead of a token; conditions: a text of at most 65,536 bytes. -/
import Derived.Test.YtioddclglemlmaaDoorLexC
namespace Go.Proofs.YtioddclglemlmaaDoor
open Go.RowKit

def opsB (c : UInt8) : Bool := c == 59 || c == 38 || c == 124 || c == 40 || c == 41 || c == 60 || c == 62
def btw (c : UInt8) : Nat := if c = 32 ∨ c = 9 then 0 else if c = 10 then 1 else if c = 35 then 2 else if opsB c = true then 3 else 4
def fnV (f : Nat) : Value := .func (.func f) #[] #[]
def BtA (xb : Nat) (s : ByteArray) (x : Lx) (k : Nat) (e : Ending) (W' : World) : Prop := match k with
  | 0 => e = .returned (fnV 11) ∧ LxAt W' xb s (x.at_ (x.i + 1))
  | 1 => StA xb s x (3, ⟨#[10]⟩) (x.i + 1) (fnV 11) e W'
  | 2 => e = .returned (fnV 15) ∧ LxAt W' xb s x
  | 3 => e = .returned (fnV 16) ∧ LxAt W' xb s x
  | _ => e = .returned (fnV 17) ∧ LxAt W' xb s x

set_option maxRecDepth 100000 in
set_option maxHeartbeats 1000000 in
theorem between_end (xb : Nat) (s : ByteArray) (x : Lx) (w : World) (h : LxAt w xb s x) (hlt : ¬ x.i < s.size) (hl : x.out.length ≤ 5000) :
    Calls Tryd.prog 11 #[.pointer (some ⟨xb, 0, none⟩)] w fun e w' => StA xb s x (4, ⟨#[]⟩) x.i .nilFunc e w' ∧ Below xb w w' := by
  have HM := Lib.hid (more_any xb s x w h)
  rw [decide_eq_false hlt] at HM
  clear h
  go_enter Tryd.func11, Tryd.ntmps11
  go_wp2_with fail
  refine HM.out.mono ?_
  rintro e w1 ⟨rfl, hx1, hb1⟩
  have HX1 := Lib.hid hx1
  have HB1 := Lib.hid hb1
  clear hx1 hb1
  go_wp2_with fail
  refine (token_any xb s x 4 ⟨#[]⟩ _ HX1.out hl).mono ?_
  rintro e wt ⟨ht, hbt⟩
  rcases ht with ⟨h5, rfl⟩ | ⟨h5, rfl, hxt⟩
  · go_wp2
    exact ⟨rfl, .inl ⟨h5, rfl⟩, HB1.out.trans hbt⟩
  · have HXT := Lib.hid hxt
    have HBT := Lib.hid (HB1.out.trans hbt)
    have h5' := Lib.hid h5
    clear hxt hbt h5
    go_wp2
    go_ret
    exact ⟨.inr ⟨h5'.out, rfl, HXT.out⟩, HBT.out⟩

set_option maxRecDepth 100000 in
set_option maxHeartbeats 4000000 in
theorem between_in (xb : Nat) (s : ByteArray) (x : Lx) (w : World) (h : LxAt w xb s x) (hs : s.size ≤ 70000) (hlt : x.i < s.size) (hl : x.out.length ≤ 5000) :
    Calls Tryd.prog 11 #[.pointer (some ⟨xb, 0, none⟩)] w fun e w' => BtA xb s x (btw (s.get! x.i)) e w' ∧ Below xb w w' := by
  have HM := Lib.hid (more_any xb s x w h)
  rw [decide_eq_true hlt] at HM
  have hb2 := bget s x.i hlt
  obtain ⟨c, hc⟩ : ∃ c, s.get! x.i = c := ⟨_, rfl⟩
  rw [hc] at hb2 ⊢
  have qj : (x.i : Int) < s.size := by omega
  obtain ⟨kk, hkk⟩ : ∃ kk, btw c = kk := ⟨_, rfl⟩
  rw [hkk]
  have HKK := Lib.hid hkk
  clear h hc hkk
  go_enter Tryd.func11, Tryd.ntmps11
  go_wp2_with fail
  refine HM.out.mono ?_
  rintro e w1 ⟨rfl, hx1, hb1⟩
  obtain ⟨c0, c1, f1⟩ := lx_cells hx1
  have HX1 := Lib.hid hx1
  have HB1 := Lib.hid hb1
  clear hx1 hb1 HM
  go_wp2
  go_quiet (fail)
  have hx2 := HX1.out.drewN nq
  obtain ⟨w2, hw2⟩ : ∃ w2, w1.drewN nq = w2 := ⟨_, rfl⟩
  have hb3 := below_drewN HB1.out nq
  rw [hw2] at hx2 hb3 ⊢
  have HX2 := Lib.hid hx2
  have HB2 := Lib.hid hb3
  have HS3 := Lib.hid (lx_step hx2 hlt)
  clear c0 c1 f1
  obtain ⟨c0, c1, f1⟩ := lx_cells hx2
  clear hx2 hw2 hb3 HX1 HB1
  by_cases h32 : c = 32
  · have hq := h32
    obtain rfl : 0 = kk := by rw [← HKK.out, hq]; rfl
    have n32 : ((c.toNat : Int) == 32) = true := by rw [hq]; rfl
    clear hq
    clear h32
    go_wp2
    go_ret
    exact ⟨⟨rfl, HS3.out.1⟩, HB2.out.trans HS3.out.2⟩
  by_cases h9 : c = 9
  · have hq := h9
    obtain rfl : 0 = kk := by rw [← HKK.out, hq]; rfl
    have n32 : ((c.toNat : Int) == 32) = false := by rw [hq]; rfl
    have n9 : ((c.toNat : Int) == 9) = true := by rw [hq]; rfl
    clear hq
    clear h32 h9
    go_wp2
    go_ret
    exact ⟨⟨rfl, HS3.out.1⟩, HB2.out.trans HS3.out.2⟩
  by_cases h10 : c = 10
  · have hq := h10
    obtain rfl : 1 = kk := by rw [← HKK.out, hq]; rfl
    have n32 : ((c.toNat : Int) == 32) = false := by rw [hq]; rfl
    have n9 : ((c.toNat : Int) == 9) = false := by rw [hq]; rfl
    have n10 : ((c.toNat : Int) == 10) = true := by rw [hq]; rfl
    clear hq
    clear h32 h9 h10
    go_upto_region 19 with fail
    have hx3 := HS3.out.1
    have hb3 := HB2.out.trans HS3.out.2
    obtain ⟨w3, hw3⟩ : ∃ w3, w2.setCell ⟨xb, 1, none⟩ (.int .i64 ((x.i : Int) + 1)) = w3 := ⟨_, rfl⟩
    rw [hw3] at hx3 hb3 ⊢
    have HX3 := Lib.hid hx3
    have HB3 := Lib.hid hb3
    clear hx3 hb3 hw3 HS3 c0 c1 f1
    go_wp2_with fail
    refine (token_any xb s (x.at_ (x.i + 1)) 3 ⟨#[10]⟩ _ HX3.out hl).mono ?_
    rintro e wt ⟨ht, hbt⟩
    rcases ht with ⟨h5, rfl⟩ | ⟨h5, rfl, hxt⟩
    · have h5' := Lib.hid (show x.out.length = 5000 from h5)
      clear h5
      go_wp2
      exact ⟨rfl, .inl ⟨h5'.out, rfl⟩, HB3.out.trans hbt⟩
    · have HXT := Lib.hid hxt
      have HBT := Lib.hid (HB3.out.trans hbt)
      have h5' := Lib.hid (show x.out.length < 5000 from h5)
      clear hxt hbt h5
      go_wp2
      go_ret
      exact ⟨.inr ⟨h5'.out, rfl, HXT.out⟩, HBT.out⟩
  by_cases h35 : c = 35
  · have hq := h35
    obtain rfl : 2 = kk := by rw [← HKK.out, hq]; rfl
    have n32 : ((c.toNat : Int) == 32) = false := by rw [hq]; rfl
    have n9 : ((c.toNat : Int) == 9) = false := by rw [hq]; rfl
    have n10 : ((c.toNat : Int) == 10) = false := by rw [hq]; rfl
    have n35 : ((c.toNat : Int) == 35) = true := by rw [hq]; rfl
    clear hq
    clear h32 h9 h10 h35
    go_wp2
    go_ret
    exact ⟨⟨rfl, HX2.out⟩, HB2.out⟩
  by_cases h59 : c = 59
  · have hq := h59
    obtain rfl : 3 = kk := by rw [← HKK.out, hq]; rfl
    have n32 : ((c.toNat : Int) == 32) = false := by rw [hq]; rfl
    have n9 : ((c.toNat : Int) == 9) = false := by rw [hq]; rfl
    have n10 : ((c.toNat : Int) == 10) = false := by rw [hq]; rfl
    have n35 : ((c.toNat : Int) == 35) = false := by rw [hq]; rfl
    have n59 : ((c.toNat : Int) == 59) = true := by rw [hq]; rfl
    clear hq
    clear h32 h9 h10 h35 h59
    go_wp2
    go_ret
    exact ⟨⟨rfl, HX2.out⟩, HB2.out⟩
  by_cases h38 : c = 38
  · have hq := h38
    obtain rfl : 3 = kk := by rw [← HKK.out, hq]; rfl
    have n32 : ((c.toNat : Int) == 32) = false := by rw [hq]; rfl
    have n9 : ((c.toNat : Int) == 9) = false := by rw [hq]; rfl
    have n10 : ((c.toNat : Int) == 10) = false := by rw [hq]; rfl
    have n35 : ((c.toNat : Int) == 35) = false := by rw [hq]; rfl
    have n59 : ((c.toNat : Int) == 59) = false := by rw [hq]; rfl
    have n38 : ((c.toNat : Int) == 38) = true := by rw [hq]; rfl
    clear hq
    clear h32 h9 h10 h35 h59 h38
    go_wp2
    go_ret
    exact ⟨⟨rfl, HX2.out⟩, HB2.out⟩
  by_cases h124 : c = 124
  · have hq := h124
    obtain rfl : 3 = kk := by rw [← HKK.out, hq]; rfl
    have n32 : ((c.toNat : Int) == 32) = false := by rw [hq]; rfl
    have n9 : ((c.toNat : Int) == 9) = false := by rw [hq]; rfl
    have n10 : ((c.toNat : Int) == 10) = false := by rw [hq]; rfl
    have n35 : ((c.toNat : Int) == 35) = false := by rw [hq]; rfl
    have n59 : ((c.toNat : Int) == 59) = false := by rw [hq]; rfl
    have n38 : ((c.toNat : Int) == 38) = false := by rw [hq]; rfl
    have n124 : ((c.toNat : Int) == 124) = true := by rw [hq]; rfl
    clear hq
    clear h32 h9 h10 h35 h59 h38 h124
    go_wp2
    go_ret
    exact ⟨⟨rfl, HX2.out⟩, HB2.out⟩
  by_cases h40 : c = 40
  · have hq := h40
    obtain rfl : 3 = kk := by rw [← HKK.out, hq]; rfl
    have n32 : ((c.toNat : Int) == 32) = false := by rw [hq]; rfl
    have n9 : ((c.toNat : Int) == 9) = false := by rw [hq]; rfl
    have n10 : ((c.toNat : Int) == 10) = false := by rw [hq]; rfl
    have n35 : ((c.toNat : Int) == 35) = false := by rw [hq]; rfl
    have n59 : ((c.toNat : Int) == 59) = false := by rw [hq]; rfl
    have n38 : ((c.toNat : Int) == 38) = false := by rw [hq]; rfl
    have n124 : ((c.toNat : Int) == 124) = false := by rw [hq]; rfl
    have n40 : ((c.toNat : Int) == 40) = true := by rw [hq]; rfl
    clear hq
    clear h32 h9 h10 h35 h59 h38 h124 h40
    go_wp2
    go_ret
    exact ⟨⟨rfl, HX2.out⟩, HB2.out⟩
  by_cases h41 : c = 41
  · have hq := h41
    obtain rfl : 3 = kk := by rw [← HKK.out, hq]; rfl
    have n32 : ((c.toNat : Int) == 32) = false := by rw [hq]; rfl
    have n9 : ((c.toNat : Int) == 9) = false := by rw [hq]; rfl
    have n10 : ((c.toNat : Int) == 10) = false := by rw [hq]; rfl
    have n35 : ((c.toNat : Int) == 35) = false := by rw [hq]; rfl
    have n59 : ((c.toNat : Int) == 59) = false := by rw [hq]; rfl
    have n38 : ((c.toNat : Int) == 38) = false := by rw [hq]; rfl
    have n124 : ((c.toNat : Int) == 124) = false := by rw [hq]; rfl
    have n40 : ((c.toNat : Int) == 40) = false := by rw [hq]; rfl
    have n41 : ((c.toNat : Int) == 41) = true := by rw [hq]; rfl
    clear hq
    clear h32 h9 h10 h35 h59 h38 h124 h40 h41
    go_wp2
    go_ret
    exact ⟨⟨rfl, HX2.out⟩, HB2.out⟩
  by_cases h60 : c = 60
  · have hq := h60
    obtain rfl : 3 = kk := by rw [← HKK.out, hq]; rfl
    have n32 : ((c.toNat : Int) == 32) = false := by rw [hq]; rfl
    have n9 : ((c.toNat : Int) == 9) = false := by rw [hq]; rfl
    have n10 : ((c.toNat : Int) == 10) = false := by rw [hq]; rfl
    have n35 : ((c.toNat : Int) == 35) = false := by rw [hq]; rfl
    have n59 : ((c.toNat : Int) == 59) = false := by rw [hq]; rfl
    have n38 : ((c.toNat : Int) == 38) = false := by rw [hq]; rfl
    have n124 : ((c.toNat : Int) == 124) = false := by rw [hq]; rfl
    have n40 : ((c.toNat : Int) == 40) = false := by rw [hq]; rfl
    have n41 : ((c.toNat : Int) == 41) = false := by rw [hq]; rfl
    have n60 : ((c.toNat : Int) == 60) = true := by rw [hq]; rfl
    clear hq
    clear h32 h9 h10 h35 h59 h38 h124 h40 h41 h60
    go_wp2
    go_ret
    exact ⟨⟨rfl, HX2.out⟩, HB2.out⟩
  by_cases h62 : c = 62
  · have hq := h62
    obtain rfl : 3 = kk := by rw [← HKK.out, hq]; rfl
    have n32 : ((c.toNat : Int) == 32) = false := by rw [hq]; rfl
    have n9 : ((c.toNat : Int) == 9) = false := by rw [hq]; rfl
    have n10 : ((c.toNat : Int) == 10) = false := by rw [hq]; rfl
    have n35 : ((c.toNat : Int) == 35) = false := by rw [hq]; rfl
    have n59 : ((c.toNat : Int) == 59) = false := by rw [hq]; rfl
    have n38 : ((c.toNat : Int) == 38) = false := by rw [hq]; rfl
    have n124 : ((c.toNat : Int) == 124) = false := by rw [hq]; rfl
    have n40 : ((c.toNat : Int) == 40) = false := by rw [hq]; rfl
    have n41 : ((c.toNat : Int) == 41) = false := by rw [hq]; rfl
    have n60 : ((c.toNat : Int) == 60) = false := by rw [hq]; rfl
    have n62 : ((c.toNat : Int) == 62) = true := by rw [hq]; rfl
    clear hq
    clear h32 h9 h10 h35 h59 h38 h124 h40 h41 h60 h62
    go_wp2
    go_ret
    exact ⟨⟨rfl, HX2.out⟩, HB2.out⟩
  obtain rfl : 4 = kk := by rw [← HKK.out]; unfold btw opsB; simp [h32, h9, h10, h35, h59, h38, h124, h40, h41, h60, h62]
  have n32 : ((c.toNat : Int) == 32) = false := (u8_beq c 32).trans (beq_eq_false_iff_ne.2 h32)
  have n9 : ((c.toNat : Int) == 9) = false := (u8_beq c 9).trans (beq_eq_false_iff_ne.2 h9)
  have n10 : ((c.toNat : Int) == 10) = false := (u8_beq c 10).trans (beq_eq_false_iff_ne.2 h10)
  have n35 : ((c.toNat : Int) == 35) = false := (u8_beq c 35).trans (beq_eq_false_iff_ne.2 h35)
  have n59 : ((c.toNat : Int) == 59) = false := (u8_beq c 59).trans (beq_eq_false_iff_ne.2 h59)
  have n38 : ((c.toNat : Int) == 38) = false := (u8_beq c 38).trans (beq_eq_false_iff_ne.2 h38)
  have n124 : ((c.toNat : Int) == 124) = false := (u8_beq c 124).trans (beq_eq_false_iff_ne.2 h124)
  have n40 : ((c.toNat : Int) == 40) = false := (u8_beq c 40).trans (beq_eq_false_iff_ne.2 h40)
  have n41 : ((c.toNat : Int) == 41) = false := (u8_beq c 41).trans (beq_eq_false_iff_ne.2 h41)
  have n60 : ((c.toNat : Int) == 60) = false := (u8_beq c 60).trans (beq_eq_false_iff_ne.2 h60)
  have n62 : ((c.toNat : Int) == 62) = false := (u8_beq c 62).trans (beq_eq_false_iff_ne.2 h62)
  clear h32 h9 h10 h35 h59 h38 h124 h40 h41 h60 h62
  go_wp2
  go_ret
  exact ⟨⟨rfl, HX2.out⟩, HB2.out⟩
end Go.Proofs.YtioddclglemlmaaDoor
