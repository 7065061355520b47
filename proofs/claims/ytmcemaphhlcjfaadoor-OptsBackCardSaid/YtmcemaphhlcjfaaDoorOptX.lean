/- The answers of package opts that its laws ask first; conditions: the library's one number and one type in their cells. -/
import Derived.Test.YtmcemaphhlcjfaaDoorOptP
import Derived.Test.YtmcemaphhlcjfaaDoorOptI
import Derived.Test.YtmcemaphhlcjfaaDoorOptH
namespace Go.Proofs.YtmcemaphhlcjfaaDoor
open Go.RowKit Go.Maps

/-- Parse of words that were just laid -/
theorem parse_lit {w : World} (l : List ByteArray) (hl : l.length ≤ 1000) (hz : ∀ v ∈ l, v.size ≤ 1000000) (hw : 1 < w.heap.size) (m : Int) (hm : w.cell? ⟨1, 0, none⟩ = some (.int .i64 m)) (hg : w.cell? ⟨0, 0, none⟩ = some ErrT) :
    Calls Tryd.prog 28 #[.slice (some ⟨w.heap.size, 0, none⟩) l.length l.length, .string ⟨#[]⟩] (w.alloc (.cells (strV l).toArray 9)) fun e w' => PsA w (parseF l bE) e w' := by
  have hh := heap_alloc_last w (.cells (strV l).toArray 9)
  have hb : Below w.heap.size w (w.alloc (.cells (strV l).toArray 9)) := (Below.refl _ w).alloc (Nat.le_refl _) _
  refine (Parse_any (some ⟨w.heap.size, 0, none⟩) l.length l ⟨#[]⟩ _ (fun j x hj => ⟨_, 0, rfl, ?_⟩) (fun g off e => by cases e; rw [World.size_alloc]; omega) (Nat.le_refl _) hl hz (Nat.zero_le _) (by rw [World.size_alloc]; omega) m ((hb.cell (p := ⟨1, 0, none⟩) hw).trans hm) ((hb.cell (p := ⟨0, 0, none⟩) (Nat.lt_of_succ_lt hw)).trans hg)).mono fun e w' h => ⟨hb.trans (h.1.mono hb.size), h.2⟩
  rw [Nat.zero_add, cell_of_row _ _ _ _ _ _ hh]
  simp [strV, hj]
theorem load47 {W : World} {b : Nat} {cs : Array Value} (h : W.heap[b]? = some (.cells cs 47 (0, 0))) (a0 a1 a2 a3 a4 a5 a6 a7 a8 a9 a10 a11 a12 a13 : Value) (hc : cs = #[a0, a1, a2, a3, a4, a5, a6, a7, a8, a9, a10, a11, a12, a13]) :
    (loadVar 47 ⟨b, 0, none⟩).run Tryd.prog W = .ok (.agg cs) W := by
  subst hc; exact load14 h

set_option maxRecDepth 100000 in
set_option maxHeartbeats 4000000 in
theorem optsAlive (w : World) (hw : 1 < w.heap.size) (m : Int) (hm : w.cell? ⟨1, 0, none⟩ = some (.int .i64 m)) (hg : w.cell? ⟨0, 0, none⟩ = some ErrT) :
    Calls Tryd.prog 26 #[] w fun e w' => e = .returned (.bool true) ∧ Below w.heap.size w w' := by
  have HP1 : Hid (Calls Tryd.prog 28 #[.slice (some ⟨w.heap.size, 0, none⟩) 6 6, .string ⟨#[]⟩] (w.alloc (.cells #[.string ⟨#[45, 107, 106]⟩, .string ⟨#[51]⟩, .string ⟨#[97]⟩, .string ⟨#[88, 61, 49]⟩, .string ⟨#[45, 45, 115, 105, 108, 101, 110, 116]⟩, .string ⟨#[98]⟩] 9)) fun e w' => PsA w (some { x0 with j := 3, bs := upd (upd x0.bs 1) 5, gs := [nameB ⟨#[97]⟩, nameB ⟨#[98]⟩], vs := [⟨#[88, 61, 49]⟩] }) e w') := by
    have := parse_lit (w := w) [⟨#[45, 107, 106]⟩, ⟨#[51]⟩, ⟨#[97]⟩, ⟨#[88, 61, 49]⟩, ⟨#[45, 45, 115, 105, 108, 101, 110, 116]⟩, ⟨#[98]⟩] (by decide) (by decide) hw m hm hg
    rw [al_one] at this
    exact this
  have HP2 : Hid (∀ wi, Below w.heap.size w wi → Calls Tryd.prog 28 #[.slice (some ⟨wi.heap.size, 0, none⟩) 1 1, .string ⟨#[]⟩] (wi.alloc (.cells #[.string ⟨#[45, 106, 48]⟩] 9)) fun e w' => PsA wi none e w') := fun wi hb => by
    have := parse_lit (w := wi) [⟨#[45, 106, 48]⟩] (by decide) (by decide) (Nat.lt_of_lt_of_le hw hb.size) m ((hb.cell (p := ⟨1, 0, none⟩) hw).trans hm) ((hb.cell (p := ⟨0, 0, none⟩) (Nat.lt_of_succ_lt hw)).trans hg)
    rw [al_two] at this
    exact this
  have HFl : Hid (∀ (wi : World) (A1 A2 A3 : Option Addr) (c1 c2 c3 : Nat), StrsAt wi A3 [⟨#[88, 61, 49]⟩] → 1 ≤ c3 → Calls Tryd.prog 27 #[.agg #[.int .i64 3, .bool true, .bool false, .bool false, .bool false, .bool true, .bool false, .bool false, .bool false, .bool false, .bool false, .slice A1 0 c1, .slice A2 2 c2, .slice A3 1 c3]] wi fun e w' => e = .returned (.string ⟨#[107, 115, 32, 45, 45, 32, 88, 61, 49]⟩) ∧ Below wi.heap.size wi w') := fun wi A1 A2 A3 c1 c2 c3 hA hc => by
    have := Flags_any wi 3 (upd (upd x0.bs 1) 5) false (.slice A1 0 c1) (.slice A2 2 c2) A3 c3 [⟨#[88, 61, 49]⟩] hA hc (by decide) (by decide)
    rw [al_flags] at this
    exact this
  clear hm hg
  go_enter Tryd.func26, Tryd.ntmps26
  go_wp2_with fail
  refine HP1.out.mono ?_
  rintro e w1 ⟨hb1, v, rfl, vf, vg, vv, hv, of, og, ov⟩
  obtain ⟨A1, c1, rfl, _, _⟩ := of.form
  obtain ⟨A2, c2, rfl, _, _⟩ := og.form
  obtain ⟨A3, c3, rfl, hc3, _⟩ := ov.form
  obtain rfl : v = .agg #[.int .i64 3, .bool true, .bool false, .bool false, .bool false, .bool true, .bool false, .bool false, .bool false, .bool false, .bool false, .slice A1 0 c1, .slice A2 2 c2, .slice A3 1 c3] := hv
  have HB1 := Lib.hid hb1
  have HOV := Lib.hid ov.strs
  have HC3 := Lib.hid (show 1 ≤ c3 from hc3)
  clear hb1 of og ov hc3 HP1
  go_wp2_with fail
  have hr2 := heap_alloc_last w1 (.cells #[.int .i64 3, .bool true, .bool false, .bool false, .bool false, .bool true, .bool false, .bool false, .bool false, .bool false, .bool false, .slice A1 0 c1, .slice A2 2 c2, .slice A3 1 c3] 47)
  have hb2 : Below w1.heap.size w1 (w1.alloc (.cells #[.int .i64 3, .bool true, .bool false, .bool false, .bool false, .bool true, .bool false, .bool false, .bool false, .bool false, .bool false, .slice A1 0 c1, .slice A2 2 c2, .slice A3 1 c3] 47)) := (Below.refl _ w1).alloc (Nat.le_refl _) _
  obtain ⟨w2, hw2⟩ : ∃ w2, w1.alloc (.cells #[.int .i64 3, .bool true, .bool false, .bool false, .bool false, .bool true, .bool false, .bool false, .bool false, .bool false, .bool false, .slice A1 0 c1, .slice A2 2 c2, .slice A3 1 c3] 47) = w2 := ⟨_, rfl⟩
  have hs2 : w2.heap.size = w1.heap.size + 1 := by rw [← hw2]; exact World.size_alloc ..
  rw [hw2] at hr2 hb2 ⊢
  clear hw2
  have HB2 := Lib.hid (HB1.out.trans (hb2.mono HB1.out.size))
  obtain ⟨b2, hbk⟩ : ∃ b2, w1.heap.size = b2 := ⟨_, rfl⟩
  have HOV2 := Lib.hid (HOV.out.below hb2)
  have HX := Lib.hid (HP2.out w2 HB2.out)
  rw [hs2] at HX
  rw [hbk] at hr2 HX ⊢
  have HR2 := Lib.hid hr2
  clear hr2 hb2 hbk HOV HB1 hs2
  refine HX.out.mono ?_
  rintro e w3 ⟨hb3, rfl⟩
  have HB3 := Lib.hid (HB2.out.trans (hb3.mono HB2.out.size))
  have HOV3 := Lib.hid (HOV2.out.below hb3)
  have HR3 := Lib.hid ((hb3.block _ (lt_of_block HR2.out)).trans HR2.out)
  clear hb3 HB2 HOV2 HR2 HP2 HX
  unfold zeroO opRow
  go_wp2_with fail
  have hb4 : Below w3.heap.size w3 (w3.alloc (.cells #[.int .i64 0, .bool false, .bool false, .bool false, .bool false, .bool false, .bool false, .bool false, .bool false, .bool false, .bool false, .slice none 0 0, .slice none 0 0, .slice none 0 0] 47)) := (Below.refl _ w3).alloc (Nat.le_refl _) _
  have hr4 := (hb4.block _ (lt_of_block HR3.out)).trans HR3.out
  have HB4 := Lib.hid (HB3.out.trans (hb4.mono HB3.out.size))
  have HOV4 := Lib.hid (HOV3.out.below hb4)
  obtain ⟨w4, hw4⟩ : ∃ w4, w3.alloc (.cells #[.int .i64 0, .bool false, .bool false, .bool false, .bool false, .bool false, .bool false, .bool false, .bool false, .bool false, .bool false, .slice none 0 0, .slice none 0 0, .slice none 0 0] 47) = w4 := ⟨_, rfl⟩
  rw [hw4] at hr4 HB4 HOV4 ⊢
  have p0 := (rowo hr4 (j := 0) (v := .int .i64 3) rfl).1
  have p1 := (rowo hr4 (j := 1) (v := .bool true) rfl).1
  have p2 := (rowo hr4 (j := 2) (v := .bool false) rfl).1
  have p3 := (rowo hr4 (j := 3) (v := .bool false) rfl).1
  have p4 := (rowo hr4 (j := 4) (v := .bool false) rfl).1
  have p5 := (rowo hr4 (j := 5) (v := .bool true) rfl).1
  have p6 := (rowo hr4 (j := 6) (v := .bool false) rfl).1
  have p7 := (rowo hr4 (j := 7) (v := .bool false) rfl).1
  have p8 := (rowo hr4 (j := 8) (v := .bool false) rfl).1
  have p9 := (rowo hr4 (j := 9) (v := .bool false) rfl).1
  have p10 := (rowo hr4 (j := 10) (v := .bool false) rfl).1
  have p11 := (rowo hr4 (j := 11) (v := .slice A1 0 c1) rfl).1
  have p12 := (rowo hr4 (j := 12) (v := .slice A2 2 c2) rfl).1
  have p13 := (rowo hr4 (j := 13) (v := .slice A3 1 c3) rfl).1
  clear hw4 hb4 hr4 HB3 HOV3 HR3
  refine (numO_any 0 w4).mono ?_
  rintro e w5 ⟨rfl, hw5⟩
  obtain rfl := hw5.symm
  go_wp2_with fail
  refine (numO_any 60 _).mono ?_
  rintro e w5 ⟨rfl, hw5⟩
  obtain rfl := hw5.symm
  go_wp2_with fail
  refine (HFl.out _ A1 A2 A3 c1 c2 c3 HOV4.out HC3.out).mono ?_
  rintro e w6 ⟨rfl, hb6⟩
  go_wp2
  go_ret
  exact ⟨rfl, HB4.out.trans (hb6.mono HB4.out.size)⟩
end Go.Proofs.YtmcemaphhlcjfaaDoor
