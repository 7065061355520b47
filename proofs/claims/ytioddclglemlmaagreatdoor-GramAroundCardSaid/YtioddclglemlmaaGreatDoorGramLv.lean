/- The answers of package gram that its laws ask first; conditions: the library's one number and one type in their cells. -/
import Derived.Test.YtioddclglemlmaaGreatDoorGramPe
import Derived.Test.YtioddclglemlmaaGreatDoorGramSS
import Derived.Test.YtioddclglemlmaaGreatDoorPlB
namespace Go.Proofs.YtioddclglemlmaaGreatDoor
open Go.RowKit

theorem RdG.addr {w : World} {S : Nat → Prop} {e : TypeId} {size : Nat} {A : Option Addr} {c n : Nat} {xs : List Value} (h : RdG w S e size (.slice A n c) n xs) (hn : 0 < n) : ∃ g, A = some ⟨g, 0, none⟩ ∧ g < w.heap.size := by
  obtain ⟨g, rfl⟩ := h.1.addr hn
  exact ⟨g, rfl, (h.1.block_lt g (by simp [Value.ownBlock])).2⟩
theorem kc_one {W : World} {S : Nat → Prop} {kc : List (List Value)} {t : CmdT} (h : KidsAt W S kc [t]) : ∃ c, kc = [c] ∧ CmdAt W S c t := by
  obtain ⟨c, rfl⟩ : ∃ c, kc = [c] := by
    have := h.1
    match kc, this with
    | [c], _ => exact ⟨c, rfl⟩
  exact ⟨c, rfl, h.2 0 (by simp)⟩
theorem al_facts {base : Nat} {w : World} {u : Value} {x a b : ByteArray} {r : ByteArray × ByteArray} (h : CmdR base w u (.mk 5 false [] [] [] [.mk 1 false [x] [a, b] [r] [] [] []] [] [])) :
    ∃ A2 m2 A3 m3 A4 m4 gk ck A6 m6 ga ca B3 q3, u = .agg #[.int .i64 5, .bool false, .slice A2 0 m2, .slice A3 0 m3, .slice A4 0 m4, .slice (some ⟨gk, 0, none⟩) 1 ck, .slice A6 0 m6] ∧
      w.cell? ⟨gk, 2, none⟩ = some (.slice (some ⟨ga, 0, none⟩) 1 ca) ∧ w.cell? ⟨gk, 3, none⟩ = some (.slice B3 2 q3) ∧ w.cell? ⟨ga, 0, none⟩ = some (.string x) ∧ gk < w.heap.size ∧ ga < w.heap.size := by
  obtain ⟨cs, rfl, hc⟩ := h
  cases hc with
  | @mk _ _ _ _ _ _ _ _ va vw vr vk vm kc pc bc h0 h1 h2 h3 h4 h5 h6 h7 h8 h9 h10 h11 h12 =>
    obtain ⟨A2, m2, rfl⟩ := h1.form
    obtain ⟨A3, m3, rfl⟩ := h2.form
    obtain ⟨A4, m4, rfl⟩ := h3.form
    obtain ⟨A5, m5, rfl⟩ := h4.form
    obtain ⟨A6, m6, rfl⟩ := h7.form
    obtain ⟨c, rfl, hc⟩ := kc_one ⟨h5, h6⟩
    obtain ⟨gk, rfl, hgk⟩ := h4.addr (by simp)
    have hcl := fun j u hj => h4.1.cells j u hj
    cases hc with
    | @mk _ _ _ _ _ _ _ _ va vw vr vk vm kc pc bc g0 g1 g2 g3 g4 g5 g6 g7 g8 g9 g10 g11 g12 =>
      obtain ⟨B2, q2, rfl⟩ := g1.form
      obtain ⟨B3, q3, rfl⟩ := g2.form
      obtain ⟨ga, rfl, hga⟩ := g1.addr (by simp)
      exact ⟨A2, m2, A3, m3, A4, m4, gk, m5, A6, m6, ga, q2, B3, q3, rfl, hcl 2 _ rfl, hcl 3 _ rfl, g1.1.cells 0 _ rfl, hgk, hga⟩
set_option maxRecDepth 100000 in
set_option maxHeartbeats 4000000 in
theorem gramAlive (w : World) (hw : 1 < w.heap.size) (m : Int) (hm : w.cell? ⟨1, 0, none⟩ = some (.int .i64 m)) (hg : w.cell? ⟨0, 0, none⟩ = some ErrT) :
    Calls Tryz.prog 6 #[] w fun e w' => e = .returned (.bool true) ∧ Below w.heap.size w w' := by
  have HP1 := Lib.hid (Parse_any ⟨#[97, 61, 49, 32, 98, 32, 99, 32, 62, 100]⟩ w (by decide) (by decide) m hm hg hw)
  rw [gram_al1] at HP1
  have HP2 := Lib.hid fun wi (hb : Below w.heap.size w wi) => Parse_any ⟨#[97, 32, 38, 38]⟩ wi (by decide) (by decide) m ((hb.cell (p := ⟨1, 0, none⟩) hw).trans hm) ((hb.cell (p := ⟨0, 0, none⟩) (Nat.lt_of_succ_lt hw)).trans hg) (Nat.lt_of_lt_of_le hw hb.size)
  rw [gram_al2] at HP2
  clear hm hg
  go_enter Tryz.func6, Tryz.ntmps6
  go_wp2_with fail
  refine HP1.out.mono ?_
  rintro e w1 ⟨hb1, u, rfl, hc⟩
  obtain ⟨A2, m2, A3, m3, A4, m4, gk, ck, A6, m6, ga, ca, B3, q3, rfl, f1, f2, f3, lk, la⟩ := al_facts hc
  have r2 := heap_alloc_last w1 (.cells #[.int .i64 5, .bool false, .slice A2 0 m2, .slice A3 0 m3, .slice A4 0 m4, .slice (some ⟨gk, 0, none⟩) 1 ck, .slice A6 0 m6] 28)
  have hb2 : Below w1.heap.size w1 (w1.alloc (.cells #[.int .i64 5, .bool false, .slice A2 0 m2, .slice A3 0 m3, .slice A4 0 m4, .slice (some ⟨gk, 0, none⟩) 1 ck, .slice A6 0 m6] 28)) := (Below.refl _ w1).alloc (Nat.le_refl _) _
  obtain ⟨w2, hw2⟩ : ∃ w2, w1.alloc (.cells #[.int .i64 5, .bool false, .slice A2 0 m2, .slice A3 0 m3, .slice A4 0 m4, .slice (some ⟨gk, 0, none⟩) 1 ck, .slice A6 0 m6] 28) = w2 := ⟨_, rfl⟩
  rw [hw2] at r2 hb2
  have HB2 := Lib.hid (hb1.trans (hb2.mono hb1.size))
  have HP := Lib.hid (HP2.out w2 HB2.out)
  have HW2 := Lib.hid hw2
  have HF := Lib.hid (And.intro r2 (And.intro ((hb2.cell (p := ⟨gk, 2, none⟩) lk).trans f1) (And.intro ((hb2.cell (p := ⟨gk, 3, none⟩) lk).trans f2) ((hb2.cell (p := ⟨ga, 0, none⟩) la).trans f3))))
  have hlk : gk < w2.heap.size := Nat.lt_of_lt_of_le lk hb2.size
  have hla : ga < w2.heap.size := Nat.lt_of_lt_of_le la hb2.size
  clear hw2 r2 hb2 hb1 f1 f2 f3 hc HP1 HP2
  go_wp2_with fail
  rw [HW2.out]
  refine HP.out.mono ?_
  rintro e w3 ⟨hb3, rfl⟩
  obtain ⟨r2, f1, f2, f3⟩ := HF.out
  have hb4 : Below w2.heap.size w2 (w3.alloc (.cells #[.int .i64 0, .bool false, .slice none 0 0, .slice none 0 0, .slice none 0 0, .slice none 0 0, .slice none 0 0] 28)) := hb3.alloc hb3.size _
  have r4 := (hb4.block _ (lt_of_block r2)).trans r2
  have f1 := (hb4.cell (p := ⟨gk, 2, none⟩) hlk).trans f1
  have f2 := (hb4.cell (p := ⟨gk, 3, none⟩) hlk).trans f2
  have f3 := (hb4.cell (p := ⟨ga, 0, none⟩) hla).trans f3
  obtain ⟨w4, hw4⟩ : ∃ w4, w3.alloc (.cells #[.int .i64 0, .bool false, .slice none 0 0, .slice none 0 0, .slice none 0 0, .slice none 0 0, .slice none 0 0] 28) = w4 := ⟨_, rfl⟩
  rw [hw4] at r4 f1 f2 f3 hb4
  obtain ⟨x0, x1, x2, x3, x4, x5, x6⟩ := row7 r4
  have HB4 := Lib.hid (HB2.out.trans (hb4.mono HB2.out.size))
  have HW4 := Lib.hid hw4
  unfold zeroCmd
  clear r2 hw4 hb4 hb3 r4 HF HP
  go_wp2_with fail
  rw [HW4.out]
  refine (num_any 0 (by decide) w4).mono ?_
  rintro e w5 ⟨rfl, hw5⟩
  obtain rfl := hw5.symm
  go_wp2_with fail
  refine (num_any 31 (by decide) w4).mono ?_
  rintro e w5 ⟨rfl, hw5⟩
  obtain rfl := hw5.symm
  go_wp2
  go_ret
  exact ⟨rfl, HB4.out⟩
end Go.Proofs.YtioddclglemlmaaGreatDoor
