/- The answers of package lex that its laws ask first; condition: the library's one number in its cell. -/
import Derived.Test.YtioddclglemlmaaDoorLexG
namespace Go.Proofs.YtioddclglemlmaaDoor
open Go.RowKit

theorem num_any (x : Int) (w : World) : Calls Tryd.prog 7 #[.int .i64 x] w fun e w' => e = .returned (.int .i64 x) ∧ w' = w := by
  go_enter Tryd.func7, Tryd.ntmps7
  go_wp2
  go_ret
  exact ⟨rfl, rfl⟩
/-- v reads as these tokens -/
def TokAt (W : World) (v : Value) (out : List (Int × ByteArray)) : Prop := ∃ g cap, v = .slice (some ⟨g, 0, none⟩) out.length cap ∧ out.length ≤ cap ∧ ∀ j u, (tokV out)[j]? = some u → W.cell? ⟨g, j, none⟩ = some u
theorem tok_at {W : World} {base : Nat} {v : Value} {out : List (Int × ByteArray)} (h : OwnG W base 29 2 v out.length (tokV out)) (h0 : 0 < out.length) : TokAt W v out := by
  obtain ⟨g, cap, cur, h1, _, h3, _, _, h5⟩ := h.at_ h0
  exact ⟨g, cap, h1, h3, h5⟩
theorem TokAt.below {W W' : World} {v : Value} {out : List (Int × ByteArray)} (h : TokAt W v out) (hb : Below W.heap.size W W') : TokAt W' v out := by
  obtain ⟨g, cap, h1, h2, h3⟩ := h
  refine ⟨g, cap, h1, h2, fun j u hj => ?_⟩
  have := h3 j u hj
  rw [hb.cell (p := ⟨g, j, none⟩) (World.block_lt_of_cell? _ _ this)]
  exact this
def la1 : ByteArray := ⟨#[97, 32, 39, 98, 32, 99, 39, 34, 100, 34, 59, 101, 38, 38, 102, 62, 103, 32, 35, 32, 104]⟩
def la2 : ByteArray := ⟨#[39, 97]⟩
def laT : List (Int × ByteArray) := [(1, ⟨#[97]⟩), (1, ⟨#[39, 98, 32, 99, 39, 34, 100, 34]⟩), (2, ⟨#[59]⟩), (1, ⟨#[101]⟩), (2, ⟨#[38, 38]⟩), (1, ⟨#[102]⟩), (2, ⟨#[62]⟩), (1, ⟨#[103]⟩), (4, ⟨#[]⟩)]
theorem la1_lex : lexF la1 (la1.size + 1) 0 [] = .ok laT := by kernel_rfl
theorem la2_lex : lexF la2 (la2.size + 1) 0 [] = .error 30 := by kernel_rfl
theorem la1_92 : ∀ c ∈ la1.data.toList, c ≠ 92 := by decide
theorem la2_92 : ∀ c ∈ la2.data.toList, c ≠ 92 := by decide

set_option maxRecDepth 100000 in
set_option maxHeartbeats 1000000 in
theorem lexAlive (w : World) (hw : 0 < w.heap.size) (m : Int) (hm : w.cell? ⟨0, 0, none⟩ = some (.int .i64 m)) :
    Calls Tryd.prog 5 #[] w fun e w' => e = .returned (.bool true) ∧ Below w.heap.size w w' := by
  have H1 : Hid (Calls Tryd.prog 6 #[.string ⟨#[97, 32, 39, 98, 32, 99, 39, 34, 100, 34, 59, 101, 38, 38, 102, 62, 103, 32, 35, 32, 104]⟩] w fun e w' => (∃ g cap, e = .returned (.tuple #[.slice (some ⟨g, 0, none⟩) 9 cap, .int .i64 0]) ∧ 9 ≤ cap ∧ w'.cell? ⟨g, 3, none⟩ = some (.string ⟨#[39, 98, 32, 99, 39, 34, 100, 34]⟩) ∧ w'.cell? ⟨g, 9, none⟩ = some (.string ⟨#[38, 38]⟩) ∧ w'.cell? ⟨g, 16, none⟩ = some (.int .i64 4)) ∧ Below w.heap.size w w') := by
    refine (Lex_any la1 w (by decide) la1_92 m hm).mono fun e w' h => ⟨?_, h.2⟩
    have h1 := h.1
    rw [la1_lex] at h1
    obtain ⟨vt, he, ho⟩ := h1
    obtain ⟨g, cap, rfl, hc, hcl⟩ := tok_at ho (by decide)
    exact ⟨g, cap, he, hc, hcl 3 _ rfl, hcl 9 _ rfl, hcl 16 _ rfl⟩
  have H2 : Hid (∀ w, w.cell? ⟨0, 0, none⟩ = some (.int .i64 m) → Calls Tryd.prog 6 #[.string ⟨#[39, 97]⟩] w fun e w' => e = .returned (.tuple #[.slice none 0 0, .int .i64 30]) ∧ Below w.heap.size w w') := fun w hm => by
    refine (Lex_any la2 w (by decide) la2_92 m hm).mono fun e w' h => ⟨?_, h.2⟩
    have h1 := h.1
    rw [la2_lex] at h1
    exact h1
  go_enter Tryd.func5, Tryd.ntmps5
  go_wp2_with fail
  refine H1.out.mono ?_
  rintro e w1 ⟨⟨g, cap, rfl, hcap, k3, k9, k16⟩, hb1⟩
  have hm1 : w1.cell? ⟨0, 0, none⟩ = some (.int .i64 m) := by rw [hb1.cell (p := ⟨0, 0, none⟩) hw]; exact hm
  have hs1 : w.heap.size ≤ w1.heap.size := hb1.size
  have HB1 := Lib.hid hb1
  have H2' := Lib.hid (H2.out w1 hm1)
  have K3 := Lib.hid (And.intro k3 (And.intro k9 k16))
  clear hm1 hb1 k3 k9 k16 H2
  go_wp2_with fail
  refine H2'.out.mono ?_
  rintro e w2 ⟨rfl, hb2⟩
  have hg := World.block_lt_of_cell? _ _ K3.out.1
  have k3 : w2.cell? ⟨g, 3, none⟩ = _ := (hb2.cell (p := ⟨g, 3, none⟩) hg).trans K3.out.1
  have k9 : w2.cell? ⟨g, 9, none⟩ = _ := (hb2.cell (p := ⟨g, 9, none⟩) hg).trans K3.out.2.1
  have k16 : w2.cell? ⟨g, 16, none⟩ = _ := (hb2.cell (p := ⟨g, 16, none⟩) hg).trans K3.out.2.2
  have HB2 := Lib.hid (HB1.out.trans (hb2.mono hs1))
  clear hb2 hg
  go_wp2_with fail
  refine (num_any 0 _).mono ?_
  rintro e w3 ⟨rfl, hw3⟩
  obtain rfl := hw3.symm
  go_wp2_with fail
  refine (num_any 30 _).mono ?_
  rintro e w4 ⟨rfl, hw4⟩
  obtain rfl := hw4.symm
  go_wp2
  go_ret
  exact ⟨rfl, HB2.out⟩
end Go.Proofs.YtioddclglemlmaaDoor
