/- The answers of package refs that its laws ask first; no condition. -/
import Derived.Test.YtndoloohdloflaaRefsB
namespace Go.Proofs.Ytndoloohdloflaa
open Go.RowKit

theorem numR_any (x : Int) (w : World) : Calls Try.prog 53 #[.int .i64 x] w fun e w' => e = .returned (.int .i64 x) ∧ w' = w := by
  go_enter Try.func53, Try.ntmps53
  go_wp2
  go_ret
  exact ⟨rfl, rfl⟩
theorem three {α β : Type} (l : List (α × β)) (a b c : α) (h : l.map (·.1) = [a, b, c]) : ∃ x0 x1 x2, l = [(a, x0), (b, x1), (c, x2)] := by
  rcases l with _ | ⟨p, _ | ⟨q, _ | ⟨r, _ | ⟨s, t⟩⟩⟩⟩ <;> simp at h
  obtain ⟨h1, h2, h3⟩ := h
  exact ⟨p.2, q.2, r.2, by rw [← h1, ← h2, ← h3]⟩
def al1 : ByteArray := ⟨#[97, 36, 36, 98, 36, 120, 36, 40, 115, 117, 98, 115, 116, 32, 97, 44, 98, 44, 99, 44, 100, 41]⟩
def al2 : ByteArray := ⟨#[36, 40, 120]⟩
def al3 : ByteArray := ⟨#[97, 36, 40, 98, 61, 99, 41, 61, 100]⟩
def al4 : ByteArray := ⟨#[61, 58]⟩
def sb0 : ByteArray := ⟨#[97, 36, 98]⟩
def sb1 : ByteArray := ⟨#[120]⟩
def sb2 : ByteArray := ⟨#[115, 117, 98, 115, 116]⟩
def sb3 : List ByteArray := [⟨#[97]⟩, ⟨#[98]⟩, ⟨#[99, 44, 100]⟩]
theorem al1_parts : partsI al1 = some [((1 : Int), sb0, (⟨#[]⟩ : ByteArray), ([] : List ByteArray)), ((2 : Int), sb1, (⟨#[]⟩ : ByteArray), ([] : List ByteArray)), ((3 : Int), (⟨#[]⟩ : ByteArray), sb2, sb3)] := by kernel_rfl
theorem al2_parts : partsI al2 = none := by kernel_rfl
theorem al3_scan : scanI al3 al4 = 7 := by kernel_rfl

set_option maxRecDepth 100000 in
set_option maxHeartbeats 1000000 in
theorem refsAlive (w : World) : Calls Try.prog 49 #[] w fun e w' => e = .returned (.bool true) ∧ Below w.heap.size w w' := by
  have H1 := Lib.hid fun w => Parse_any al1 w (by decide)
  have H2 := Lib.hid fun w => Parse_any al2 w (by decide)
  have H3 := Lib.hid fun w => Scan_any al3 al4 w (by decide) (by decide)
  rw [al1_parts] at H1
  rw [al2_parts] at H2
  rw [al3_scan] at H3
  have HN := Lib.hid fun x w => numR_any x w
  go_enter Try.func49, Try.ntmps49
  go_wp2_with fail
  refine (H1.out w).mono ?_
  rintro e w1 ⟨hb1, v, l, rfl, hm, hv, ha⟩
  obtain ⟨A, c, rfl, _, _⟩ := hv.form
  go_wp2_with fail
  refine (H2.out w1).mono ?_
  rintro e w2 ⟨hb2, rfl⟩
  have hv2 := hv.below hb2
  obtain ⟨x0, x1, x2, rfl⟩ := three l _ _ _ hm
  have hx2 : OwnG w2 w.heap.size 9 1 x2 3 (sb3.map Value.string) := (ha (((3 : Int), (⟨#[]⟩ : ByteArray), sb2, sb3), x2) (by simp)).below hb2
  obtain ⟨A3, c3, rfl, _, _⟩ := hx2.form
  rcases hv2.2 with ⟨_, h0⟩ | ⟨g, cap, cur, h, _⟩
  · simp at h0
  cases h
  rcases hx2.2 with ⟨_, h0⟩ | ⟨g3, cap3, cur3, h, _⟩
  · cases h0
  cases h
  have hc := hv2.cells
  have hc3 := hx2.cells
  have k1 : w2.cell? ⟨g, 1, none⟩ = some (.string sb0) := hc 1 _ rfl
  have k5 : w2.cell? ⟨g, 5, none⟩ = some (.string sb1) := hc 5 _ rfl
  have k10 : w2.cell? ⟨g, 10, none⟩ = some (.string sb2) := hc 10 _ rfl
  have k11 : w2.cell? ⟨g, 11, none⟩ = some (.slice (some ⟨g3, 0, none⟩) 3 c3) := hc 11 _ rfl
  have k2 : w2.cell? ⟨g3, 2, none⟩ = some (.string ⟨#[99, 44, 100]⟩) := hc3 2 _ rfl
  have t0 : sb0.toList = [97, 36, 98] := by decide +kernel
  have t1 : sb1.toList = [120] := by decide +kernel
  have t2 : sb2.toList = [115, 117, 98, 115, 116] := by decide +kernel
  have t4 : (⟨#[99, 44, 100]⟩ : ByteArray).toList = [99, 44, 100] := by decide +kernel
  have HB := Lib.hid ((hb1.trans (hb2.mono hb1.size)))
  clear hc hc3 hv hv2 ha hx2 hb1 hb2 hm
  go_wp2_with (first | (go_at_call 53; refine (HN.out _ _).mono ?_; rintro e w' ⟨rfl, rfl⟩) | (go_at_call 55; refine (H3.out _).mono ?_; rintro e w' ⟨rfl, rfl⟩))
  go_ret
  exact ⟨rfl, HB.out⟩

set_option maxRecDepth 100000 in
theorem RefsScans_walk (s t : ByteArray) (w : World) (hs : s.size ≤ 140737488351232) (ht : t.size ≤ 140737488351232) :
    Calls Try.prog 11 #[.string s, .string t] w fun e w' => e = .returned (.bool true) ∧ Below w.heap.size w w' := by
  have HL := Lib.hid (refsAlive w)
  have H1 := Lib.hid fun w => Scan_any s t w hs ht
  have H2 := Lib.hid fun w => ScanR_any s t w hs ht
  generalize scanI s t = E at *
  by_cases h1 : (20000 : Int) < s.size
  · go_enter Try.func11, Try.ntmps11
    go_wp2_with (go_at_call 49; refine HL.out.mono ?_; rintro e w1 ⟨rfl, HB⟩)
    go_ret
    exact ⟨rfl, HB⟩
  by_cases h2 : (100 : Int) < t.size
  · go_enter Try.func11, Try.ntmps11
    go_wp2_with (go_at_call 49; refine HL.out.mono ?_; rintro e w1 ⟨rfl, HB⟩)
    go_ret
    exact ⟨rfl, HB⟩
  go_enter Try.func11, Try.ntmps11
  go_wp2_with (first | (go_at_call 49; refine HL.out.mono ?_; rintro e w1 ⟨rfl, HB⟩) | (go_at_call 55; refine (H1.out _).mono ?_; rintro e w' ⟨rfl, rfl⟩) | (go_at_call 56; refine (H2.out _).mono ?_; rintro e w' ⟨rfl, rfl⟩))
  go_ret
  exact ⟨ret_bool (by simp), HB⟩
end Go.Proofs.Ytndoloohdloflaa
