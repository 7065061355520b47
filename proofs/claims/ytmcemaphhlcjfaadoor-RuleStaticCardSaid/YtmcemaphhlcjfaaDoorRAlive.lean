/- The answers of package rule that its laws ask first; condition: the library's one number in its cell. -/
import Derived.Test.YtmcemaphhlcjfaaDoorMakeA
import Derived.Test.YtmcemaphhlcjfaaDoorTake9
namespace Go.Proofs.YtmcemaphhlcjfaaDoor
open Go.RowKit

theorem numRule_any (x : Int) (w : World) : Calls Tryd.prog 16 #[.int .i64 x] w fun e w' => e = .returned (.int .i64 x) ∧ w' = w := by
  go_enter Tryd.func16, Tryd.ntmps16
  go_wp2
  go_ret
  exact ⟨rfl, rfl⟩
def ra1 : ByteArray := ⟨#[120, 32, 121, 32, 58, 32, 122, 32, 59, 32, 101, 99, 104, 111, 32, 97, 59, 98]⟩
def ra2 : ByteArray := ⟨#[97, 32, 58, 58, 61, 32, 36, 40, 98, 58, 99, 61, 100, 41]⟩
def ra3 : ByteArray := ⟨#[97, 46, 111, 32, 98, 46, 111]⟩
def ra4 : ByteArray := ⟨#[37, 46, 111, 32, 58, 32, 37, 46, 99, 32, 124, 32, 100]⟩
def raR : ByteArray := ⟨#[101, 99, 104, 111, 32, 97, 59, 98]⟩
def raV : ByteArray := ⟨#[36, 40, 98, 58, 99, 61, 100, 41]⟩
def raP : ByteArray := ⟨#[37, 46, 111]⟩
theorem ra1_k : (takeP ra1).k = 2 := by kernel_rfl
theorem ra1_rc : (takeP ra1).rc = raR := by kernel_rfl
theorem ra2_k : (takeP ra2).k = 1 := by kernel_rfl
theorem ra2_set : (takeP ra2).set = 2 := by kernel_rfl
theorem ra2_r : (takeP ra2).r = raV := by kernel_rfl
theorem ra_e : (makeP ra3 ra4 false).e = 0 := by kernel_rfl
theorem ra_st : (makeP ra3 ra4 false).st = raP := by kernel_rfl
theorem ra_O : (makeP ra3 ra4 false).O.length = 1 := by kernel_rfl
theorem ra_L : (makeP ra3 ra4 false).L.length = 2 := by kernel_rfl

set_option maxRecDepth 100000 in
set_option maxHeartbeats 4000000 in
theorem ruleAlive (w : World) (hw : 1 < w.heap.size) (m : Int) (hm : w.cell? ⟨1, 0, none⟩ = some (.int .i64 m)) :
    Calls Tryd.prog 10 #[] w fun e w' => e = .returned (.bool true) ∧ Below w.heap.size w w' := by
  have H1 : Hid (∀ w, Calls Tryd.prog 11 #[.string ⟨#[120, 32, 121, 32, 58, 32, 122, 32, 59, 32, 101, 99, 104, 111, 32, 97, 59, 98]⟩] w fun e w' => (∃ l r n set d h, e = .returned (.agg #[.int .i64 2, .string l, .string r, .string n, .string ⟨#[101, 99, 104, 111, 32, 97, 59, 98]⟩, .int .i64 set, .bool d, .bool h])) ∧ Below w.heap.size w w') := fun w => by
    refine (Take_any ra1 w (by decide)).mono fun e w' h => ⟨?_, h.2⟩
    rw [h.1]
    refine ⟨(takeP ra1).l, (takeP ra1).r, (takeP ra1).n, (takeP ra1).set, (takeP ra1).d, (takeP ra1).h, ?_⟩
    unfold headV; rw [ra1_k, ra1_rc]; rfl
  have H2 : Hid (∀ w, Calls Tryd.prog 11 #[.string ⟨#[97, 32, 58, 58, 61, 32, 36, 40, 98, 58, 99, 61, 100, 41]⟩] w fun e w' => (∃ l n rc d h, e = .returned (.agg #[.int .i64 1, .string l, .string ⟨#[36, 40, 98, 58, 99, 61, 100, 41]⟩, .string n, .string rc, .int .i64 2, .bool d, .bool h])) ∧ Below w.heap.size w w') := fun w => by
    refine (Take_any ra2 w (by decide)).mono fun e w' h => ⟨?_, h.2⟩
    rw [h.1]
    refine ⟨(takeP ra2).l, (takeP ra2).n, (takeP ra2).rc, (takeP ra2).d, (takeP ra2).h, ?_⟩
    unfold headV; rw [ra2_k, ra2_set, ra2_r]; rfl
  have H3 : Hid (∀ w, 1 < w.heap.size → w.cell? ⟨1, 0, none⟩ = some (.int .i64 m) → Calls Tryd.prog 13 #[.string ⟨#[97, 46, 111, 32, 98, 46, 111]⟩, .string ⟨#[37, 46, 111, 32, 58, 32, 37, 46, 99, 32, 124, 32, 100]⟩, .bool false] w fun e w' => (∃ AT nT cT AP nP cP AO cO AL cL d p t, e = .returned (.tuple #[.agg #[.slice AT nT cT, .slice AP nP cP, .slice AO 1 cO, .bool d, .bool p, .bool t, .string ⟨#[37, 46, 111]⟩, .slice none 0 0, .bool false, .string ⟨#[]⟩, .bool false], .slice AL 2 cL, .int .i64 0])) ∧ Below w.heap.size w w') := fun w hw hm => by
    refine (Make_any ra3 ra4 false w (by decide) (by decide) hw m hm).mono fun e w' h => ?_
    obtain ⟨vT, vP, vO, vL, he, hT, hP, hO, hL, hb⟩ := h
    refine ⟨?_, hb⟩
    obtain ⟨AT, cT, rfl, _, _⟩ := hT
    obtain ⟨AP, cP, rfl, _, _⟩ := hP
    obtain ⟨AO, cO, rfl, _, _⟩ := hO
    obtain ⟨AL, cL, rfl, _, _⟩ := hL
    rw [he]
    unfold ruleV
    rw [ra_e, ra_st, ra_O, ra_L]
    exact ⟨_, _, _, _, _, _, _, _, _, _, _, _, _, rfl⟩
  go_enter Tryd.func10, Tryd.ntmps10
  go_wp2_with fail
  refine (H1.out _).mono ?_
  rintro e w1 ⟨⟨l1, r1, n1, s1, d1, h1, rfl⟩, hb1⟩
  go_wp2_with fail
  refine (H2.out _).mono ?_
  rintro e w2 ⟨⟨l2, n2, rc2, d2, h2, rfl⟩, hb2⟩
  have hx1 := (hb2.block w1.heap.size (by simp)).trans (World.alloc_heap_new w1 _)
  have hB2 : Below w.heap.size w w2 := (hb1.alloc hb1.size _).trans (hb2.mono (by have := hb1.size; simp; omega))
  have hs2 : w1.heap.size < w2.heap.size := lt_of_block hx1
  have hs1 : w.heap.size ≤ w1.heap.size := hb1.size
  have HX1 := Lib.hid hx1
  have HB2 := Lib.hid hB2
  clear hb2 hb1 hx1 hB2
  have hm3 : Hid (∀ o : Obj, 1 < (w2.alloc o).heap.size ∧ (w2.alloc o).cell? ⟨1, 0, none⟩ = some (.int .i64 m)) := fun o => by
    have hb := HB2.out.alloc HB2.out.size o
    exact ⟨by simp; omega, by rw [hb.cell (p := ⟨1, 0, none⟩) hw]; exact hm⟩
  go_wp2_with fail
  refine (H3.out _ (hm3.out _).1 (hm3.out _).2).mono ?_
  rintro e w3 ⟨⟨AT, nT, cT, AP, nP, cP, AO, cO, AL, cL, d3, p3, t3, rfl⟩, hb3⟩
  have hx1 := (hb3.block w1.heap.size (by simp; omega)).trans ((Below.heap_alloc _ _ _ hs2).trans HX1.out)
  have hx2 := (hb3.block w2.heap.size (by simp)).trans (World.alloc_heap_new w2 _)
  have hB3 : Below w.heap.size w w3 := (HB2.out.alloc HB2.out.size _).trans (hb3.mono (by have := HB2.out.size; simp; omega))
  obtain ⟨a0, _⟩ := rowc hx1 (j := 0) rfl
  obtain ⟨a4, _⟩ := rowc hx1 (j := 4) rfl
  obtain ⟨b0, _⟩ := rowc hx2 (j := 0) rfl
  obtain ⟨b5, _⟩ := rowc hx2 (j := 5) rfl
  obtain ⟨b2, _⟩ := rowc hx2 (j := 2) rfl
  have hs3 : w2.heap.size < w3.heap.size := lt_of_block hx2
  have hs13 : w1.heap.size < w3.heap.size := lt_of_block hx1
  have HB3 := Lib.hid hB3
  clear hb3 hx1 hx2 hB3
  go_wp2_with fail
  refine (numRule_any 0 _).mono ?_
  rintro e w4 ⟨rfl, hw4⟩
  obtain rfl := hw4.symm
  go_wp2
  go_ret
  exact ⟨rfl, HB3.out.alloc HB3.out.size _⟩
end Go.Proofs.YtmcemaphhlcjfaaDoor
