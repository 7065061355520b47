/- LexQuotes answers true at every text; conditions: a text that lies in memory, the library's one number in its cell. -/
import Derived.Test.YtioddclglemlmaaDoorLexQ
namespace Go.Proofs.YtioddclglemlmaaDoor
open Go.RowKit

theorem app_l (a b : ByteArray) : (a ++ b).data.toList = a.data.toList ++ b.data.toList := by simp
theorem quo_text (q : UInt8) (s : ByteArray) : (⟨#[120, 32, q]⟩ ++ s ++ ⟨#[q, 32, 121]⟩ : ByteArray) = mk (quoL q s.data.toList) := by
  apply ba_ext
  rw [app_l, app_l]
  show [120, 32, q] ++ s.data.toList ++ [q, 32, 121] = [120, 32, q] ++ (s.data.toList ++ [q, 32, 121])
  simp
theorem com_text (s : ByteArray) : (⟨#[120, 32, 39, 97, 39, 32, 35]⟩ ++ s : ByteArray) = mk (comL s.data.toList) := by
  apply ba_ext
  rw [app_l]; rfl
theorem quo_tok (q : UInt8) (s : ByteArray) : mk ([q] ++ s.data.toList ++ [q]) = ⟨#[q]⟩ ++ s ++ ⟨#[q]⟩ := by
  apply ba_ext
  rw [app_l, app_l]; rfl
theorem quo_92 (q : UInt8) (hq : q = 39 ∨ q = 34) (s : ByteArray) (hS : ∀ c ∈ s.data.toList, PL c) : ∀ c ∈ (mk (quoL q s.data.toList)).data.toList, c ≠ 92 := by
  intro c hc
  have hc2 : c ∈ [120, 32, q] ++ (s.data.toList ++ [q, 32, 121]) := hc
  have hq92 : q ≠ 92 := by rcases hq with rfl | rfl <;> decide
  rcases List.mem_append.1 hc2 with h | h
  · have : c = 120 ∨ c = 32 ∨ c = q := by simpa using h
    rcases this with rfl | rfl | rfl
    · decide
    · decide
    · exact hq92
  · rcases List.mem_append.1 h with h | h
    · exact (hS c h).1
    · have : c = q ∨ c = 32 ∨ c = 121 := by simpa using h
      rcases this with rfl | rfl | rfl
      · exact hq92
      · decide
      · decide
theorem com_92 (s : ByteArray) (hS : ∀ c ∈ s.data.toList, PL c) : ∀ c ∈ (mk (comL s.data.toList)).data.toList, c ≠ 92 := by
  intro c hc
  have hc2 : c ∈ [120, 32, 39, 97, 39, 32, 35] ++ s.data.toList := hc
  rcases List.mem_append.1 hc2 with h | h
  · intro e; subst e; revert h; decide
  · exact (hS c h).1
theorem quo_call (q : UInt8) (hq : q = 39 ∨ q = 34) (s T1 T2 : ByteArray) (h1 : ⟨#[120, 32, q]⟩ ++ s ++ ⟨#[q, 32, 121]⟩ = T1) (h2 : ⟨#[q]⟩ ++ s ++ ⟨#[q]⟩ = T2) (hz : s.size ≤ 2000) (hS : ∀ c ∈ s.data.toList, PL c) (w : World) (m : Int) (hm : w.cell? ⟨0, 0, none⟩ = some (.int .i64 m)) :
    Calls Tryd.prog 6 #[.string T1] w fun e w' => (∃ g cap, e = .returned (.tuple #[.slice (some ⟨g, 0, none⟩) 4 cap, .int .i64 0]) ∧ 4 ≤ cap ∧ w'.cell? ⟨g, 3, none⟩ = some (.string T2)) ∧ Below w.heap.size w w' := by
  rw [quo_text] at h1
  subst h1
  have hsz : (mk (quoL q s.data.toList)).size ≤ 65536 := by rw [quo_size, Array.length_toList]; show s.size + 6 ≤ _; omega
  refine (Lex_any _ w hsz (quo_92 q hq s hS) m hm).mono fun e w' h => ⟨?_, h.2⟩
  have h3 := h.1
  rw [quo_lex q hq _ hS, quo_tok, h2] at h3
  obtain ⟨vt, he, ho⟩ := h3
  obtain ⟨g, cap, rfl, hc, hcl⟩ := tok_at ho (by simp)
  exact ⟨g, cap, he, hc, hcl 3 _ rfl⟩
theorem com_call (s T1 : ByteArray) (h1 : ⟨#[120, 32, 39, 97, 39, 32, 35]⟩ ++ s = T1) (hz : s.size ≤ 2000) (hS : ∀ c ∈ s.data.toList, PL c) (w : World) (m : Int) (hm : w.cell? ⟨0, 0, none⟩ = some (.int .i64 m)) :
    Calls Tryd.prog 6 #[.string T1] w fun e w' => (∃ g n cap, e = .returned (.tuple #[.slice (some ⟨g, 0, none⟩) n cap, .int .i64 0]) ∧ 3 ≤ n ∧ n ≤ cap ∧ w'.cell? ⟨g, 3, none⟩ = some (.string ⟨#[39, 97, 39]⟩)) ∧ Below w.heap.size w w' := by
  rw [com_text] at h1
  subst h1
  have hln : s.data.toList.length ≤ 2000 := by rw [Array.length_toList]; exact hz
  have hsz : (mk (comL s.data.toList)).size ≤ 65536 := by rw [mk_size]; unfold comL; simp; omega
  refine (Lex_any _ w hsz (com_92 s hS) m hm).mono fun e w' h => ⟨?_, h.2⟩
  have h3 := h.1
  obtain ⟨rest, e1, e2⟩ := com_lex _ hS hln
  rw [e1] at h3
  obtain ⟨vt, he, ho⟩ := h3
  obtain ⟨g, cap, rfl, hc, hcl⟩ := tok_at ho (by simp)
  refine ⟨g, _, cap, he, ?_, hc, hcl 3 _ rfl⟩
  cases rest with
  | nil => exact absurd rfl e2
  | cons x r => simp

set_option maxRecDepth 100000 in
set_option maxHeartbeats 4000000 in
theorem LexQuotes_law (s : ByteArray) (w : World) (hs : s.size ≤ 140737488351232) (hw : 0 < w.heap.size) (m : Int) (hm : w.cell? ⟨0, 0, none⟩ = some (.int .i64 m)) :
    Calls Tryd.prog 3 #[.string s] w fun e w' => e = .returned (.bool true) ∧ Below w.heap.size w w' := by
  have HA := Lib.hid (lexAlive w hw m hm)
  by_cases q1 : (2000 : Int) < s.size
  · go_enter Tryd.func3, Tryd.ntmps3
    go_wp2_with fail
    refine HA.out.mono ?_
    rintro e w1 ⟨rfl, hb1⟩
    go_wp2
    go_ret
    exact ⟨rfl, hb1⟩
  have hz : s.size ≤ 2000 := by omega
  have HM := Lib.hid hm
  clear hm
  go_enter Tryd.func3, Tryd.ntmps3
  go_wp2_with fail
  refine HA.out.mono ?_
  rintro e w1 ⟨rfl, hb1⟩
  have hs1 : w.heap.size ≤ w1.heap.size := hb1.size
  have HM1 := Lib.hid (show w1.cell? ⟨0, 0, none⟩ = some (.int .i64 m) from by rw [hb1.cell (p := ⟨0, 0, none⟩) hw]; exact HM.out)
  have HB1 := Lib.hid hb1
  clear hb1
  go_wp2
  go_loopw [4] (fun iv wi => ∃ k : Nat, iv = .int .i64 k ∧ k ≤ s.size ∧ wi = w1 ∧ Hid (∀ j, j < k → PL (s.get! j))) (fun iv _ => s.size - (intOf iv).toNat)
  case atStart => exact ⟨0, rfl, Nat.zero_le _, rfl, fun j h => absurd h (Nat.not_lt_zero _)⟩
  case round =>
    obtain ⟨k, rfl, hk, hwr, hok⟩ := hrel
    obtain rfl : w1 = wr := hwr.symm
    by_cases hlt : k < s.size
    · have qk : (k : Int) < s.size := by omega
      have hb := bget s k hlt
      obtain ⟨c, hc⟩ : ∃ c, s[k] = c := ⟨_, rfl⟩
      rw [hc] at hb
      by_cases h39 : c = 39
      · have n39 : ((c.toNat : Int) == 39) = true := by rw [h39]; rfl
        clear hok hb h39
        go_wp2
        go_ret
        exact ⟨rfl, HB1.out⟩
      have n39 : ((c.toNat : Int) == 39) = false := (u8_beq c 39).trans (beq_eq_false_iff_ne.2 h39)
      by_cases h34 : c = 34
      · have n34 : ((c.toNat : Int) == 34) = true := by rw [h34]; rfl
        clear hok hb h34 h39
        go_wp2
        go_ret
        exact ⟨rfl, HB1.out⟩
      have n34 : ((c.toNat : Int) == 34) = false := (u8_beq c 34).trans (beq_eq_false_iff_ne.2 h34)
      by_cases h92 : c = 92
      · have n92 : ((c.toNat : Int) == 92) = true := by rw [h92]; rfl
        clear hok hb h92 h34 h39
        go_wp2
        go_ret
        exact ⟨rfl, HB1.out⟩
      have n92 : ((c.toNat : Int) == 92) = false := (u8_beq c 92).trans (beq_eq_false_iff_ne.2 h92)
      by_cases h36 : c = 36
      · have n36 : ((c.toNat : Int) == 36) = true := by rw [h36]; rfl
        clear hok hb h36 h92 h34 h39
        go_wp2
        go_ret
        exact ⟨rfl, HB1.out⟩
      have n36 : ((c.toNat : Int) == 36) = false := (u8_beq c 36).trans (beq_eq_false_iff_ne.2 h36)
      by_cases h96 : c = 96
      · have n96 : ((c.toNat : Int) == 96) = true := by rw [h96]; rfl
        clear hok hb h96 h36 h92 h34 h39
        go_wp2
        go_ret
        exact ⟨rfl, HB1.out⟩
      have n96 : ((c.toNat : Int) == 96) = false := (u8_beq c 96).trans (beq_eq_false_iff_ne.2 h96)
      have HC : Hid (∀ j, j < k + 1 → PL (s.get! j)) := fun j hj => by
        by_cases hjk : j = k
        · rw [hjk, ← hb]; exact ⟨h92, h39, h34, h36, h96⟩
        · exact hok.out j (by omega)
      clear hok hb h96 h36 h92 h34 h39
      go_wp2
      exact ⟨⟨k + 1, by go_num, by omega, by trivial, HC⟩, by simp [intOf]; omega⟩
    · obtain rfl : k = s.size := by omega
      have hS : ∀ c ∈ s.data.toList, PL c := fun c hc => by
        obtain ⟨j, hj, rfl⟩ := List.getElem_of_mem hc
        have hj2 : j < s.size := by simpa using hj
        rw [get_list s j hj2]
        exact hok.out j hj2
      clear hok
      obtain ⟨A1, hA1⟩ : ∃ A1 : ByteArray, ⟨#[120, 32, 39]⟩ ++ s = A1 := ⟨_, rfl⟩
      obtain ⟨A2, hA2⟩ : ∃ A2 : ByteArray, A1 ++ ⟨#[39, 32, 121]⟩ = A2 := ⟨_, rfl⟩
      obtain ⟨B1, hB1⟩ : ∃ B1 : ByteArray, ⟨#[120, 32, 34]⟩ ++ s = B1 := ⟨_, rfl⟩
      obtain ⟨B2, hB2⟩ : ∃ B2 : ByteArray, B1 ++ ⟨#[34, 32, 121]⟩ = B2 := ⟨_, rfl⟩
      obtain ⟨C1, hC1⟩ : ∃ C1 : ByteArray, ⟨#[120, 32, 39, 97, 39, 32, 35]⟩ ++ s = C1 := ⟨_, rfl⟩
      obtain ⟨D1, hD1⟩ : ∃ D1 : ByteArray, ⟨#[39]⟩ ++ s = D1 := ⟨_, rfl⟩
      obtain ⟨D2, hD2⟩ : ∃ D2 : ByteArray, D1 ++ ⟨#[39]⟩ = D2 := ⟨_, rfl⟩
      obtain ⟨E1, hE1⟩ : ∃ E1 : ByteArray, ⟨#[34]⟩ ++ s = E1 := ⟨_, rfl⟩
      obtain ⟨E2, hE2⟩ : ∃ E2 : ByteArray, E1 ++ ⟨#[34]⟩ = E2 := ⟨_, rfl⟩
      have zA : A1.size ≤ 2003 := by rw [← hA1, ByteArray.size_append]; show 3 + s.size ≤ _; omega
      have zB : B1.size ≤ 2003 := by rw [← hB1, ByteArray.size_append]; show 3 + s.size ≤ _; omega
      have zD : D1.size ≤ 2001 := by rw [← hD1, ByteArray.size_append]; show 1 + s.size ≤ _; omega
      have zE : E1.size ≤ 2001 := by rw [← hE1, ByteArray.size_append]; show 1 + s.size ≤ _; omega
      have KA := Lib.hid fun (w : World) h => quo_call 39 (.inl rfl) s A2 D2 (by rw [hA1]; exact hA2) (by rw [hD1]; exact hD2) hz hS w m h
      have KB := Lib.hid fun (w : World) h => quo_call 34 (.inr rfl) s B2 E2 (by rw [hB1]; exact hB2) (by rw [hE1]; exact hE2) hz hS w m h
      have KC := Lib.hid fun (w : World) h => com_call s C1 hC1 hz hS w m h
      clear hS
      go_wp2_with fail
      refine (KA.out w1 HM1.out).mono ?_
      rintro e w2 ⟨⟨g1, cap1, rfl, hc1, k1⟩, hb2⟩
      have hs2 : w1.heap.size ≤ w2.heap.size := hb2.size
      have HM2 := Lib.hid ((hb2.cell (p := ⟨0, 0, none⟩) (show 0 < _ by omega)).trans HM1.out)
      have HB2 := Lib.hid (HB1.out.trans (hb2.mono hs1))
      have hg1 := World.block_lt_of_cell? _ _ k1
      have K1 := Lib.hid k1
      clear hb2 k1
      go_wp2_with fail
      refine (KB.out w2 HM2.out).mono ?_
      rintro e w3 ⟨⟨g2, cap2, rfl, hc2, k2⟩, hb3⟩
      have hs3 : w2.heap.size ≤ w3.heap.size := hb3.size
      have HM3 := Lib.hid ((hb3.cell (p := ⟨0, 0, none⟩) (show 0 < _ by omega)).trans HM2.out)
      have HB3 := Lib.hid (HB2.out.trans (hb3.mono (by omega)))
      have K2 := Lib.hid ((hb3.cell (p := ⟨g1, 3, none⟩) hg1).trans K1.out)
      have hg2 := World.block_lt_of_cell? _ _ k2
      have K3 := Lib.hid k2
      have hg1' : g1 < w3.heap.size := Nat.lt_of_lt_of_le hg1 hs3
      clear hb3 k2
      go_wp2_with fail
      refine (KC.out w3 HM3.out).mono ?_
      rintro e w4 ⟨⟨g3, n3, cap3, rfl, hn3, hc3, k3⟩, hb4⟩
      have k1 := (hb4.cell (p := ⟨g1, 3, none⟩) hg1').trans K2.out
      have k2 := (hb4.cell (p := ⟨g2, 3, none⟩) hg2).trans K3.out
      have HB4 := Lib.hid (HB3.out.trans (hb4.mono (by omega)))
      have hn3' : ¬ (n3 : Int) < 3 := by omega
      have hn31 : (1 : Int) < n3 := by omega
      clear hb4 hg1 hg2 hg1'
      go_wp2_with fail
      refine (num_any 0 _).mono ?_
      rintro e w5 ⟨rfl, hw5⟩
      obtain rfl := hw5.symm
      go_wp2_with fail
      refine (num_any 0 _).mono ?_
      rintro e w5 ⟨rfl, hw5⟩
      obtain rfl := hw5.symm
      go_wp2_with fail
      refine (num_any 0 _).mono ?_
      rintro e w5 ⟨rfl, hw5⟩
      obtain rfl := hw5.symm
      go_wp2
      go_ret
      exact ⟨rfl, HB4.out⟩
end Go.Proofs.YtioddclglemlmaaDoor
