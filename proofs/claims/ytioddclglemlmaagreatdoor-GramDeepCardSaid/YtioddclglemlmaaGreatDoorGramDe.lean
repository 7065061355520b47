/- GramDeep; conditions: the library's one number and one type in their cells. -/
import Derived.Test.YtioddclglemlmaaGreatDoorGramLv
namespace Go.Proofs.YtioddclglemlmaaGreatDoor
open Go.RowKit

def nestT (r : Bool) (n : Nat) : ByteArray := if r then nestRs n else nestBs n
theorem nestT_step (r : Bool) (n : Nat) : nestT r (n + 1) = if r then (⟨#[40, 32]⟩ ++ nestT r n) ++ ⟨#[32, 41]⟩ else (⟨#[123, 32]⟩ ++ nestT r n) ++ ⟨#[59, 32, 125]⟩ := by cases r <;> rfl
theorem nestT_size (r : Bool) : ∀ n, (nestT r n).size ≤ 5 * n + 1
  | 0 => by cases r <;> decide
  | n + 1 => by
    have ih := nestT_size r n
    rw [nestT_step]
    cases r
    · rw [if_neg (by decide), ByteArray.size_append, ByteArray.size_append]
      have h1 : (⟨#[123, 32]⟩ : ByteArray).size = 2 := rfl
      have h2 : (⟨#[59, 32, 125]⟩ : ByteArray).size = 3 := rfl
      omega
    · rw [if_pos rfl, ByteArray.size_append, ByteArray.size_append]
      have h1 : (⟨#[40, 32]⟩ : ByteArray).size = 2 := rfl
      have h2 : (⟨#[32, 41]⟩ : ByteArray).size = 2 := rfl
      omega
theorem repL_nob (a : List UInt8) (ha : ∀ c ∈ a, c ≠ 92 ∧ c ≠ 35) (n : Nat) : ∀ c ∈ repL n a, c ≠ 92 ∧ c ≠ 35 := by
  intro c hc
  unfold repL at hc
  obtain ⟨l, hl, hcl⟩ := List.mem_flatten.1 hc
  rw [(List.mem_replicate.1 hl).2] at hcl
  exact ha c hcl
theorem nestT_nob (r : Bool) (n : Nat) : ∀ c ∈ (nestT r n).data.toList, c ≠ 92 ∧ c ≠ 35 := by
  intro c hc
  cases r
  · rw [show nestT false n = nestBs n from rfl, nestBs_list] at hc
    rcases List.mem_append.1 hc with h | h
    · exact repL_nob _ (by decide) n c h
    · rcases List.mem_cons.1 h with h | h
      · rw [h]; decide
      · exact repL_nob _ (by decide) n c h
  · rw [show nestT true n = nestRs n from rfl, nestRs_list] at hc
    rcases List.mem_append.1 hc with h | h
    · exact repL_nob _ (by decide) n c h
    · rcases List.mem_cons.1 h with h | h
      · rw [h]; decide
      · exact repL_nob _ (by decide) n c h
theorem gram_nestT (r : Bool) (n : Nat) (h1 : 1 ≤ n) (h70 : n ≤ 70) : (n ≤ 60 → ∃ c, gramP (nestT r n) = .ok c) ∧ (60 < n → gramP (nestT r n) = .error 42) := by
  cases r
  · exact gram_nestB n h1 h70
  · exact gram_nestR n h1 h70
set_option maxRecDepth 100000 in
set_option maxHeartbeats 4000000 in
theorem GramDeep_law (n : Int) (r : Bool) (w : World) (_h1 : (Lit.int .i64 n).wf = true) (hw : 1 < w.heap.size) (m : Int) (hm : w.cell? ⟨1, 0, none⟩ = some (.int .i64 m)) (hg : w.cell? ⟨0, 0, none⟩ = some ErrT) :
    Calls Tryz.prog 5 #[.int .i64 n, .bool r] w fun e w' => e = .returned (.bool true) ∧ Below w.heap.size w w' := by
  have HA := Lib.hid (gramAlive w hw m hm hg)
  by_cases q1 : n < 1
  · go_enter Tryz.func5, Tryz.ntmps5
    go_wp2_with fail
    refine HA.out.mono ?_
    rintro e w1 ⟨rfl, hb1⟩
    go_wp2
    go_ret
    exact ⟨rfl, hb1⟩
  by_cases q2 : 70 < n
  · go_enter Tryz.func5, Tryz.ntmps5
    go_wp2_with fail
    refine HA.out.mono ?_
    rintro e w1 ⟨rfl, hb1⟩
    go_wp2
    go_ret
    exact ⟨rfl, hb1⟩
  obtain ⟨N, rfl⟩ : ∃ N : Nat, n = N := ⟨n.toNat, by omega⟩
  have HP := Lib.hid fun wi (hb : Below w.heap.size w wi) (s : ByteArray) (hs : s.size ≤ 65536) nob => Parse_any s wi hs nob m ((hb.cell (p := ⟨1, 0, none⟩) hw).trans hm) ((hb.cell (p := ⟨0, 0, none⟩) (Nat.lt_of_succ_lt hw)).trans hg) (Nat.lt_of_lt_of_le hw hb.size)
  clear hm hg _h1
  go_enter Tryz.func5, Tryz.ntmps5
  go_wp2_with fail
  refine HA.out.mono ?_
  rintro e w1 ⟨rfl, hb1⟩
  have HB1 := Lib.hid hb1
  clear hb1 HA
  go_wp2
  go_loopw [6, 7] (fun sv iv wi => ∃ (k : Nat) (L : ByteArray), iv = .int .i64 k ∧ sv = .string L ∧ k ≤ N ∧ wi = w1 ∧ Hid (L = nestT r k)) (fun _ iv _ => N - (intOf iv).toNat)
  case atStart => exact ⟨0, _, rfl, rfl, Nat.zero_le _, rfl, (by cases r <;> rfl : _ = nestT r 0)⟩
  case round =>
    obtain ⟨k, L, rfl, rfl, hk, hwr, hLk⟩ := hrel
    obtain rfl : w1 = wr := hwr.symm
    by_cases hlt : k < N
    · have qk : (k : Int) < N := by omega
      have hLs : L.size ≤ 351 := by rw [hLk.out]; have := nestT_size r k; omega
      have hst := nestT_step r k
      rw [← hLk.out] at hst
      cases r with
      | false =>
        rw [if_neg (by decide)] at hst
        have HST := Lib.hid hst
        clear hst
        go_wp2
        exact ⟨⟨k + 1, _, by go_num, rfl, by omega, trivial, HST.out.symm⟩, by simp [intOf]; omega⟩
      | true =>
        rw [if_pos rfl] at hst
        have HST := Lib.hid hst
        clear hst
        go_wp2
        exact ⟨⟨k + 1, _, by go_num, rfl, by omega, trivial, HST.out.symm⟩, by simp [intOf]; omega⟩
    · obtain rfl : k = N := by omega
      have hsz : L.size ≤ 65536 := by rw [hLk.out]; have := nestT_size r k; omega
      have hpa := HP.out w1 HB1.out L hsz (by rw [hLk.out]; exact nestT_nob r k)
      have hgr := gram_nestT r k (by omega) (by omega)
      rw [← hLk.out] at hgr
      by_cases q60 : k ≤ 60
      · obtain ⟨c, hc⟩ := hgr.1 q60
        rw [hc] at hpa
        have HPA := Lib.hid hpa
        have q61 : ¬ (60 : Int) < k := by omega
        clear hpa hgr hc hsz
        go_wp2_with fail
        refine HPA.out.mono ?_
        rintro e w2 ⟨hb2, u, rfl, cs, rfl, hcm⟩
        obtain ⟨kc0, nc0, B2, q2, p2, B3, q3, p3, B4, q4, p4, B5, q5, p5, B6, q6, p6, rfl⟩ := hcm.lit
        have HB2 := Lib.hid (HB1.out.trans (hb2.mono HB1.out.size))
        clear hb2 hcm
        go_wp2_with fail
        refine (num_any 0 (by decide) _).mono ?_
        rintro e w5 ⟨rfl, hw5⟩
        obtain rfl := hw5.symm
        go_wp2
        go_ret
        exact ⟨rfl, HB2.out.alloc HB2.out.size _⟩
      · rw [hgr.2 (by omega)] at hpa
        have HPA := Lib.hid hpa
        have q61 : (60 : Int) < k := by omega
        clear hpa hgr hsz
        go_wp2_with fail
        refine HPA.out.mono ?_
        rintro e w2 ⟨hb2, rfl⟩
        have HB2 := Lib.hid (HB1.out.trans (hb2.mono HB1.out.size))
        clear hb2
        unfold zeroCmd
        go_wp2_with fail
        refine (num_any 42 (by decide) _).mono ?_
        rintro e w5 ⟨rfl, hw5⟩
        obtain rfl := hw5.symm
        go_wp2
        go_ret
        exact ⟨rfl, HB2.out.alloc HB2.out.size _⟩
end Go.Proofs.YtioddclglemlmaaGreatDoor
