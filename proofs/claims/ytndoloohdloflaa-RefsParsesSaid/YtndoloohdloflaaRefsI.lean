/- The part that stands within a reference, in the reference; condition: texts of at most a million bytes. -/
import Derived.Test.YtndoloohdloflaaRefs8
namespace Go.Proofs.Ytndoloohdloflaa
open Go.RowKit

set_option maxRecDepth 100000 in
set_option maxHeartbeats 400000 in
theorem Left_any (s : ByteArray) (w : World) (hs : s.size ≤ 1000000) :
    Calls Try.prog 106 #[.string s] w fun e w' => e = .returned (.string (leftB s)) ∧ w' = w := by
  obtain ⟨R, hR⟩ : ∃ R, leftB s = R := ⟨_, rfl⟩
  rw [hR]
  have e0 : s.extract 0 s.size = s := by apply ba_ext; rw [extract_list, List.drop_zero, List.take_of_length_le (by simp)]
  have HR : Hid (leftB (s.extract 0 s.size) = R) := by unfold Hid; rw [e0]; exact hR
  clear hR e0
  go_enter Try.func106, Try.ntmps106
  go_wp2
  go_loopw [3] (fun iv wi => ∃ i : Nat, iv = .int .i64 i ∧ i ≤ s.size ∧ Hid (leftB (s.extract i s.size) = R) ∧ wi = w) (fun iv _ => s.size - (intOf iv).toNat)
  case atStart => exact ⟨0, rfl, Nat.zero_le _, HR, rfl⟩
  case round =>
    obtain ⟨i, rfl, hi, hrel, hwr⟩ := hrel
    obtain rfl : w = wr := hwr.symm
    by_cases hlt : i < s.size
    · have q1 : (i : Int) < s.size := by omega
      have hst := left_step s i hlt
      rw [hrel.out] at hst
      have HBl := Lib.hid fun w => blankR_any (s[i]) w
      have hbg := bget s i hlt
      cases hq : isB (s.get! i)
      · rw [hq] at hst
        rw [hbg, hq, ← hbg] at HBl
        obtain rfl : R = s.extract i s.size := by simpa using hst
        clear hst hrel hq hbg
        go_wp2_with (go_at_call 104; refine (HBl.out _).mono ?_; rintro e w' ⟨rfl, rfl⟩)
        go_ret
        exact ⟨rfl, rfl⟩
      · rw [hq] at hst
        rw [hbg, hq, ← hbg] at HBl
        have HS : Hid (leftB (s.extract (i + 1) s.size) = R) := by simpa [Hid] using hst.symm
        clear hst hrel hq hbg
        go_wp2_with (go_at_call 104; refine (HBl.out _).mono ?_; rintro e w' ⟨rfl, rfl⟩)
        exact ⟨⟨i + 1, by go_num, by omega, HS, by trivial⟩, by simp [intOf]; omega⟩
    · obtain rfl : i = s.size := by omega
      obtain rfl : R = s.extract s.size s.size := by rw [← hrel.out, left_end]
      clear hrel
      go_wp2
      go_ret
      exact ⟨rfl, rfl⟩

def bI : Option Nat → Int
  | none => -1
  | some j => j
theorem best34 (s : ByteArray) : bestK s 35 = bestK s 34 := by
  rw [bestK, if_neg]
  have : (fAt 34).1.size = 0 := fAt_34
  simp [updK, this]
def nmF (k : Nat) : ByteArray := (fAt k).1
def mxF (k : Nat) : Int := (fAt k).2.2
def up1 (s : ByteArray) (z : Nat) (x : ByteArray) : Bool := decide (z < x.size) && (decide (x.size < s.size) && (Lib.hasPrefix s.data.toList x.data.toList && isB (s.get! x.size)))
theorem best_n (s : ByteArray) (k : Nat) (h : bestK s k = none) : bestK s (k + 1) = if up1 s 0 (nmF k) = true then some k else none := by
  rw [bestK, h]; rfl
theorem best_s (s : ByteArray) (k j : Nat) (h : bestK s k = some j) : bestK s (k + 1) = if up1 s (nmF j).size (nmF k) = true then some k else some j := by
  rw [bestK, h]; rfl
theorem up1_of {s x : ByteArray} {z : Nat} (h1 : z < x.size) (h2 : x.size < s.size) (h3 : Lib.hasPrefix s.data.toList x.data.toList = true) (h4 : isB (s.get! x.size) = true) : up1 s z x = true := by
  unfold up1; simp [h1, h2, h3, h4]
theorem up1_no1 {s x : ByteArray} {z : Nat} (h : ¬ z < x.size) : up1 s z x = false := by unfold up1; simp [h]
theorem up1_no2 {s x : ByteArray} {z : Nat} (h : ¬ x.size < s.size) : up1 s z x = false := by unfold up1; simp [h]
theorem up1_no3 {s x : ByteArray} {z : Nat} (h : Lib.hasPrefix s.data.toList x.data.toList = false) : up1 s z x = false := by unfold up1; simp [h]
theorem up1_no4 {s x : ByteArray} {z : Nat} (h : isB (s.get! x.size) = false) : up1 s z x = false := by unfold up1; simp [h]

theorem left_le (s : ByteArray) : (leftB s).size ≤ s.size := by
  unfold leftB
  have : (s.data.toList.dropWhile isB).length ≤ s.data.toList.length := (List.dropWhile_sublist _).length_le
  show (s.data.toList.dropWhile isB).toArray.size ≤ s.data.size
  simpa using this
set_option maxRecDepth 100000 in
set_option maxHeartbeats 2000000 in
theorem inner_any (s : ByteArray) (w : World) (hs : s.size ≤ 1000000) :
    Calls Try.prog 86 #[.string s] w fun e W' => ∃ v, e = .returned (.agg #[.int .i64 (withinP s).1, .string (withinP s).2.1, .string (withinP s).2.2.1, v]) ∧ OwnG W' w.heap.size 9 1 v (withinP s).2.2.2.length ((withinP s).2.2.2.map Value.string) ∧ Below w.heap.size w W' := by
  have HF := Lib.hid fun w => funs_any w
  have hcl : ∀ k, k < 34 → ∀ (W : World) g, W.heap[g]? = some (.cells funB 86 (0, 0)) → W.cell? ⟨g, k * 3, none⟩ = some (.string (nmF k)) ∧ W.cell? ⟨g, k * 3 + 2, none⟩ = some (.int .i64 (mxF k)) := fun k h W g hb => by
    rw [Nat.mul_comm]; exact ⟨(fAt_cells k h W g hb).1, (fAt_cells k h W g hb).2.2⟩
  have hbn := best_n s
  have hbs := best_s s
  have hb0 : bestK s 0 = none := rfl
  have hbl : ∀ k j, k ≤ 34 → bestK s k = some j → j < 34 ∧ (nmF j).size < s.size := fun k j hk h => best_in s k j (by omega) h
  have hrn : bestK s 34 = none → withinP s = (2, s, ⟨#[]⟩, []) := fun h => within_none (by rw [best34]; exact h)
  have hrs : ∀ j, bestK s 34 = some j → withinP s = (3, ⟨#[]⟩, nmF j, cutI (mxF j) (leftB (s.extract (nmF j).size s.size))) := fun j h => within_some (by rw [best34]; exact h)
  have hle : ∀ k, (nmF k).size ≤ 12 := fAt_le
  have hpos : ∀ k, k < 34 → 0 < (nmF k).size := fAt_pos
  obtain ⟨R, hR⟩ : ∃ R, withinP s = R := ⟨_, rfl⟩
  rw [hR] at hrn hrs ⊢
  clear hR
  obtain ⟨FB, hFB⟩ : ∃ FB, funB = FB := ⟨_, rfl⟩
  rw [hFB] at HF hcl
  clear hFB
  obtain ⟨B, hB⟩ : ∃ B, bestK s = B := ⟨_, rfl⟩
  simp only [hB] at hbn hbs hb0 hbl hrn hrs
  clear hB
  obtain ⟨nm, hnm⟩ : ∃ nm, nmF = nm := ⟨_, rfl⟩
  obtain ⟨mx, hmx⟩ : ∃ mx, mxF = mx := ⟨_, rfl⟩
  rw [hnm] at hcl hbn hbs hbl hrs hle hpos
  rw [hmx] at hcl hrs
  clear hnm hmx
  have HCL := Lib.hid hcl
  have HBN := Lib.hid hbn
  have HBS := Lib.hid hbs
  have HB0 := Lib.hid hb0
  have HBL := Lib.hid hbl
  have HRN := Lib.hid hrn
  have HRS := Lib.hid hrs
  have HLE := Lib.hid hle
  have HPOS := Lib.hid hpos
  clear hcl hbn hbs hb0 hbl hrn hrs hle hpos
  go_enter Try.func86, Try.ntmps86
  go_wp2_with (go_at_call 88; refine (HF.out _).mono ?_; rintro e w1 ⟨rfl, hw1⟩; have HW1 := Lib.hid hw1; clear hw1)
  have b0 := World.alloc_heap_new w (.cells #[.int .i64 0, .string ⟨#[]⟩, .string ⟨#[]⟩, .slice none 0 0] 44)
  have b1 : w1.heap[w.heap.size + 1]? = some (.cells FB 86 (0, 0)) := by
    rw [HW1.out]
    have := World.alloc_heap_new (w.alloc (.cells #[.int .i64 0, .string ⟨#[]⟩, .string ⟨#[]⟩, .slice none 0 0] 44)) (.cells FB 86)
    rwa [World.size_alloc] at this
  have b2 : w1.heap[w.heap.size]? = some (.cells #[.int .i64 0, .string ⟨#[]⟩, .string ⟨#[]⟩, .slice none 0 0] 44 (0, 0)) := by
    rw [HW1.out]
    exact (Below.heap_alloc _ _ w.heap.size (by simp)).trans b0
  have hB : Below w.heap.size w w1 := by rw [HW1.out]; exact ((Below.refl _ w).alloc (Nat.le_refl _) _).alloc (by simp) _
  clear HW1 b0
  obtain ⟨h, hh⟩ : ∃ h, w.heap.size = h := ⟨_, rfl⟩
  rw [hh] at b1 b2 hB ⊢
  have B1 := Lib.hid b1
  have B2 := Lib.hid b2
  have HBel := Lib.hid hB
  clear b1 b2 hB
  have HH := Lib.hid hh
  clear hh
  go_loopw [4, 5, 6] (fun bv iv _ wi => ∃ (k : Nat) (bi : Int), iv = .int .i64 k ∧ k ≤ 34 ∧ bv = .int .i64 bi ∧ Hid (bi = bI (B k)) ∧ wi.heap[h]? = some (.cells #[.int .i64 0, .string ⟨#[]⟩, .string ⟨#[]⟩, .slice none 0 0] 44 (0, 0)) ∧ wi.heap[h + 1]? = some (.cells FB 86 (0, 0)) ∧ Below h w wi) (fun _ iv _ _ => 34 - (intOf iv).toNat)
  case atStart => exact ⟨0, -1, rfl, Nat.zero_le _, rfl, by rw [HB0.out]; rfl, B2.out, B1.out, HBel.out⟩
  case round =>
    obtain ⟨k, bi, rfl, hk, rfl, hbi, hg, hf, hbel⟩ := hrel
    by_cases hlt : k < 34
    · have q1 : (k : Int) < 34 := by omega
      obtain ⟨c0, -⟩ := HCL.out k hlt wr _ hf
      have hfl := HLE.out k
      have hfp := HPOS.out k hlt
      obtain ⟨bo, hbo⟩ : ∃ bo, B k = bo := ⟨_, rfl⟩
      have HG := Lib.hid hg
      have HFd := Lib.hid hf
      cases bo with
      | none =>
        have hup := HBN.out k hbo
        have hneg : bi < 0 := by rw [hbi.out, hbo]; decide
        have HN1 : Hid (bI (B k) = bi) := hbi.out.symm
        obtain ⟨fn, hfn⟩ : ∃ fn, nm k = fn := ⟨_, rfl⟩
        rw [hfn] at c0 hfl hfp hup
        clear hfn hbi hg hf
        have HBO := Lib.hid hbo
        clear hbo
        by_cases t2 : fn.size < s.size
        · have t2' : (fn.size : Int) < s.size := by omega
          have hpre := pre_iff s fn
          cases t3 : Lib.hasPrefix s.data.toList fn.data.toList
          · have HSK : Hid (bi = bI (B (k + 1))) := by unfold Hid; rw [hup, up1_no3 t3, if_neg (by decide), ← HBO.out]; exact HN1.out.symm
            rw [t3] at hpre
            clear hup t3
            go_wp2
            go_quiet (fail)
            rename_i nq
            go_wp2
            exact ⟨⟨k + 1, bi, by go_num, by omega, rfl, HSK, HG.out, HFd.out, below_drewN hbel nq⟩, by simp [intOf]; omega⟩
          · rw [t3] at hpre
            have HBl := Lib.hid fun w => blankR_any (s[fn.size]) w
            have hbg := bget s fn.size t2
            cases t4 : isB (s.get! fn.size)
            · have HSK : Hid (bi = bI (B (k + 1))) := by unfold Hid; rw [hup, up1_no4 t4, if_neg (by decide), ← HBO.out]; exact HN1.out.symm
              rw [hbg, t4, ← hbg] at HBl
              clear hup t3 t4 hbg
              go_wp2
              go_quiet (first | (go_at_call 104; exact Calls.quiet_of_same (HBl.out _)))
              rename_i nq
              go_wp2
              exact ⟨⟨k + 1, bi, by go_num, by omega, rfl, HSK, HG.out, HFd.out, below_drewN hbel nq⟩, by simp [intOf]; omega⟩
            · rw [hbg, t4, ← hbg] at HBl
              have HSK : Hid ((k : Int) = bI (B (k + 1))) := by unfold Hid; rw [hup, up1_of hfp t2 t3 t4, if_pos rfl]; rfl
              clear hup t3 t4 hbg
              go_wp2
              go_quiet (first | (go_at_call 104; exact Calls.quiet_of_same (HBl.out _)))
              rename_i nq
              go_wp2
              exact ⟨⟨k + 1, k, by go_num, by omega, rfl, HSK, HG.out, HFd.out, below_drewN hbel nq⟩, by simp [intOf]; omega⟩
        · have t2' : decide ((fn.size : Int) < s.size) = false := decide_eq_false (by omega)
          have HSK : Hid (bi = bI (B (k + 1))) := by unfold Hid; rw [hup, up1_no2 t2, if_neg (by decide), ← HBO.out]; exact HN1.out.symm
          clear hup
          go_wp2
          go_quiet (fail)
          rename_i nq
          go_wp2
          exact ⟨⟨k + 1, bi, by go_num, by omega, rfl, HSK, HG.out, HFd.out, below_drewN hbel nq⟩, by simp [intOf]; omega⟩
      | some j =>
        have hup := HBS.out k j hbo
        obtain ⟨hj, -⟩ := HBL.out k j (by omega) hbo
        obtain rfl : bi = (j : Int) := by rw [hbi.out, hbo]; rfl
        have HN1 : Hid (bI (B k) = (j : Int)) := hbi.out.symm
        obtain ⟨d0, -⟩ := HCL.out j hj wr _ hf
        have hgl := HLE.out j
        obtain ⟨fn, hfn⟩ : ∃ fn, nm k = fn := ⟨_, rfl⟩
        obtain ⟨gn, hgn⟩ : ∃ gn, nm j = gn := ⟨_, rfl⟩
        rw [hfn] at c0 hfl hfp hup
        rw [hgn] at d0 hgl hup
        clear hfn hgn hbi hg hf
        have HBO := Lib.hid hbo
        clear hbo
        have qj : decide ((j : Int) < 0) = false := decide_eq_false (by omega)
        have qj0 : (0 : Int) ≤ (j : Int) := by omega
        have qj2 : (j : Int) < 34 := by omega
        by_cases t2 : fn.size < s.size
        · have t2' : (fn.size : Int) < s.size := by omega
          have hpre := pre_iff s fn
          cases t3 : Lib.hasPrefix s.data.toList fn.data.toList
          · have HSK : Hid ((j : Int) = bI (B (k + 1))) := by unfold Hid; rw [hup, up1_no3 t3, if_neg (by decide), ← HBO.out]; exact HN1.out.symm
            rw [t3] at hpre
            clear hup t3
            go_wp2
            go_quiet (fail)
            rename_i nq
            go_wp2
            exact ⟨⟨k + 1, j, by go_num, by omega, rfl, HSK, HG.out, HFd.out, below_drewN hbel nq⟩, by simp [intOf]; omega⟩
          · rw [t3] at hpre
            have HBl := Lib.hid fun w => blankR_any (s[fn.size]) w
            have hbg := bget s fn.size t2
            cases t4 : isB (s.get! fn.size)
            · have HSK : Hid ((j : Int) = bI (B (k + 1))) := by unfold Hid; rw [hup, up1_no4 t4, if_neg (by decide), ← HBO.out]; exact HN1.out.symm
              rw [hbg, t4, ← hbg] at HBl
              clear hup t3 t4 hbg
              go_wp2
              go_quiet (first | (go_at_call 104; exact Calls.quiet_of_same (HBl.out _)))
              rename_i nq
              go_wp2
              exact ⟨⟨k + 1, j, by go_num, by omega, rfl, HSK, HG.out, HFd.out, below_drewN hbel nq⟩, by simp [intOf]; omega⟩
            · rw [hbg, t4, ← hbg] at HBl
              by_cases t1 : gn.size < fn.size
              · have t1' : (gn.size : Int) < fn.size := by omega
                have HSK : Hid ((k : Int) = bI (B (k + 1))) := by unfold Hid; rw [hup, up1_of t1 t2 t3 t4, if_pos rfl]; rfl
                clear hup t3 t4 hbg
                go_wp2
                go_quiet (first | (go_at_call 104; exact Calls.quiet_of_same (HBl.out _)))
                rename_i nq
                go_wp2
                exact ⟨⟨k + 1, k, by go_num, by omega, rfl, HSK, HG.out, HFd.out, below_drewN hbel nq⟩, by simp [intOf]; omega⟩
              · have t1' : decide ((gn.size : Int) < fn.size) = false := decide_eq_false (by omega)
                have HSK : Hid ((j : Int) = bI (B (k + 1))) := by unfold Hid; rw [hup, up1_no1 t1, if_neg (by decide), ← HBO.out]; exact HN1.out.symm
                clear hup t3 t4 hbg
                go_wp2
                go_quiet (first | (go_at_call 104; exact Calls.quiet_of_same (HBl.out _)))
                rename_i nq
                go_wp2
                exact ⟨⟨k + 1, j, by go_num, by omega, rfl, HSK, HG.out, HFd.out, below_drewN hbel nq⟩, by simp [intOf]; omega⟩
        · have t2' : decide ((fn.size : Int) < s.size) = false := decide_eq_false (by omega)
          have HSK : Hid ((j : Int) = bI (B (k + 1))) := by unfold Hid; rw [hup, up1_no2 t2, if_neg (by decide), ← HBO.out]; exact HN1.out.symm
          clear hup
          go_wp2
          go_quiet (fail)
          rename_i nq
          go_wp2
          exact ⟨⟨k + 1, j, by go_num, by omega, rfl, HSK, HG.out, HFd.out, below_drewN hbel nq⟩, by simp [intOf]; omega⟩
    · obtain rfl : k = 34 := by omega
      have q1 : ¬ ((34 : Nat) : Int) < 34 := by omega
      obtain ⟨bo, hbo⟩ : ∃ bo, B 34 = bo := ⟨_, rfl⟩
      obtain ⟨K, hK⟩ : ∃ K : Nat, 34 = K := ⟨_, rfl⟩
      have q2 : ¬ (K : Int) < 34 := by omega
      have hK2 : ∀ i : Nat, i < 34 → i < K ∧ (i : Int) < K := fun i hi => by omega
      rw [hK]
      have HK2 := Lib.hid hK2
      clear q1 hK hk hlt hK2
      have hlg := lt_of_block hg
      have hl1 := lt_of_block hf
      cases bo with
      | none =>
        have hneg : bi < 0 := by rw [hbi.out, hbo]; decide
        have hRR := HRN.out hbo
        subst hRR
        have hS := Lib.hid (set4 hg (.int .i64 2) (.string s) (.string ⟨#[]⟩) (.slice none 0 0))
        have hSB := Lib.hid (set4_below hbel (b := h) (Nat.le_refl _) (.int .i64 2) (.string s) (.string ⟨#[]⟩) (.slice none 0 0))
        have hz := frz4 hg
        obtain ⟨x0, x1, x2, x3, x4, x5, x6, x7⟩ := hz
        clear hf hbo hg hbi
        go_wp2
        exact bodyPost_ret (v := .agg #[.int .i64 2, .string s, .string ⟨#[]⟩, .slice none 0 0]) (results_cell (t := 2) (ty := 44) (a := ⟨h, 0, none⟩) (by kernel_rfl) rfl (load4 hS.out)) rfl ⟨_, rfl, OwnG.nil _ _ _ _, by rw [HH.out]; exact hSB.out⟩
      | some j =>
        obtain ⟨hj, hjs⟩ := HBL.out 34 j (by omega) hbo
        have hjp := HPOS.out j hj
        have hRR := HRS.out j hbo
        obtain rfl : bi = (j : Int) := by rw [hbi.out, hbo]; rfl
        obtain ⟨c0, c2⟩ := HCL.out j hj wr _ hf
        obtain ⟨fn, hfn⟩ : ∃ fn, nm j = fn := ⟨_, rfl⟩
        obtain ⟨fb, hfb⟩ : ∃ fb, mx j = fb := ⟨_, rfl⟩
        rw [hfn, hfb] at hRR
        rw [hfn] at hjs hjp c0
        rw [hfb] at c2
        clear hfn hfb hbo hbi
        have q3 : (fn.size : Int) ≤ s.size := by omega
        obtain ⟨q4, q5⟩ := HK2.out j hj
        have qj : ¬ (j : Int) < 0 := by omega
        obtain ⟨sub, hsub⟩ : ∃ sub, s.extract fn.size s.size = sub := ⟨_, rfl⟩
        have hsz : sub.size ≤ 1000000 := by rw [← hsub]; simp; omega
        have HLf := Lib.hid fun W => Left_any sub W hsz
        rw [hsub] at hRR
        obtain ⟨LB, hLB⟩ : ∃ LB, leftB sub = LB := ⟨_, rfl⟩
        have hlz : LB.size ≤ 1000000 := by rw [← hLB]; exact Nat.le_trans (left_le sub) hsz
        rw [hLB] at hRR HLf
        have HArg := Lib.hid fun W => arguments_any LB fb W hlz
        have HRR := Lib.hid hRR
        have hsz1 : h ≤ wr.drew.heap.size := by rw [← HH.out]; exact hbel.size
        clear hRR hLB hlz hsz
        go_wp2
        first | (go_region_law (first
          | (go_simp; go_at_call 106; (refine (HLf.out _).mono ?_; rintro e w' ⟨rfl, rfl⟩))
          | (go_simp; go_at_call 105; (refine (HArg.out _).mono ?_; rintro e w2 ⟨v, rfl, hv, hb⟩; obtain ⟨Av, cv, rfl, _, _⟩ := hv.form; have hg2 : w2.heap[h]? = some (.cells #[.int .i64 0, .string ⟨#[]⟩, .string ⟨#[]⟩, .slice none 0 0] 44 (0, 0)) := (hb.block h hlg).trans hg; have hb2 : Below h w w2 := (hbel.drew).trans (hb.mono hsz1); have k0 : w2.cell? ⟨h + 1, j * 3, none⟩ = some (.string fn) := (by rw [hb.cell (p := ⟨h + 1, j * 3, none⟩) hl1]; exact c0); have hfa := frz4 hg2; obtain ⟨x0, x1, x2, x3, x4, x5, x6, x7⟩ := hfa))
          | fail)) | fail
        all_goals
          have hS := Lib.hid (set4 hg2 (.int .i64 3) (.string ⟨#[]⟩) (.string fn) (.slice Av (cutI fb LB).length cv))
          have hSB := Lib.hid (set4_below hb2 (b := h) (Nat.le_refl _) (.int .i64 3) (.string ⟨#[]⟩) (.string fn) (.slice Av (cutI fb LB).length cv))
          have hV := Lib.hid ((hv.lower hsz1).aside4 hg2 (.int .i64 3) (.string ⟨#[]⟩) (.string fn) (.slice Av (cutI fb LB).length cv))
          clear hg2 hv hb2 hb
          go_wp2
          have hRR := HRR.out
          subst hRR
          exact bodyPost_ret (v := .agg #[.int .i64 3, .string ⟨#[]⟩, .string fn, .slice Av (cutI fb LB).length cv]) (results_cell (t := 2) (ty := 44) (a := ⟨h, 0, none⟩) (by kernel_rfl) rfl (load4 hS.out)) rfl ⟨_, rfl, by rw [HH.out]; exact hV.out, by rw [HH.out]; exact hSB.out⟩
end Go.Proofs.Ytndoloohdloflaa
