/- RuleGroups answers true at every list; conditions: texts that lie in memory, the library's one number in its cell. -/
import Derived.Test.YtmcemaphhlcjfaaDoorRAlive
import Derived.Test.YtmcemaphhlcjfaaDoorStays
import Derived.Test.YtmcemaphhlcjfaaDoorStrsIn
namespace Go.Proofs.YtmcemaphhlcjfaaDoor
open Go.RowKit

theorem len_totL (xs : List ByteArray) : xs.length ≤ totL xs := by
  induction xs with
  | nil => simp
  | cons x l ih => simp [totL]; omega
def fullB (xs : List ByteArray) : List ByteArray := xs.filter fun x => decide (x.size ≠ 0)
theorem full_take (xs : List ByteArray) (k : Nat) (x : ByteArray) (h : xs[k]? = some x) : fullB (xs.take (k + 1)) = fullB (xs.take k) ++ (if x.size ≠ 0 then [x] else []) := by
  unfold fullB
  rw [List.take_add_one, h, List.filter_append]
  simp only [Option.toList_some]
  congr 1
  by_cases hz : x.size = 0
  · rw [List.filter_cons, if_neg (by simp [hz]), if_neg (by simp [hz])]; rfl
  · rw [List.filter_cons, if_pos (by simp [hz]), if_pos hz]; rfl
theorem full_len (xs : List ByteArray) : (fullB xs).length ≤ xs.length := List.length_filter_le _ _
theorem full_mem {xs : List ByteArray} {x : ByteArray} (h : x ∈ fullB xs) : x ∈ xs := (List.mem_filter.1 h).1

theorem OwnG.drewN {w : World} {base n : Nat} {e : TypeId} {size : Nat} {v : Value} {xs : List Value} (h : OwnG w base e size v n xs) (k : Nat) : OwnG (w.drewN k) base e size v n xs := h.below (below_drewN (Below.refl _ _) k)
theorem OwnG.alloc {w : World} {base n : Nat} {e : TypeId} {size : Nat} {v : Value} {xs : List Value} (h : OwnG w base e size v n xs) (o : Obj) : OwnG (w.alloc o) base e size v n xs := h.below ((Below.refl _ _).alloc (Nat.le_refl _) o)

set_option maxRecDepth 100000 in
set_option maxHeartbeats 4000000 in
theorem RuleGroups_law (A : Option Addr) (ca : Nat) (xs : List ByteArray) (w : World) (ha : StrsAt w A xs) (hl : xs.length ≤ 8796093022208) (hz : ∀ x ∈ xs, x.size ≤ 140737488351232) (_ : xs.length ≤ ca) (hw : 1 < w.heap.size) (m : Int) (hm : w.cell? ⟨1, 0, none⟩ = some (.int .i64 m)) :
    Calls Tryd.prog 5 #[.slice A xs.length ca] w fun e w' => e = .returned (.bool true) ∧ Below w.heap.size w w' := by
  have HA := Lib.hid (ruleAlive w hw m hm)
  have HB := Lib.hid fun w1 (h : Below w.heap.size w w1) => Big_any w1 A ca xs (ha.below (Nat.le_refl _) h) (by omega) hz
  by_cases hbig : 20000 < bigF xs 0
  · rw [decide_eq_true hbig] at HB
    clear hbig
    go_enter Tryd.func5, Tryd.ntmps5
    go_wp2_with fail
    refine HA.out.mono ?_
    rintro e w1 ⟨rfl, k1⟩
    go_wp2_with fail
    refine (HB.out _ k1).mono ?_
    rintro e w2 ⟨rfl, hw2⟩
    obtain rfl : w1 = w2 := hw2.symm
    go_wp2
    go_ret
    exact ⟨rfl, k1⟩
  · rw [decide_eq_false hbig] at HB
    have hT : totL xs ≤ 20000 := by have := bigF_tot xs 0 (by omega); omega
    have hN0 := len_totL xs
    have hFl := full_len xs
    have HFz : Hid (∀ x ∈ fullB xs, x.size ≤ 140737488351232) := fun x hx => hz x (full_mem hx)
    have hgl := group_len (fullB xs)
    have HLent := Lib.hid fun (w1 : World) B cb (h : StrsAt w1 B (fullB xs)) => Lent_any w1 B cb (fullB xs) h (by omega)
    have HG := Lib.hid fun (w1 : World) B cb (h : StrsAt w1 B (fullB xs)) => Group_any w1 B (fullB xs).length cb (fullB xs) rfl h (by omega) HFz.out
    have HGR := Lib.hid fun (w1 : World) B cb (h : StrsAt w1 B (fullB xs)) => GroupR_any w1 B (fullB xs).length cb (fullB xs) rfl h (by omega) HFz.out
    have HSt := Lib.hid fun (w1 : World) g c B cb (h1 : StrsAt w1 (some ⟨g, 0, none⟩) (fullB xs)) (h2 : w1.cell? ⟨g, (fullB xs).length, none⟩ = some (.string lentX)) (h3 : (fullB xs).length + 1 ≤ c) (h4 : c ≤ 9223372036854775807) (h5 : StrsAt w1 B (fullB xs)) => Stays_any w1 g c B cb (fullB xs) h1 h2 h3 h4 h5 (by omega)
    have HLA := Lib.hid fun (W : World) base g c (h : OwnG W base 9 1 (.slice (some ⟨g, 0, none⟩) ((fullB xs).length + 1) c) ((fullB xs).length + 1) ((fullB xs ++ [lentX]).map Value.string)) => lent_at h
    have HS := Lib.hid fun (w1 : World) B C cb cc (h1 : StrsAt w1 B (groupB (fullB xs))) (h2 : StrsAt w1 C (groupB (fullB xs))) => Same_any w1 B C cb cc (groupB (fullB xs)) (groupB (fullB xs)) h1 h2 (by omega)
    rw [sameL_self] at HS
    obtain ⟨i0, hi, hz0, hz1, hz2⟩ := info_parts Tryd.info9
    generalize hF : fullB xs = F at *
    generalize hN : xs.length = N at *
    have HN := Lib.hid hN
    have HF := Lib.hid hF
    have hN1 : N ≤ 20000 := by omega
    have HZ := Lib.hid hz
    clear hz HFz hl hT hbig hF hN
    go_enter Tryd.func5, Tryd.ntmps5
    go_wp2_with fail
    refine HA.out.mono ?_
    rintro e w1 ⟨rfl, k1⟩
    go_wp2_with fail
    refine (HB.out _ k1).mono ?_
    rintro e w2 ⟨rfl, hw2⟩
    obtain rfl : w1 = w2 := hw2.symm
    go_wp2
    go_loopw [5, 6] (fun v i wi => ∃ (k : Nat) (out : List ByteArray), i = .int .i64 k ∧ k ≤ N ∧ OwnG wi w.heap.size 9 1 v out.length (out.map Value.string) ∧ out.length ≤ k ∧ Below w.heap.size w wi ∧ Hid (out = fullB (xs.take k))) (fun _ i _ => N - (intOf i).toNat)
    case atStart => exact ⟨0, [], rfl, Nat.zero_le _, OwnG.nil _ _ _ _, Nat.le_refl _, k1, rfl⟩
    case round =>
      obtain ⟨k, out, rfl, hk, hown, hol, hbel, hrel⟩ := hrel
      obtain ⟨AV, cv, rfl, _, _⟩ := hown.form
      by_cases hlt : k < N
      · obtain ⟨x, hx1⟩ : ∃ x, xs[k]? = some x := ⟨_, List.getElem?_eq_getElem (by have := HN.out; omega)⟩
        have hzx : x.size ≤ 140737488351232 := HZ.out x (List.mem_of_getElem? hx1)
        obtain ⟨b, o, rfl, hcx⟩ := ha k x hx1
        have hbx := World.block_lt_of_cell? _ _ hcx
        have kx : wr.cell? ⟨b, o + k, none⟩ = some (.string x) := by rw [hbel.cell (p := ⟨b, o + k, none⟩) hbx]; exact hcx
        have q1 : (k : Int) < N := by omega
        have ht := full_take xs k x hx1
        rw [← hrel.out] at ht
        have HT := Lib.hid ht
        have HNm := Lib.hid fun w => Name_any x w hzx
        have HNr := Lib.hid fun w => NameR_any x w hzx
        generalize nameB x = nx at *
        have HCX := Lib.hid hcx
        clear hcx hrel ht hx1
        by_cases hx0 : x.size = 0
        · have hq : (x.toList == []) = true := ba_em hx0
          have HT2 : Hid (out = fullB (xs.take (k + 1))) := by have := HT.out; rw [if_neg (by simpa using hx0), List.append_nil] at this; exact this.symm
          go_wp2
          go_quiet (first | (go_at_call 20; exact Calls.quiet_of_same (HNm.out _)) | (go_at_call 21; exact Calls.quiet_of_same (HNr.out _)))
          go_wp2
          exact ⟨⟨k + 1, out, by go_num, by omega, hown.drewN _, by omega, below_drewN hbel _, HT2⟩, by simp [intOf]; omega⟩
        · have hq : (x.toList == []) = false := ba_ne hx0
          have HT2 : Hid (out ++ [x] = fullB (xs.take (k + 1))) := by have := HT.out; rw [if_pos hx0] at this; exact this.symm
          obtain ⟨L, hL⟩ : ∃ L, out.length = L := ⟨_, rfl⟩
          obtain ⟨OS, hOS⟩ : ∃ OS, out.map Value.string = OS := ⟨_, rfl⟩
          rw [hL, hOS] at hown
          rw [hL] at hol ⊢
          have HO := Lib.hid fun n => (hown.drewN n)
          have HL := Lib.hid hL
          have HM : Hid ((out ++ [x]).map Value.string = OS ++ [.string x]) := by unfold Hid; rw [List.map_append, hOS]; rfl
          clear hL hOS
          go_wp2
          go_quiet (first | (go_at_call 20; exact Calls.quiet_of_same (HNm.out _)) | (go_at_call 21; exact Calls.quiet_of_same (HNr.out _)))
          have hbd := below_drewN hbel nq
          have hownd := hown.drewN nq
          go_wp2_with (at_builtin; refine wpList_append_G _ rfl _ _ 27 rfl w.heap.size 9 i0 (.string ⟨#[]⟩) 1 16 Tryd.underlying27 hi hz0 hz1 hz2 rfl (.slice AV L cv) L OS rfl (hownd.alloc _) ⟨_, 0, none⟩ 1 1 [.string x] rfl rfl (cell_one_new _ _ _) (by simp [Value.oneCell']) (by omega) (by unfold maxLen; omega) (by omega) (by have := hbd.size; have := hbel.size; simp; omega) ?_; intro g cap w1 hown1 hgrow1 _ _)
          exact ⟨⟨k + 1, out ++ [x], by go_num, by omega, by rw [HM.out, List.length_append, HL.out]; exact hown1, by rw [List.length_append, HL.out]; exact Nat.succ_le_succ hol, app_grown hbd hownd hgrow1, HT2⟩, by simp [intOf]; omega⟩
      · obtain rfl : k = N := by omega
        have hF2 : out = F := by rw [hrel.out, List.take_of_length_le (by have := HN.out; omega)]; exact HF.out
        subst hF2
        have hsF := hown.strsAt
        have HOWN := Lib.hid hown
        clear hrel hown HZ HN HF ha
        generalize groupB out = G at *
        have HST0 := Lib.hid hsF
        clear hsF
        generalize (out ++ [lentX]).map Value.string = LX at *
        generalize out.length = n at *
        generalize hng : G.length = ng at *
        have HNG := Lib.hid hng
        clear hng
        go_wp2_with fail
        refine (HLent.out _ _ _ HST0.out).mono ?_
        rintro e w2 ⟨g2, c2, rfl, ho2, hb2⟩
        have k2 := hbel.trans (hb2.mono hbel.size)
        have hs2 := HST0.out.below (Nat.le_refl _) hb2
        obtain ⟨x1, x2, x3⟩ := HLA.out _ _ _ _ ho2
        have x4 : c2 ≤ 9223372036854775807 := by obtain ⟨A', c', e, _, h2⟩ := ho2.form; cases e; unfold maxLen at h2; omega
        have X := Lib.hid (And.intro x1 (And.intro x2 (And.intro x3 x4)))
        have K2 := Lib.hid k2
        have S2 := Lib.hid hs2
        clear ho2 hb2 k2 hs2 x1 x2 x3 x4
        go_wp2_with fail
        refine (HG.out _ _ _ X.out.1).mono ?_
        rintro e w3 ⟨v3, rfl, ho3, hb3⟩
        obtain ⟨A3, c3, rfl, _, _⟩ := ho3.form
        have K3 := Lib.hid (K2.out.trans (hb3.mono K2.out.size))
        have S3 := Lib.hid (S2.out.below (Nat.le_refl _) hb3)
        have Y1 := Lib.hid (X.out.1.below (Nat.le_refl _) hb3)
        have Y2 := Lib.hid ((hb3.cell (p := ⟨g2, n, none⟩) (World.block_lt_of_cell? _ _ X.out.2.1)).trans X.out.2.1)
        have O3 := Lib.hid ho3
        clear hb3 ho3
        go_wp2_with fail
        refine (HSt.out _ _ _ _ _ Y1.out Y2.out X.out.2.2.1 X.out.2.2.2 S3.out).mono ?_
        rintro e w4 ⟨rfl, hb4⟩
        have K4 := Lib.hid (K3.out.trans (hb4.mono K3.out.size))
        have S4 := Lib.hid (S3.out.below (Nat.le_refl _) hb4)
        have O4 := Lib.hid (O3.out.below hb4)
        clear hb4
        go_wp2_with fail
        refine (HGR.out _ _ _ S4.out).mono ?_
        rintro e w5 ⟨v5, rfl, ho5, hb5⟩
        obtain ⟨A5, c5, rfl, _, _⟩ := ho5.form
        have K5 := Lib.hid (K4.out.trans (hb5.mono K4.out.size))
        have O5 := Lib.hid (O4.out.below hb5)
        have P5 := Lib.hid ho5
        clear hb5 ho5
        go_wp2_with fail
        refine (HS.out _ _ _ _ _ O5.out.strsAt P5.out.strsAt).mono ?_
        rintro e w6 ⟨rfl, hb6⟩
        have k6 := K5.out.trans (hb6.mono K5.out.size)
        go_wp2
        go_ret
        exact ⟨rfl, k6⟩
end Go.Proofs.YtmcemaphhlcjfaaDoor
