/- What package refs' Parse answers; condition: a text of at most a million bytes. -/
import Derived.Test.YtndoloohdloflaaRefsA
import Derived.ScopeJumps
import Derived.WalkMore
namespace Go.Proofs.Ytndoloohdloflaa
open Go.RowKit

theorem flushP_len (l : List (Int × ByteArray × ByteArray × List ByteArray)) (bs : List UInt8) : (flushP l bs).length ≤ l.length + bs.length := by
  unfold flushP
  split
  · omega
  · rename_i h
    have : bs.length ≠ 0 := fun e => h (List.eq_nil_of_length_eq_zero e)
    simp; omega
theorem pstCells {W : World} {h : Nat} {bs : List UInt8} {l : List ((Int × ByteArray × ByteArray × List ByteArray) × Value)} (hp : PSt W h bs l) :
    ∃ A1 c1 A2 c2, W.cell? ⟨h, 0, none⟩ = some (.slice A1 l.length c1) ∧ W.frozen? ⟨h, 0, none⟩ = false ∧ W.cell? ⟨h + 1, 0, none⟩ = some (.slice A2 bs.length c2) ∧ W.frozen? ⟨h + 1, 0, none⟩ = false ∧ W.heap[h]? = some (.cells #[.slice A1 l.length c1] 38 (0, 0)) ∧ W.heap[h + 1]? = some (.cells #[.slice A2 bs.length c2] 76 (0, 0)) ∧
      OwnG W h 5 1 (.slice A2 bs.length c2) bs.length (Lib.byteCells bs) ∧ OwnG W h 44 4 (.slice A1 l.length c1) l.length (pRows l) ∧ ArgsIn W h l := by
  obtain ⟨v, u, h1, h2, h3, h4, h5⟩ := hp
  obtain ⟨A2, c2, rfl, _, _⟩ := h3.form
  obtain ⟨A1, c1, rfl, _, _⟩ := h4.form
  exact ⟨A1, c1, A2, c2, cell_of_one h1, free_of_one h1, cell_of_one h2, free_of_one h2, h1, h2, h3, h4, h5⟩

set_option maxRecDepth 100000 in
set_option maxHeartbeats 4000000 in
theorem Parse_any (s : ByteArray) (w : World) (hs : s.size ≤ 1000000) :
    Calls Try.prog 50 #[.string s] w fun e W' => ParseRes w (partsI s) e W' := by
  obtain ⟨i5, hi5, hz50, hz51, hz52⟩ := info_parts Try.info5
  obtain ⟨i4, hi4, hz40, hz41, hz42⟩ := info_parts Try.info44
  obtain ⟨R, hR⟩ : ∃ R, partsI s = R := ⟨_, rfl⟩
  rw [hR]
  have HR : Hid (partsG s (s.size + 1) 0 [] [] = R) := hR
  clear hR
  go_enter Try.func50, Try.ntmps50
  go_wp2
  refine wp_scope_jumps 0 (fun a' w' => a'.defers = [] ∧ a'.tmps.size = 77 ∧ Below w.heap.size w w' ∧ R = none) (fun _ _ => 0) rfl ?first ?pass
  case pass =>
    rintro a w' ⟨hd, hz, hb, rfl⟩
    refine wp_seq (wp_skip ?_)
    show Code.wp _ _ _ _ _
    refine wp_seq (wp_region_lit ?_)
    refine wpList_val (v := .slice none 0 0) rfl rfl ?_
    refine wpList_val (v := .int .i64 40) rfl rfl ?_
    refine wpList_nil ?_
    show Code.wp _ _ _ _ _
    refine wp_ret ?_
    change bodyPost Try.prog Try.f50 (ParseRes w none) Exit.ret _ _
    refine bodyPost_ret (v := .tuple #[.slice none 0 0, .int .i64 40]) ?_ (by simpa [Act.put] using hd) ⟨hb, rfl⟩
    simp [results, Try.results50, go_sem, Act.put, hz]
  case first =>
  go_wp2
  have b0 := World.alloc_heap_new w (.cells #[.slice none 0 0] 38)
  have b1 := World.alloc_heap_new (w.alloc (.cells #[.slice none 0 0] 38)) (.cells #[.slice none 0 0] 76)
  have b2 := (Below.heap_alloc (w.alloc (.cells #[.slice none 0 0] 38)) (.cells #[.slice none 0 0] 76) w.heap.size (by simp)).trans b0
  rw [World.size_alloc] at b1
  have hP : PSt ((w.alloc (.cells #[.slice none 0 0] 38)).alloc (.cells #[.slice none 0 0] 76)) w.heap.size [] [] := ⟨_, _, b2, b1, OwnG.nil _ _ _ _, OwnG.nil _ _ _ _, fun x hx => by cases hx⟩
  have hB : Below w.heap.size w ((w.alloc (.cells #[.slice none 0 0] 38)).alloc (.cells #[.slice none 0 0] 76)) := ((Below.refl _ w).alloc (Nat.le_refl _) _).alloc (by simp) _
  have HP := Lib.hid hP
  clear b0 b1 b2 hP
  go_loopw [6, 8] (fun _ iv wi => ∃ (i f : Nat) (bs : List UInt8) (l : List ((Int × ByteArray × ByteArray × List ByteArray) × Value)), iv = .int .i64 i ∧ i ≤ s.size ∧ s.size < f + i ∧ l.length + bs.length ≤ i ∧ PSt wi w.heap.size bs l ∧ Below w.heap.size w wi ∧ Hid (partsG s f i bs (l.map (·.1)) = R)) (fun _ iv _ => s.size - (intOf iv).toNat)
  case atStart => exact ⟨0, s.size + 1, [], [], rfl, Nat.zero_le _, by omega, Nat.le_refl _, HP.out, hB, HR⟩
  case round =>
    obtain ⟨i, f, bs, l, rfl, hi, hf, hll, hP, hbel, hrel⟩ := hrel
    have HFl := Lib.hid (flush_any wr w.heap.size bs l (by omega) (by omega) hP)
    have hsz := hbel.size
    obtain ⟨f, rfl⟩ : ∃ g, f = g + 1 := ⟨f - 1, by omega⟩
    have hst := hrel.out
    rw [partsG] at hst
    by_cases hlt : i < s.size
    · rw [if_pos hlt] at hst
      have q1 : (i : Int) < s.size := by omega
      have hb := bget s i hlt
      by_cases h1 : s.get! i = 36 ∧ i + 1 < s.size
      · rw [if_pos h1] at hst
        obtain ⟨h1, h2⟩ := h1
        have hx : (s[i].toNat : Int) = 36 := by rw [hb, h1]; rfl
        have q2 : ¬ (i : Int) + 1 = s.size := by omega
        have q2' : (i : Int) + 1 < s.size := by omega
        have hb2 := bget s (i + 1) h2
        by_cases h3 : s.get! (i + 1) = 36
        · rw [if_pos h3] at hst
          have HS : Hid (partsG s f (i + 2) (bs ++ [36]) (l.map (·.1)) = R) := hst
          have hx2 : (s[i + 1].toNat : Int) = 36 := by rw [hb2, h3]; rfl
          obtain ⟨A1, c1, A2, c2, k1, k2, k3, k4, h1', h2', h3', h4', h5'⟩ := pstCells hP
          have HB := Lib.hid fun (w1 : World) (u' : Value) (o : Obj) (hg : (wr.alloc o).grownBy w1 (Value.slice A2 bs.length c2).ownBlock) (ho1 : OwnG w1 w.heap.size 5 1 u' (bs.length + 1) (Lib.byteCells bs ++ [.int .u8 (UInt8.toNat 36)])) => PSt.byted (w1 := w1) (u' := u') (c := 36) (o := o) h1' h2' h3' h4' h5' hg ho1
          have hO : Hid (∀ o, OwnG (wr.alloc o) w.heap.size 5 1 (.slice A2 bs.length c2) bs.length (Lib.byteCells bs)) := fun o => h3'.below ((Below.refl _ wr).alloc (Nat.le_refl _) o)
          have m0 : ((s[i].toNat : Int) != 36) = false := by rw [hx]; rfl
          clear hst hrel h1 h3 hb hb2 HFl hP h1' h2' h3' h4' h5'
          go_wp2_with (at_builtin; refine wpList_append_G _ rfl _ _ 76 rfl w.heap.size 5 i5 (.int .u8 0) 1 1 Try.underlying76 hi5 hz50 hz51 hz52 rfl (.slice A2 bs.length c2) bs.length (Lib.byteCells bs) rfl (hO.out _) ⟨_, 0, none⟩ 1 1 [.int .u8 36] rfl rfl (cell_one_new _ _ _) (by simp [Value.oneCell']) (by decide) (by unfold maxLen; omega) (by omega) (by simp; omega) ?_; intro g cap w1 hown1 hgrow1 _ _; obtain ⟨e1, e2, e3⟩ := HB.out w1 _ _ hgrow1 hown1; have j1 := cell_of_one e1; have j2 := free_of_one e1; have E2 := Lib.hid e2; have E3 := Lib.hid e3; clear e1 e2 e3 hown1 hgrow1)
          exact ⟨⟨i + 2, f, bs ++ [36], l, by go_num, by omega, by omega, by simp; omega, E2.out, hbel.trans E3.out, HS⟩, by simp [intOf]; omega⟩
        · rw [if_neg h3] at hst
          have n3 : ((s[i + 1].toNat : Int) == 36) = false := by rw [beq_eq_false_iff_ne]; intro h; exact h3 (by rw [← hb2]; exact UInt8.toNat_inj.1 (by show s[i + 1].toNat = 36; omega))
          have m0 : ((s[i].toNat : Int) != 36) = false := by rw [hx]; rfl
          by_cases h4 : s.get! (i + 1) = 40 ∨ s.get! (i + 1) = 123
          · rw [if_pos h4] at hst
            have HEn := Lib.hid fun w => end_any s (i + 1) w (by omega) h2 h4
            have hin := endI_in s (i + 1)
            obtain ⟨e0, he0⟩ : ∃ e0, endI s (i + 1) = e0 := ⟨_, rfl⟩
            rw [he0] at hst HEn hin
            have h5 : (s[i + 1].toNat : Int) = 40 ∨ (s[i + 1].toNat : Int) = 123 := by
              rcases h4 with h | h
              · left; rw [hb2, h]; rfl
              · right; rw [hb2, h]; rfl
            clear h1 h3 h4 hb hb2 hrel he0 hP n3
            rcases hin with rfl | ⟨k, rfl, hk1, hk2⟩
            · have hRn : R = none := by simpa using hst.symm
              have HRn := Lib.hid hRn
              clear hst hRn
              rcases h5 with h5 | h5
              all_goals
                go_wp2_with (first | (go_at_call 82; refine HFl.out.mono ?_; rintro e w1 ⟨rfl, ⟨l', hP', hm'⟩, hb'⟩; have HB' := Lib.hid (hbel.trans hb'); clear hP' hm' hb') | (go_at_call 83; refine (HEn.out _).mono ?_; rintro e w' ⟨rfl, rfl⟩))
                go_step3
                exact ⟨rfl, rfl, rfl, HB'.out, HRn.out⟩
            · rw [if_neg (by omega)] at hst
              have hkn : ((k : Int)).toNat = k := by omega
              rw [hkn] at hst
              obtain ⟨sub, hsub⟩ : ∃ sub, s.extract (i + 2) k = sub := ⟨_, rfl⟩
              rw [hsub] at hst
              obtain ⟨p, hp⟩ : ∃ p, withinP sub = p := ⟨_, rfl⟩
              have HW := Lib.hid fun W => within_any sub W (by rw [← hsub]; simp; omega)
              rw [hp] at hst HW
              obtain ⟨p1, p2, p3, p4⟩ := p
              have HST := Lib.hid hst
              have hfl := flushP_len (l.map (·.1)) bs
              rw [List.length_map] at hfl
              have q5 : ¬ (k : Int) < 0 := by omega
              have q6 : (i : Int) + 1 + 1 ≤ k := by omega
              have q7 : (k : Int) ≤ s.size := by omega
              have q8 : (i : Int) + 2 ≤ k := by omega
              have q9 : IntKind.i64.wrap ((i : Int) + 1 + 1) = (i : Int) + 2 := by rw [IntWalk.i64_in _ (by omega)]; omega
              have q10 : (0 : Int) ≤ (i : Int) + 2 := by omega
              have q11 : ((i : Int) + 2).toNat = i + 2 := by omega
              have hs2 : s.extract (i + 1 + 1) k = sub := hsub
              have hsubE := hsub
              clear hst hp hkn
              rcases h5 with h5 | h5
              all_goals
                go_wp2_with (first | (go_at_call 82; refine HFl.out.mono ?_; rintro e w1 ⟨rfl, ⟨l', hP', hm'⟩, hb'⟩) | (go_at_call 83; refine (HEn.out _).mono ?_; rintro e w' ⟨rfl, hwe⟩; obtain rfl : w1 = w' := hwe.symm))
                obtain ⟨A1, c1, A2, c2, k1, k2, k3, k4, h1', h2', h3', h4', h5'⟩ := pstCells hP'
                have hl1 := lt_of_block h1'
                have hl2 := lt_of_block h2'
                have hll' : l'.length ≤ l.length + bs.length := by have := congrArg List.length hm'; rw [List.length_map] at this; omega
                have hbd : Below w.heap.size w w1.drew := (hbel.trans hb').drew
                have hszd : w.heap.size ≤ w1.drew.heap.size := hbd.size
                have HM := Lib.hid hm'
                have HH := Lib.hid (⟨h1', h2', h3', h4', h5'⟩ : w1.drew.heap[w.heap.size]? = _ ∧ w1.drew.heap[w.heap.size + 1]? = _ ∧ OwnG w1.drew _ _ _ _ _ _ ∧ OwnG w1.drew _ _ _ _ _ _ ∧ ArgsIn w1.drew _ _)
                clear hP' hm' hb' h1' h2' h3' h4' h5'
                first | (go_region_law (first
                  | (refine step_append_G rfl _ _ 38 rfl w.heap.size 44 i4 (.agg #[.int .i64 0, .string ⟨#[]⟩, .string ⟨#[]⟩, .slice none 0 0]) 4 64 Try.underlying38 hi4 hz40 hz41 hz42 rfl (.slice A1 l'.length c1) l'.length (pRows l') rfl (hO.out _) ⟨w2.heap.size, 0, none⟩ 1 1 (pRow (p1, p2, p3, p4) (.slice Av p4.length cv)) rfl rfl (World.news_of_block (heap_alloc_last w2 _)) (by simp [Value.oneCell', pRow]) (by decide) (by unfold maxLen; omega) (by omega) (by simp; omega) ?_; intro g cap w3 hown3 hgrow3 _ _; obtain ⟨e1, e2, e3, e4⟩ := HX.out w3 _ _ hgrow3 hown3; have j1 := cell_of_one e1; have j2 := free_of_one e1; have E3 := Lib.hid e3; have E4 := Lib.hid e4; clear hown3 hgrow3 e2 e3 e4)
                  | (go_simp; go_at_call 84; refine (HW.out _).mono ?_; rintro e w2 ⟨v, rfl, hv, hb2⟩; obtain ⟨Av, cv, rfl, _, _⟩ := hv.form; have g1 : w2.heap[w.heap.size]? = some (.cells #[.slice A1 l'.length c1] 38 (0, 0)) := (hb2.block _ hl1).trans HH.out.1; have g2 := (hb2.block _ hl2).trans HH.out.2.1; have hO := Lib.hid fun o => (HH.out.2.2.2.1.below hb2).below ((Below.refl _ w2).alloc (Nat.le_refl _) o); have HX := Lib.hid fun (w3 : World) (v' : Value) (o : Obj) (hg : (w2.alloc o).grownBy w3 (Value.slice A1 l'.length c1).ownBlock) (ho1 : OwnG w3 w.heap.size 44 4 v' (l'.length + 1) (pRows l' ++ pRow (p1, p2, p3, p4) (.slice Av p4.length cv))) => PSt.pushed (p := (p1, p2, p3, p4)) (x := .slice Av p4.length cv) g1 g2 (HH.out.2.2.1.below hb2) (HH.out.2.2.2.1.below hb2) (fun x hx => (HH.out.2.2.2.2 x hx).below hb2) (hv.lower hszd) hg ho1; have kc := cell_of_one g1; have kk2 := fun o => (show (w2.alloc o).cell? ⟨w.heap.size, 0, none⟩ = some (.slice A1 l'.length c1) from cell_of_one ((Below.heap_alloc w2 o _ (lt_of_block g1)).trans g1)); have hsz2 : w.heap.size ≤ w2.heap.size := Nat.le_trans hszd hb2.size; have hbb := Lib.hid (hbd.trans (hb2.mono hszd)); clear hv hb2 g1 g2)
                  | fail)) | fail
                all_goals
                  have HS : Hid (partsG s f (k + 1) [] ((l' ++ [((p1, p2, p3, p4), Value.slice Av p4.length cv)]).map (·.1)) = R) := by unfold Hid; rw [List.map_append, HM.out]; exact HST.out
                  have hlen : (l' ++ [((p1, p2, p3, p4), Value.slice Av p4.length cv)]).length + ([] : List UInt8).length ≤ k + 1 := by simp; omega
                  have E5 := Lib.hid (hbb.out.trans E4.out)
                  clear E4 HX hO
                  go_wp2
                  exact ⟨⟨k + 1, f, [], _, by go_num, by omega, by omega, hlen, E3.out, E5.out, HS⟩, by simp [intOf]; omega⟩
          · rw [if_neg h4] at hst
            have n1 : ((s[i + 1].toNat : Int) == 40) = false := by rw [beq_eq_false_iff_ne]; intro h; exact h4 (.inl (by rw [← hb2]; exact UInt8.toNat_inj.1 (by show s[i + 1].toNat = 40; omega)))
            have n2 : ((s[i + 1].toNat : Int) == 123) = false := by rw [beq_eq_false_iff_ne]; intro h; exact h4 (.inr (by rw [← hb2]; exact UInt8.toNat_inj.1 (by show s[i + 1].toNat = 123; omega)))
            obtain ⟨sub, hsub⟩ : ∃ sub, s.extract (i + 1) (i + 2) = sub := ⟨_, rfl⟩
            rw [hsub] at hst
            have HST := Lib.hid hst
            have hfl := flushP_len (l.map (·.1)) bs
            rw [List.length_map] at hfl
            have q9 : IntKind.i64.wrap ((i : Int) + 1 + 1) = (i : Int) + 2 := by rw [IntWalk.i64_in _ (by omega)]; omega
            have q10 : (0 : Int) ≤ (i : Int) + 2 := by omega
            have q11 : ((i : Int) + 2).toNat = i + 2 := by omega
            have q12 : (i : Int) + 2 ≤ s.size := by omega
            have q13 : (i : Int) + 1 ≤ (i : Int) + 2 := by omega
            have hsubE := hsub
            clear hst h1 h3 h4 hb hb2 hrel hP
            go_wp2_with (go_at_call 82; refine HFl.out.mono ?_; rintro e w1 ⟨rfl, ⟨l', hP', hm'⟩, hb'⟩)
            obtain ⟨A1, c1, A2, c2, k1, k2, k3, k4, h1', h2', h3', h4', h5'⟩ := pstCells hP'
            have hll' : l'.length ≤ l.length + bs.length := by have := congrArg List.length hm'; rw [List.length_map] at this; omega
            have hbd : Below w.heap.size w w1.drew := (hbel.trans hb').drew
            have hszd : w.heap.size ≤ w1.drew.heap.size := hbd.size
            have HM := Lib.hid hm'
            have hszd2 : w.heap.size ≤ w1.heap.size := hszd
            have kk2 := fun o => (show (w1.alloc o).cell? ⟨w.heap.size, 0, none⟩ = some (.slice A1 l'.length c1) from cell_of_one ((Below.heap_alloc w1 o _ (lt_of_block h1')).trans h1'))
            have hO : Hid (∀ o, OwnG (w1.drew.alloc o) w.heap.size 44 4 (.slice A1 l'.length c1) l'.length (pRows l')) := fun o => (show OwnG w1.drew _ _ _ _ _ _ from h4').below ((Below.refl _ w1.drew).alloc (Nat.le_refl _) o)
            have HX := Lib.hid fun (w3 : World) (v' : Value) (o : Obj) (hg : (w1.drew.alloc o).grownBy w3 (Value.slice A1 l'.length c1).ownBlock) (ho1 : OwnG w3 w.heap.size 44 4 v' (l'.length + 1) (pRows l' ++ pRow ((2 : Int), sub, (⟨#[]⟩ : ByteArray), ([] : List ByteArray)) (.slice none 0 0))) => PSt.pushed (W := w1.drew) (p := ((2 : Int), sub, (⟨#[]⟩ : ByteArray), ([] : List ByteArray))) (x := .slice none 0 0) h1' h2' h3' h4' h5' (OwnG.nil _ _ _ _) hg ho1
            clear hP' hm' hb' h1' h2' h3' h4' h5'
            first | (go_region_law (first
              | (refine step_append_G rfl _ _ 38 rfl w.heap.size 44 i4 (.agg #[.int .i64 0, .string ⟨#[]⟩, .string ⟨#[]⟩, .slice none 0 0]) 4 64 Try.underlying38 hi4 hz40 hz41 hz42 rfl (.slice A1 l'.length c1) l'.length (pRows l') rfl (hO.out _) ⟨w1.heap.size, 0, none⟩ 1 1 (pRow ((2 : Int), sub, (⟨#[]⟩ : ByteArray), ([] : List ByteArray)) (.slice none 0 0)) rfl rfl (World.news_of_block (heap_alloc_last w1 _)) (by simp [Value.oneCell', pRow]) (by decide) (by unfold maxLen; omega) (by omega) (by simp; omega) ?_; intro g cap w3 hown3 hgrow3 _ _; obtain ⟨e1, e2, e3, e4⟩ := HX.out w3 _ _ hgrow3 hown3; have j1 := cell_of_one e1; have j2 := free_of_one e1; have E3 := Lib.hid e3; have E4 := Lib.hid e4; clear hown3 hgrow3 e2 e3 e4)
              | fail)) | fail
            all_goals
              have HS : Hid (partsG s f (i + 2) [] ((l' ++ [(((2 : Int), sub, (⟨#[]⟩ : ByteArray), ([] : List ByteArray)), Value.slice none 0 0)]).map (·.1)) = R) := by unfold Hid; rw [List.map_append, HM.out]; exact HST.out
              have hlen : (l' ++ [(((2 : Int), sub, (⟨#[]⟩ : ByteArray), ([] : List ByteArray)), Value.slice none 0 0)]).length + ([] : List UInt8).length ≤ i + 2 := by simp; omega
              have E5 := Lib.hid (hbd.trans E4.out)
              clear E4 HX hO
              go_wp2
              exact ⟨⟨i + 2, f, [], _, by go_num, by omega, by omega, hlen, E3.out, E5.out, HS⟩, by simp [intOf]; omega⟩
      · rw [if_neg h1] at hst
        have HS : Hid (partsG s f (i + 1) (bs ++ [s[i]]) (l.map (·.1)) = R) := by unfold Hid; rw [hb]; exact hst
        have hor : ((s[i].toNat : Int) == 36) = false ∨ ((s[i].toNat : Int) = 36 ∧ (i : Int) + 1 = s.size) := by
          by_cases h : s.get! i = 36
          · right; exact ⟨by rw [hb, h]; rfl, by have : ¬ i + 1 < s.size := fun e => h1 ⟨h, e⟩; omega⟩
          · left; rw [beq_eq_false_iff_ne]; intro h2; exact h (by rw [← hb]; exact UInt8.toNat_inj.1 (by show s[i].toNat = 36; omega))
        obtain ⟨A1, c1, A2, c2, k1, k2, k3, k4, h1', h2', h3', h4', h5'⟩ := pstCells hP
        have HB := Lib.hid fun (w1 : World) (u' : Value) (o : Obj) (hg : (wr.drew.alloc o).grownBy w1 (Value.slice A2 bs.length c2).ownBlock) (ho1 : OwnG w1 w.heap.size 5 1 u' (bs.length + 1) (Lib.byteCells bs ++ [.int .u8 s[i].toNat])) => PSt.byted (w1 := w1) (u' := u') (c := s[i]) (o := o) (show wr.drew.heap[w.heap.size]? = _ from h1') h2' h3' h4' h5' hg ho1
        have hO : Hid (∀ o, OwnG (wr.drew.alloc o) w.heap.size 5 1 (.slice A2 bs.length c2) bs.length (Lib.byteCells bs)) := fun o => (show OwnG wr.drew _ _ _ _ _ _ from h3').below ((Below.refl _ wr.drew).alloc (Nat.le_refl _) o)
        have kk := fun o => (show (wr.drew.alloc o).cell? ⟨w.heap.size + 1, 0, none⟩ = some (.slice A2 bs.length c2) from cell_of_one ((Below.heap_alloc wr.drew o _ (lt_of_block h2')).trans h2'))
        have kk2 := fun o => (show (wr.alloc o).cell? ⟨w.heap.size + 1, 0, none⟩ = some (.slice A2 bs.length c2) from cell_of_one ((Below.heap_alloc wr o _ (lt_of_block h2')).trans h2'))
        have hbd : Below w.heap.size w wr.drew := hbel.drew
        have hszd : w.heap.size ≤ wr.drew.heap.size := hsz
        clear hst hrel h1 hb HFl hP h1' h2' h3' h4' h5'
        rcases hor with n1 | ⟨hx, hxe⟩
        · have m1 : ((s[i].toNat : Int) != 36) = true := by rw [bne, n1]; rfl
          go_wp2
          first | (go_region_law (first
            | (refine step_append_G rfl _ _ 76 rfl w.heap.size 5 i5 (.int .u8 0) 1 1 Try.underlying76 hi5 hz50 hz51 hz52 rfl (.slice A2 bs.length c2) bs.length (Lib.byteCells bs) rfl (hO.out _) ⟨_, 0, none⟩ 1 1 [.int .u8 s[i].toNat] rfl rfl (cell_one_new _ _ _) (by simp [Value.oneCell']) (by decide) (by unfold maxLen; omega) (by omega) (by simp; omega) ?_; intro g cap w1 hown1 hgrow1 _ _; obtain ⟨e1, e2, e3⟩ := HB.out w1 _ _ hgrow1 hown1; have j1 := cell_of_one e1; have j2 := free_of_one e1)
            | fail)) | fail
          all_goals
            have E2 := Lib.hid e2
            have E3 := Lib.hid e3
            clear e1 e2 e3 hown1 hgrow1
            go_wp2
            exact ⟨⟨i + 1, f, bs ++ [s[i]], l, by go_num, by omega, by omega, by simp; omega, E2.out, hbd.trans E3.out, HS⟩, by simp [intOf]; omega⟩
        · go_wp2
          clear hx
          first | (go_region_law (first
            | (refine step_append_G rfl _ _ 76 rfl w.heap.size 5 i5 (.int .u8 0) 1 1 Try.underlying76 hi5 hz50 hz51 hz52 rfl (.slice A2 bs.length c2) bs.length (Lib.byteCells bs) rfl (hO.out _) ⟨_, 0, none⟩ 1 1 [.int .u8 s[i].toNat] rfl rfl (cell_one_new _ _ _) (by simp [Value.oneCell']) (by decide) (by unfold maxLen; omega) (by omega) (by simp; omega) ?_; intro g cap w1 hown1 hgrow1 _ _; obtain ⟨e1, e2, e3⟩ := HB.out w1 _ _ hgrow1 hown1; have j1 := cell_of_one e1; have j2 := free_of_one e1)
            | fail)) | fail
          all_goals
            have E2 := Lib.hid e2
            have E3 := Lib.hid e3
            clear e1 e2 e3 hown1 hgrow1
            go_wp2
            exact ⟨⟨i + 1, f, bs ++ [s[i]], l, by go_num, by omega, by omega, by simp; omega, E2.out, hbd.trans E3.out, HS⟩, by simp [intOf]; omega⟩
    · rw [if_neg hlt] at hst
      have q1 : ¬ (i : Int) < s.size := by omega
      clear hrel
      have HST := Lib.hid hst
      clear hst hP
      go_wp2_with fail
      refine HFl.out.mono ?_
      rintro e w1 ⟨rfl, ⟨l', hP', hm'⟩, hb'⟩
      obtain ⟨A1, c1, A2, c2, k1, k2, k3, k4, h1', h2', h3', h4', h5'⟩ := pstCells hP'
      have hfin : ParseRes w R (.returned (.tuple #[.slice A1 l'.length c1, .int .i64 0])) w1 := by
        rw [← HST.out]
        exact ⟨hbel.trans hb', _, l', rfl, hm', h4', h5'⟩
      have HFin := Lib.hid hfin
      clear hfin h1' h2' h3' h4' h5' hP' hm' hb' k2 k3 k4
      go_wp2
      change bodyPost Try.prog Try.f50 (ParseRes w R) Exit.ret _ _
      exact bodyPost_ret (v := .tuple #[.slice A1 l'.length c1, .int .i64 0]) (by simp [results, Try.results50, go_sem]) rfl HFin.out
end Go.Proofs.Ytndoloohdloflaa
