/- The parts of a text in the reference; condition: a text of at most a million bytes. -/
import Derived.Test.YtndoloohdloflaaRefsI
import Derived.Test.YtndoloohdloflaaRefsB
namespace Go.Proofs.Ytndoloohdloflaa
open Go.RowKit

theorem r_pushed {W w1 : World} {b n : Nat} {bs : List UInt8} {l : List ((Int × ByteArray × ByteArray × List ByteArray) × Value)} {v u v' : Value} {p : (Int × ByteArray × ByteArray × List ByteArray)} {x : Value} {o : Obj} (h3 : OwnG W b 5 1 u bs.length (Lib.byteCells bs)) (h4 : OwnG W b 44 4 v n (pRows l)) (h5 : ArgsIn W b l)
    (hx : OwnG W b 9 1 x p.2.2.2.length (p.2.2.2.map Value.string)) (hb : b ≤ W.heap.size) (hg : (W.alloc o).grownBy w1 v.ownBlock) (ho1 : OwnG w1 b 44 4 v' (n + 1) (pRows l ++ pRow p x)) :
    OwnG w1 b 5 1 u bs.length (Lib.byteCells bs) ∧ OwnG w1 b 44 4 v' (n + 1) (pRows (l ++ [(p, x)])) ∧ ArgsIn w1 b (l ++ [(p, x)]) ∧ Below b W w1 := by
  have hA : Below W.heap.size W (W.alloc o) := (Below.refl _ W).alloc (Nat.le_refl _) o
  have h4a := h4.below hA
  have hT : ∀ k, v.ownBlock = some k → ∃ c fz, (W.alloc o).heap[k]? = some (.cells c 44 fz) := fun k hk => h4a.typed k hk
  refine ⟨(h3.below hA).aside hg hT (by decide), by rw [pRows_app]; exact ho1, ?_, ?_⟩
  · intro y hy
    rcases List.mem_append.1 hy with hy | hy
    · exact ((h5 y hy).below hA).aside hg hT (by decide)
    · rw [List.mem_singleton] at hy
      subst hy
      exact (hx.below hA).aside hg hT (by decide)
  · exact ((Below.refl b W).alloc hb o).grown hg (by simp; omega) (fun k e => (h4.block_lt k e).1)
theorem r_byted {W w1 : World} {b n : Nat} {bs : List UInt8} {l : List ((Int × ByteArray × ByteArray × List ByteArray) × Value)} {v u u' : Value} {c : UInt8} {o : Obj} (h3 : OwnG W b 5 1 u bs.length (Lib.byteCells bs)) (h4 : OwnG W b 44 4 v n (pRows l)) (h5 : ArgsIn W b l)
    (hb : b ≤ W.heap.size) (hg : (W.alloc o).grownBy w1 u.ownBlock) (ho1 : OwnG w1 b 5 1 u' (bs.length + 1) (Lib.byteCells bs ++ [.int .u8 c.toNat])) :
    OwnG w1 b 5 1 u' (bs ++ [c]).length (Lib.byteCells (bs ++ [c])) ∧ OwnG w1 b 44 4 v n (pRows l) ∧ ArgsIn w1 b l ∧ Below b W w1 := by
  have hA : Below W.heap.size W (W.alloc o) := (Below.refl _ W).alloc (Nat.le_refl _) o
  have h3a := h3.below hA
  have hT : ∀ k, u.ownBlock = some k → ∃ c fz, (W.alloc o).heap[k]? = some (.cells c 5 fz) := fun k hk => h3a.typed k hk
  refine ⟨by rw [bcells_app, List.length_append]; exact ho1, (h4.below hA).aside hg hT (by decide), fun y hy => ((h5 y hy).below hA).aside hg hT (by decide), ?_⟩
  exact ((Below.refl b W).alloc hb o).grown hg (by simp; omega) (fun k e => (h3.block_lt k e).1)
/-- what the reference's Parts answers, and leaves -/
def PartsRes (w : World) (R : Option (List (Int × ByteArray × ByteArray × List ByteArray))) (e : Ending) (W' : World) : Prop :=
  Below w.heap.size w W' ∧ match R with
  | some ps => ∃ v l, e = .returned (.tuple #[v, .bool true]) ∧ l.map (·.1) = ps ∧ OwnG W' w.heap.size 44 4 v l.length (pRows l) ∧ ArgsIn W' w.heap.size l
  | none => e = .returned (.tuple #[.slice none 0 0, .bool false])
theorem rows_len {W : World} {b n : Nat} {v : Value} {l : List ((Int × ByteArray × ByteArray × List ByteArray) × Value)} (h : OwnG W b 44 4 v n (pRows l)) : n = l.length := by
  have := h.1; rw [pRows_len] at this; omega

set_option maxRecDepth 100000 in
set_option maxHeartbeats 4000000 in
theorem Parts_any (s : ByteArray) (w : World) (hs : s.size ≤ 1000000) :
    Calls Try.prog 52 #[.string s] w fun e W' => PartsRes w (partsI s) e W' := by
  obtain ⟨i5, hi5, hz50, hz51, hz52⟩ := info_parts Try.info5
  obtain ⟨i4, hi4, hz40, hz41, hz42⟩ := info_parts Try.info44
  obtain ⟨R, hR⟩ : ∃ R, partsI s = R := ⟨_, rfl⟩
  rw [hR]
  have HR : Hid (partsG s (s.size + 1) 0 [] [] = R) := hR
  clear hR
  go_enter Try.func52, Try.ntmps52
  go_wp2
  obtain ⟨b, hbw⟩ : ∃ b, w.heap.size = b := ⟨_, rfl⟩
  have HBW := Lib.hid hbw
  have HB0 : Hid (b ≤ w.heap.size) := by unfold Hid; omega
  clear hbw
  go_loopw [4, 5, 6, 7] (fun v u iv _ wi => ∃ (i f n : Nat) (bs : List UInt8) (l : List ((Int × ByteArray × ByteArray × List ByteArray) × Value)), iv = .int .i64 i ∧ i ≤ s.size ∧ s.size < f + i ∧ n + bs.length ≤ i ∧ OwnG wi b 5 1 u bs.length (Lib.byteCells bs) ∧ OwnG wi b 44 4 v n (pRows l) ∧ ArgsIn wi b l ∧ Below b w wi ∧ b ≤ wi.heap.size ∧ Hid (partsG s f i bs (l.map (·.1)) = R)) (fun _ _ iv _ _ => s.size - (intOf iv).toNat)
  case atStart => exact ⟨0, s.size + 1, 0, [], [], rfl, Nat.zero_le _, by omega, Nat.le_refl _, OwnG.nil _ _ _ _, OwnG.nil _ _ _ _, (fun x hx => by cases hx), Below.refl _ _, HB0.out, HR⟩
  case round =>
    obtain ⟨i, f, n, bs, l, rfl, hi, hf, hll, h3, h4, h5, hbel, hsz, hrel⟩ := hrel
    obtain ⟨A2, c2, rfl, _, _⟩ := h3.form
    obtain ⟨A1, c1, rfl, _, _⟩ := h4.form
    have H3 := Lib.hid h3
    have H4 := Lib.hid h4
    have H5 := Lib.hid h5
    have HBel := Lib.hid hbel
    obtain ⟨f, rfl⟩ : ∃ g, f = g + 1 := ⟨f - 1, by omega⟩
    have hst := hrel.out
    rw [partsG] at hst
    have hcv := conv76 h3
    obtain ⟨sb, hsb⟩ : ∃ sb, mk bs = sb := ⟨_, rfl⟩
    rw [hsb] at hcv
    have hF : bs ≠ [] → flushP (l.map (·.1)) bs = l.map (·.1) ++ [((1 : Int), sb, (⟨#[]⟩ : ByteArray), ([] : List ByteArray))] := fun h => by rw [← hsb]; simp [flushP, h]
    have hF0 : bs = [] → flushP (l.map (·.1)) bs = l.map (·.1) := fun h => by simp [flushP, h]
    have hO0 := Lib.hid fun o => h4.below ((Below.refl _ wr).alloc (Nat.le_refl _) o)
    have HX0 := Lib.hid fun (w9 : World) (v' : Value) (o : Obj) (hg : (wr.alloc o).grownBy w9 (Value.slice A1 n c1).ownBlock) (ho1 : OwnG w9 b 44 4 v' (n + 1) (pRows l ++ pRow ((1 : Int), sb, (⟨#[]⟩ : ByteArray), ([] : List ByteArray)) (.slice none 0 0))) => r_pushed (W := wr) (w1 := w9) (bs := ([] : List UInt8)) (u := (.slice none 0 0)) (l := l) (n := n) (v := .slice A1 n c1) (v' := v') (p := ((1 : Int), sb, (⟨#[]⟩ : ByteArray), ([] : List ByteArray))) (x := (.slice none 0 0)) (o := o) (OwnG.nil _ _ _ _) h4 h5 (OwnG.nil _ _ _ _) hsz hg ho1
    have hnb : bs = [] ∨ (bs ≠ [] ∧ 0 < bs.length) := by
      cases bs with
      | nil => exact .inl rfl
      | cons c t => exact .inr ⟨by simp, by simp⟩
    have HNB := Lib.hid hnb
    have HF := Lib.hid hF
    have HF0 := Lib.hid hF0
    have HCV := Lib.hid hcv
    clear hsb hnb hF hF0 h3 h4 h5 hbel hcv
    by_cases hlt : i < s.size
    · rw [if_pos hlt] at hst
      have q1 : (i : Int) < s.size := by omega
      have hb := bget s i hlt
      by_cases h1 : s.get! i = 36 ∧ i + 1 < s.size
      · rw [if_pos h1] at hst
        obtain ⟨h1, h2⟩ := h1
        have hx : (s[i].toNat : Int) = 36 := by rw [hb, h1]; rfl
        have m0 : ((s[i].toNat : Int) != 36) = false := by rw [hx]; rfl
        have q2 : (i : Int) + 1 < s.size := by omega
        have hb2 := bget s (i + 1) h2
        by_cases h3 : s.get! (i + 1) = 36
        · rw [if_pos h3] at hst
          have HS : Hid (partsG s f (i + 2) (bs ++ [36]) (l.map (·.1)) = R) := hst
          have hx2 : (s[i + 1].toNat : Int) = 36 := by rw [hb2, h3]; rfl
          have HB := Lib.hid fun (w1 : World) (u' : Value) (o : Obj) (hg : (wr.alloc o).grownBy w1 (Value.slice A2 bs.length c2).ownBlock) (ho1 : OwnG w1 b 5 1 u' (bs.length + 1) (Lib.byteCells bs ++ [.int .u8 (UInt8.toNat 36)])) => r_byted (c := 36) (o := o) H3.out H4.out H5.out hsz hg ho1
          have hOb := Lib.hid fun o => H3.out.below ((Below.refl _ wr).alloc (Nat.le_refl _) o)
          clear hst hrel h1 h3 hb hb2
          go_wp2_with (at_builtin; refine wpList_append_G _ rfl _ _ 76 rfl b 5 i5 (.int .u8 0) 1 1 Try.underlying76 hi5 hz50 hz51 hz52 rfl (.slice A2 bs.length c2) bs.length (Lib.byteCells bs) rfl (hOb.out _) ⟨_, 0, none⟩ 1 1 [.int .u8 36] rfl rfl (cell_one_new _ _ _) (by simp [Value.oneCell']) (by decide) (by unfold maxLen; omega) (by omega) (by simp; omega) ?_; intro g cap w1 hown1 hgrow1 _ _; obtain ⟨e1, e2, e3, e4⟩ := HB.out w1 _ _ hgrow1 hown1; have E1 := Lib.hid e1; have E2 := Lib.hid e2; have E3 := Lib.hid e3; have E4 := Lib.hid e4; clear e1 e2 e3 e4 hown1 hgrow1)
          exact ⟨⟨i + 2, f, n, bs ++ [36], l, by go_num, by omega, by omega, by simp; omega, by simpa using E1.out, E2.out, E3.out, HBel.out.trans E4.out, by have := E4.out.size; omega, HS⟩, by simp [intOf]; omega⟩
        · rw [if_neg h3] at hst
          have n3 : ((s[i + 1].toNat : Int) == 36) = false := by rw [beq_eq_false_iff_ne]; intro h; exact h3 (by rw [← hb2]; exact UInt8.toNat_inj.1 (by show s[i + 1].toNat = 36; omega))
          by_cases h4 : s.get! (i + 1) = 40 ∨ s.get! (i + 1) = 123
          · rw [if_pos h4] at hst
            have HEn := Lib.hid fun w => closing_any s i w (by omega) h2 h4
            have hin := endI_in s (i + 1)
            obtain ⟨e0, he0⟩ : ∃ e0, endI s (i + 1) = e0 := ⟨_, rfl⟩
            rw [he0] at hst HEn hin
            have h5 : ((s[i + 1].toNat : Int) = 40 ∧ ((s[i + 1].toNat : Int) != 40) = false) ∨ ((s[i + 1].toNat : Int) = 123 ∧ ((s[i + 1].toNat : Int) != 40) = true ∧ ((s[i + 1].toNat : Int) != 123) = false) := by
              rcases h4 with h | h
              · left; rw [hb2, h]; exact ⟨rfl, rfl⟩
              · right; rw [hb2, h]; exact ⟨rfl, rfl, rfl⟩
            clear h1 h3 h4 hb hb2 hrel he0 n3
            rcases hin with rfl | ⟨k, rfl, hk1, hk2⟩
            · have hRn : R = none := by simpa using hst.symm
              have HRn := Lib.hid hRn
              clear hst hRn
              rcases HNB.out with hbs | ⟨-, hbp⟩
              · have hbz : bs.length = 0 := by rw [hbs]; rfl
                clear hbs
                rw [hbz]
                rcases h5 with ⟨h5, h6⟩ | ⟨h5, h6, h7⟩
                all_goals
                  go_wp2_with (go_at_call 85; refine (HEn.out _).mono ?_; rintro e w' ⟨rfl, hwe⟩; obtain rfl : wr = w' := hwe.symm)
                  go_ret2
                  have hRn := HRn.out
                  subst hRn
                  exact ⟨by rw [HBW.out]; exact HBel.out, rfl⟩
              · have hbp2 : (0 : Int) < bs.length := by omega
                have hcv := HCV.out
                rcases h5 with ⟨h5, h6⟩ | ⟨h5, h6, h7⟩
                all_goals
                  go_wp2_with (first | (at_builtin; refine wpList_append_G _ rfl _ _ 38 rfl b 44 i4 (.agg #[.int .i64 0, .string ⟨#[]⟩, .string ⟨#[]⟩, .slice none 0 0]) 4 64 Try.underlying38 hi4 hz40 hz41 hz42 rfl (.slice A1 n c1) n (pRows l) rfl (hO0.out _) ⟨wr.heap.size, 0, none⟩ 1 1 (pRow ((1 : Int), sb, (⟨#[]⟩ : ByteArray), ([] : List ByteArray)) (.slice none 0 0)) rfl rfl (World.news_of_block (heap_alloc_last wr _)) (by simp [Value.oneCell', pRow]) (by decide) (by unfold maxLen; omega) (by omega) (by simp; omega) ?_; intro g cap w1 hown1 hgrow1 _ _; obtain ⟨-, f2, f3, f4⟩ := HX0.out w1 _ _ hgrow1 hown1; clear hown1 hgrow1; have hz1 : b ≤ w1.heap.size := (by have := f4.size; have := hsz; omega); have F4 := Lib.hid (HBel.out.trans f4); clear f2 f3 f4) | (go_at_call 85; refine (HEn.out _).mono ?_; rintro e w' ⟨rfl, hwe⟩; obtain rfl : w1 = w' := hwe.symm))
                  go_ret2
                  have hRn := HRn.out
                  subst hRn
                  exact ⟨by rw [HBW.out]; exact F4.out, rfl⟩
            · rw [if_neg (by omega)] at hst
              have hkn : ((k : Int)).toNat = k := by omega
              rw [hkn] at hst
              obtain ⟨sub, hsub⟩ : ∃ sub, s.extract (i + 2) k = sub := ⟨_, rfl⟩
              rw [hsub] at hst
              obtain ⟨p, hp⟩ : ∃ p, withinP sub = p := ⟨_, rfl⟩
              have HW := Lib.hid fun W => inner_any sub W (by rw [← hsub]; simp; omega)
              rw [hp] at hst HW
              obtain ⟨p1, p2, p3, p4⟩ := p
              have HST := Lib.hid hst
              have q5 : ¬ (k : Int) < 0 := by omega
              have q7 : (k : Int) ≤ s.size := by omega
              have q8 : (i : Int) + 2 ≤ k := by omega
              have q10 : (0 : Int) ≤ (i : Int) + 2 := by omega
              have q11 : ((i : Int) + 2).toNat = i + 2 := by omega
              have hsubE := hsub
              clear hst hp hkn
              rcases HNB.out with hbs | ⟨hbs, hbp⟩
              · have hbz : bs.length = 0 := by rw [hbs]; rfl
                have H30 : Hid (OwnG wr b 5 1 (.slice A2 0 c2) ([] : List UInt8).length (Lib.byteCells [])) := by have := H3.out; rw [hbs] at this; exact this
                have HS : ∀ x : Value, Hid (partsG s f (k + 1) [] ((l ++ [((p1, p2, p3, p4), x)]).map (·.1)) = R) := fun x => by
                  unfold Hid; simp only [List.map_append, List.map_cons, List.map_nil]; rw [← HF0.out hbs]; exact HST.out
                have HS2 := Lib.hid HS
                clear hbs HS
                rw [hbz]
                rcases h5 with ⟨h5, h6⟩ | ⟨h5, h6, h7⟩
                all_goals
                  go_wp2_with (first | (go_at_call 85; refine (HEn.out _).mono ?_; rintro e w' ⟨rfl, hwe⟩; obtain rfl : wr = w' := hwe.symm) | (go_at_call 86; refine (HW.out _).mono ?_; rintro e w2 ⟨v, rfl, hv, hb2⟩; obtain ⟨Av, cv, rfl, _, _⟩ := hv.form; have hz2 : b ≤ w2.heap.size := (by have := hb2.size; have := hsz; omega); have hO2 := Lib.hid fun o => (H4.out.below hb2).below ((Below.refl _ w2).alloc (Nat.le_refl _) o); have HX2 := Lib.hid fun (w9 : World) (v' : Value) (o : Obj) (hg : (w2.alloc o).grownBy w9 (Value.slice A1 n c1).ownBlock) (ho1 : OwnG w9 b 44 4 v' (n + 1) (pRows l ++ pRow (p1, p2, p3, p4) (Value.slice Av p4.length cv))) => r_pushed (W := w2) (w1 := w9) (bs := ([] : List UInt8)) (u := (.slice A2 0 c2)) (l := l) (n := n) (v := .slice A1 n c1) (v' := v') (p := (p1, p2, p3, p4)) (x := (Value.slice Av p4.length cv)) (o := o) (H30.out.below hb2) (H4.out.below hb2) (fun x hx => (H5.out x hx).below hb2) (hv.lower hsz) hz2 hg ho1; have HB2 := Lib.hid (HBel.out.trans (hb2.mono hsz)); clear hv hb2) | (at_builtin; refine wpList_append_G _ rfl _ _ 38 rfl b 44 i4 (.agg #[.int .i64 0, .string ⟨#[]⟩, .string ⟨#[]⟩, .slice none 0 0]) 4 64 Try.underlying38 hi4 hz40 hz41 hz42 rfl (.slice A1 n c1) n (pRows l) rfl (hO2.out _) ⟨w2.heap.size, 0, none⟩ 1 1 (pRow (p1, p2, p3, p4) (Value.slice Av p4.length cv)) rfl rfl (World.news_of_block (heap_alloc_last w2 _)) (by simp [Value.oneCell', pRow]) (by decide) (by unfold maxLen; omega) (by omega) (by simp; omega) ?_; intro g2 cap2 w3 hown3 hgrow3 _ _; obtain ⟨g1', g2', g3', g4'⟩ := HX2.out w3 _ _ hgrow3 hown3; have G1 := Lib.hid g1'; have G2 := Lib.hid g2'; have G3 := Lib.hid g3'; have G4 := Lib.hid (HB2.out.trans g4'); clear hown3 hgrow3 g1' g2' g3' g4'))
                  exact ⟨⟨k + 1, f, n + 1, [], _, by go_num, by omega, by omega, by simp; omega, G1.out, G2.out, G3.out, G4.out, by have := G4.out.size; have := HB0.out; omega, HS2.out _⟩, by simp [intOf]; omega⟩
              · have hbp2 : (0 : Int) < bs.length := by omega
                have hcv := HCV.out
                have HS : ∀ x : Value, Hid (partsG s f (k + 1) [] (((l ++ [(((1 : Int), sb, (⟨#[]⟩ : ByteArray), ([] : List ByteArray)), Value.slice none 0 0)]) ++ [((p1, p2, p3, p4), x)]).map (·.1)) = R) := fun x => by
                  unfold Hid; simp only [List.map_append, List.map_cons, List.map_nil]; rw [← HF.out hbs]; exact HST.out
                have HS2 := Lib.hid HS
                clear HS hbs
                rcases h5 with ⟨h5, h6⟩ | ⟨h5, h6, h7⟩
                all_goals
                  go_wp2_with (first | (at_builtin; refine wpList_append_G _ rfl _ _ 38 rfl b 44 i4 (.agg #[.int .i64 0, .string ⟨#[]⟩, .string ⟨#[]⟩, .slice none 0 0]) 4 64 Try.underlying38 hi4 hz40 hz41 hz42 rfl (.slice A1 n c1) n (pRows l) rfl (hO0.out _) ⟨wr.heap.size, 0, none⟩ 1 1 (pRow ((1 : Int), sb, (⟨#[]⟩ : ByteArray), ([] : List ByteArray)) (.slice none 0 0)) rfl rfl (World.news_of_block (heap_alloc_last wr _)) (by simp [Value.oneCell', pRow]) (by decide) (by unfold maxLen; omega) (by omega) (by simp; omega) ?_; intro g cap w1 hown1 hgrow1 _ _; obtain ⟨-, f2, f3, f4⟩ := HX0.out w1 _ _ hgrow1 hown1; clear hown1 hgrow1; have hz1 : b ≤ w1.heap.size := (by have := f4.size; have := hsz; omega); have F2 := Lib.hid f2; have F3 := Lib.hid f3; have F4 := Lib.hid (HBel.out.trans f4); clear f2 f3 f4) | (go_at_call 85; refine (HEn.out _).mono ?_; rintro e w' ⟨rfl, hwe⟩; obtain rfl : w1 = w' := hwe.symm) | (go_at_call 86; refine (HW.out _).mono ?_; rintro e w2 ⟨v, rfl, hv, hb2⟩; obtain ⟨Av, cv, rfl, _, _⟩ := hv.form; have hz2 : b ≤ w2.heap.size := (by have := hb2.size; have := hz1; omega); have hO2 := Lib.hid fun o => (F2.out.below hb2).below ((Below.refl _ w2).alloc (Nat.le_refl _) o); have HX2 := Lib.hid fun (w9 : World) (v' : Value) (o : Obj) (hg : (w2.alloc o).grownBy w9 (Value.slice (some ⟨g, 0, none⟩) (n + 1) cap).ownBlock) (ho1 : OwnG w9 b 44 4 v' ((n + 1) + 1) (pRows (l ++ [(((1 : Int), sb, (⟨#[]⟩ : ByteArray), ([] : List ByteArray)), Value.slice none 0 0)]) ++ pRow (p1, p2, p3, p4) (Value.slice Av p4.length cv))) => r_pushed (W := w2) (w1 := w9) (bs := ([] : List UInt8)) (u := (.slice none 0 0)) (l := (l ++ [(((1 : Int), sb, (⟨#[]⟩ : ByteArray), ([] : List ByteArray)), Value.slice none 0 0)])) (n := (n + 1)) (v := .slice (some ⟨g, 0, none⟩) (n + 1) cap) (v' := v') (p := (p1, p2, p3, p4)) (x := (Value.slice Av p4.length cv)) (o := o) (OwnG.nil w2 b 5 1) (F2.out.below hb2) (fun x hx => (F3.out x hx).below hb2) (hv.lower hz1) hz2 hg ho1; have HB2 := Lib.hid (F4.out.trans (hb2.mono hz1)); clear hv hb2) | (at_builtin; refine wpList_append_G _ rfl _ _ 38 rfl b 44 i4 (.agg #[.int .i64 0, .string ⟨#[]⟩, .string ⟨#[]⟩, .slice none 0 0]) 4 64 Try.underlying38 hi4 hz40 hz41 hz42 rfl (.slice (some ⟨g, 0, none⟩) (n + 1) cap) (n + 1) (pRows (l ++ [(((1 : Int), sb, (⟨#[]⟩ : ByteArray), ([] : List ByteArray)), Value.slice none 0 0)])) rfl (hO2.out _) ⟨w2.heap.size, 0, none⟩ 1 1 (pRow (p1, p2, p3, p4) (Value.slice Av p4.length cv)) rfl rfl (World.news_of_block (heap_alloc_last w2 _)) (by simp [Value.oneCell', pRow]) (by decide) (by unfold maxLen; omega) (by omega) (by simp; omega) ?_; intro g2 cap2 w3 hown3 hgrow3 _ _; obtain ⟨g1', g2', g3', g4'⟩ := HX2.out w3 _ _ hgrow3 hown3; have G1 := Lib.hid g1'; have G2 := Lib.hid g2'; have G3 := Lib.hid g3'; have G4 := Lib.hid (HB2.out.trans g4'); clear hown3 hgrow3 g1' g2' g3' g4'))
                  exact ⟨⟨k + 1, f, n + 1 + 1, [], _, by go_num, by omega, by omega, by simp; omega, G1.out, G2.out, G3.out, G4.out, by have := G4.out.size; have := HB0.out; omega, HS2.out _⟩, by simp [intOf]; omega⟩
          · rw [if_neg h4] at hst
            have n1 : ((s[i + 1].toNat : Int) != 40) = true := by rw [bne_iff_ne]; intro h; exact h4 (.inl (by rw [← hb2]; exact UInt8.toNat_inj.1 (by show s[i + 1].toNat = 40; omega)))
            have n2 : ((s[i + 1].toNat : Int) != 123) = true := by rw [bne_iff_ne]; intro h; exact h4 (.inr (by rw [← hb2]; exact UInt8.toNat_inj.1 (by show s[i + 1].toNat = 123; omega)))
            obtain ⟨sub, hsub⟩ : ∃ sub, s.extract (i + 1) (i + 2) = sub := ⟨_, rfl⟩
            rw [hsub] at hst
            have HST := Lib.hid hst
            have q10 : (0 : Int) ≤ (i : Int) + 2 := by omega
            have q11 : ((i : Int) + 2).toNat = i + 2 := by omega
            have q12 : (i : Int) + 2 ≤ s.size := by omega
            have q13 : (i : Int) + 1 ≤ (i : Int) + 2 := by omega
            have hsubE := hsub
            clear hst h1 h3 h4 hb hb2 hrel
            rcases HNB.out with hbs | ⟨hbs, hbp⟩
            · have hbz : bs.length = 0 := by rw [hbs]; rfl
              have H30 : Hid (OwnG wr b 5 1 (.slice A2 0 c2) ([] : List UInt8).length (Lib.byteCells [])) := by have := H3.out; rw [hbs] at this; exact this
              have HS : ∀ x : Value, Hid (partsG s f (i + 2) [] ((l ++ [(((2 : Int), sub, (⟨#[]⟩ : ByteArray), ([] : List ByteArray)), x)]).map (·.1)) = R) := fun x => by
                unfold Hid; simp only [List.map_append, List.map_cons, List.map_nil]; rw [← HF0.out hbs]; exact HST.out
              have HS2 := Lib.hid HS
              have HB2 := HBel
              have hO2 := Lib.hid fun o => H4.out.below ((Below.refl _ wr).alloc (Nat.le_refl _) o)
              have HX2 := Lib.hid fun (w9 : World) (v' : Value) (o : Obj) (hg : (wr.alloc o).grownBy w9 (Value.slice A1 n c1).ownBlock) (ho1 : OwnG w9 b 44 4 v' (n + 1) (pRows l ++ pRow ((2 : Int), sub, (⟨#[]⟩ : ByteArray), ([] : List ByteArray)) (.slice none 0 0))) => r_pushed (W := wr) (w1 := w9) (bs := ([] : List UInt8)) (u := (.slice A2 0 c2)) (l := l) (n := n) (v := .slice A1 n c1) (v' := v') (p := ((2 : Int), sub, (⟨#[]⟩ : ByteArray), ([] : List ByteArray))) (x := (.slice none 0 0)) (o := o) H30.out H4.out H5.out (OwnG.nil _ _ _ _) hsz hg ho1
              clear hbs HS
              rw [hbz]
              go_wp2_with ((at_builtin; refine wpList_append_G _ rfl _ _ 38 rfl b 44 i4 (.agg #[.int .i64 0, .string ⟨#[]⟩, .string ⟨#[]⟩, .slice none 0 0]) 4 64 Try.underlying38 hi4 hz40 hz41 hz42 rfl (.slice A1 n c1) n (pRows l) rfl (hO2.out _) ⟨wr.heap.size, 0, none⟩ 1 1 (pRow ((2 : Int), sub, (⟨#[]⟩ : ByteArray), ([] : List ByteArray)) (.slice none 0 0)) rfl rfl (World.news_of_block (heap_alloc_last wr _)) (by simp [Value.oneCell', pRow]) (by decide) (by unfold maxLen; omega) (by omega) (by simp; omega) ?_; intro g2 cap2 w3 hown3 hgrow3 _ _; obtain ⟨g1', g2', g3', g4'⟩ := HX2.out w3 _ _ hgrow3 hown3; have G1 := Lib.hid g1'; have G2 := Lib.hid g2'; have G3 := Lib.hid g3'; have G4 := Lib.hid (HB2.out.trans g4'); clear hown3 hgrow3 g1' g2' g3' g4'))
              exact ⟨⟨i + 2, f, n + 1, [], _, by go_num, by omega, by omega, by simp; omega, G1.out, G2.out, G3.out, G4.out, by have := G4.out.size; have := HB0.out; omega, HS2.out _⟩, by simp [intOf]; omega⟩
            · have hbp2 : (0 : Int) < bs.length := by omega
              have hcv := HCV.out
              have HS : ∀ x : Value, Hid (partsG s f (i + 2) [] (((l ++ [(((1 : Int), sb, (⟨#[]⟩ : ByteArray), ([] : List ByteArray)), Value.slice none 0 0)]) ++ [(((2 : Int), sub, (⟨#[]⟩ : ByteArray), ([] : List ByteArray)), x)]).map (·.1)) = R) := fun x => by
                unfold Hid; simp only [List.map_append, List.map_cons, List.map_nil]; rw [← HF.out hbs]; exact HST.out
              have HS2 := Lib.hid HS
              clear HS hbs
              go_wp2_with (first | (at_builtin; refine wpList_append_G _ rfl _ _ 38 rfl b 44 i4 (.agg #[.int .i64 0, .string ⟨#[]⟩, .string ⟨#[]⟩, .slice none 0 0]) 4 64 Try.underlying38 hi4 hz40 hz41 hz42 rfl (.slice A1 n c1) n (pRows l) rfl (hO0.out _) ⟨wr.heap.size, 0, none⟩ 1 1 (pRow ((1 : Int), sb, (⟨#[]⟩ : ByteArray), ([] : List ByteArray)) (.slice none 0 0)) rfl rfl (World.news_of_block (heap_alloc_last wr _)) (by simp [Value.oneCell', pRow]) (by decide) (by unfold maxLen; omega) (by omega) (by simp; omega) ?_; intro g cap w1 hown1 hgrow1 _ _; obtain ⟨-, f2, f3, f4⟩ := HX0.out w1 _ _ hgrow1 hown1; clear hown1 hgrow1; have hz1 : b ≤ w1.heap.size := (by have := f4.size; have := hsz; omega); have F2 := Lib.hid f2; have F3 := Lib.hid f3; have HB2 := Lib.hid (HBel.out.trans f4); have hO2 := Lib.hid fun o => F2.out.below ((Below.refl _ w1).alloc (Nat.le_refl _) o); have HX2 := Lib.hid fun (w9 : World) (v' : Value) (o : Obj) (hg : (w1.alloc o).grownBy w9 (Value.slice (some ⟨g, 0, none⟩) (n + 1) cap).ownBlock) (ho1 : OwnG w9 b 44 4 v' ((n + 1) + 1) (pRows (l ++ [(((1 : Int), sb, (⟨#[]⟩ : ByteArray), ([] : List ByteArray)), Value.slice none 0 0)]) ++ pRow ((2 : Int), sub, (⟨#[]⟩ : ByteArray), ([] : List ByteArray)) (.slice none 0 0))) => r_pushed (W := w1) (w1 := w9) (bs := ([] : List UInt8)) (u := (.slice none 0 0)) (l := (l ++ [(((1 : Int), sb, (⟨#[]⟩ : ByteArray), ([] : List ByteArray)), Value.slice none 0 0)])) (n := (n + 1)) (v := .slice (some ⟨g, 0, none⟩) (n + 1) cap) (v' := v') (p := ((2 : Int), sub, (⟨#[]⟩ : ByteArray), ([] : List ByteArray))) (x := (.slice none 0 0)) (o := o) (OwnG.nil _ _ _ _) F2.out F3.out (OwnG.nil _ _ _ _) hz1 hg ho1; clear f2 f3 f4) | (at_builtin; refine wpList_append_G _ rfl _ _ 38 rfl b 44 i4 (.agg #[.int .i64 0, .string ⟨#[]⟩, .string ⟨#[]⟩, .slice none 0 0]) 4 64 Try.underlying38 hi4 hz40 hz41 hz42 rfl (.slice (some ⟨g, 0, none⟩) (n + 1) cap) (n + 1) (pRows (l ++ [(((1 : Int), sb, (⟨#[]⟩ : ByteArray), ([] : List ByteArray)), Value.slice none 0 0)])) rfl (hO2.out _) ⟨w1.heap.size, 0, none⟩ 1 1 (pRow ((2 : Int), sub, (⟨#[]⟩ : ByteArray), ([] : List ByteArray)) (.slice none 0 0)) rfl rfl (World.news_of_block (heap_alloc_last w1 _)) (by simp [Value.oneCell', pRow]) (by decide) (by unfold maxLen; omega) (by omega) (by simp; omega) ?_; intro g2 cap2 w3 hown3 hgrow3 _ _; obtain ⟨g1', g2', g3', g4'⟩ := HX2.out w3 _ _ hgrow3 hown3; have G1 := Lib.hid g1'; have G2 := Lib.hid g2'; have G3 := Lib.hid g3'; have G4 := Lib.hid (HB2.out.trans g4'); clear hown3 hgrow3 g1' g2' g3' g4'))
              exact ⟨⟨i + 2, f, n + 1 + 1, [], _, by go_num, by omega, by omega, by simp; omega, G1.out, G2.out, G3.out, G4.out, by have := G4.out.size; have := HB0.out; omega, HS2.out _⟩, by simp [intOf]; omega⟩
      · rw [if_neg h1] at hst
        have HS : Hid (partsG s f (i + 1) (bs ++ [s[i]]) (l.map (·.1)) = R) := by unfold Hid; rw [hb]; exact hst
        have hor : ((s[i].toNat : Int) == 36) = false ∨ ((s[i].toNat : Int) = 36 ∧ (i : Int) + 1 = s.size) := by
          by_cases h : s.get! i = 36
          · right; exact ⟨by rw [hb, h]; rfl, by have : ¬ i + 1 < s.size := fun e => h1 ⟨h, e⟩; omega⟩
          · left; rw [beq_eq_false_iff_ne]; intro h2; exact h (by rw [← hb]; exact UInt8.toNat_inj.1 (by show s[i].toNat = 36; omega))
        have HB := Lib.hid fun (w1 : World) (u' : Value) (o : Obj) (hg : (wr.alloc o).grownBy w1 (Value.slice A2 bs.length c2).ownBlock) (ho1 : OwnG w1 b 5 1 u' (bs.length + 1) (Lib.byteCells bs ++ [.int .u8 s[i].toNat])) => r_byted (c := s[i]) (o := o) H3.out H4.out H5.out hsz hg ho1
        have hOb := Lib.hid fun o => H3.out.below ((Below.refl _ wr).alloc (Nat.le_refl _) o)
        clear hst hrel h1 hb
        rcases hor with n1 | ⟨hx, hxe⟩
        · have m1 : ((s[i].toNat : Int) != 36) = true := by rw [bne, n1]; rfl
          go_wp2_with (at_builtin; refine wpList_append_G _ rfl _ _ 76 rfl b 5 i5 (.int .u8 0) 1 1 Try.underlying76 hi5 hz50 hz51 hz52 rfl (.slice A2 bs.length c2) bs.length (Lib.byteCells bs) rfl (hOb.out _) ⟨_, 0, none⟩ 1 1 [.int .u8 s[i].toNat] rfl rfl (cell_one_new _ _ _) (by simp [Value.oneCell']) (by decide) (by unfold maxLen; omega) (by omega) (by simp; omega) ?_; intro g cap w1 hown1 hgrow1 _ _; obtain ⟨e1, e2, e3, e4⟩ := HB.out w1 _ _ hgrow1 hown1; have E1 := Lib.hid e1; have E2 := Lib.hid e2; have E3 := Lib.hid e3; have E4 := Lib.hid e4; clear e1 e2 e3 e4 hown1 hgrow1)
          exact ⟨⟨i + 1, f, n, bs ++ [s[i]], l, by go_num, by omega, by omega, by simp; omega, by simpa using E1.out, E2.out, E3.out, HBel.out.trans E4.out, by have := E4.out.size; omega, HS⟩, by simp [intOf]; omega⟩
        · have m1 : ((s[i].toNat : Int) != 36) = false := by rw [hx]; rfl
          have q3 : (s.size : Int) ≤ (i : Int) + 1 := by omega
          have q4 : ¬ (i : Int) + 1 < s.size := by omega
          clear hx hxe
          go_wp2_with (at_builtin; refine wpList_append_G _ rfl _ _ 76 rfl b 5 i5 (.int .u8 0) 1 1 Try.underlying76 hi5 hz50 hz51 hz52 rfl (.slice A2 bs.length c2) bs.length (Lib.byteCells bs) rfl (hOb.out _) ⟨_, 0, none⟩ 1 1 [.int .u8 s[i].toNat] rfl rfl (cell_one_new _ _ _) (by simp [Value.oneCell']) (by decide) (by unfold maxLen; omega) (by omega) (by simp; omega) ?_; intro g cap w1 hown1 hgrow1 _ _; obtain ⟨e1, e2, e3, e4⟩ := HB.out w1 _ _ hgrow1 hown1; have E1 := Lib.hid e1; have E2 := Lib.hid e2; have E3 := Lib.hid e3; have E4 := Lib.hid e4; clear e1 e2 e3 e4 hown1 hgrow1)
          all_goals exact ⟨⟨i + 1, f, n, bs ++ [s[i]], l, by go_num, by omega, by omega, by simp; omega, by simpa using E1.out, E2.out, E3.out, HBel.out.trans E4.out, by have := E4.out.size; omega, HS⟩, by simp [intOf]; omega⟩
    · rw [if_neg hlt] at hst
      have q1 : ¬ (i : Int) < s.size := by omega
      have HST := Lib.hid hst
      clear hst hrel
      rcases HNB.out with hbs | ⟨hbs, hbp⟩
      · have hbz : bs.length = 0 := by rw [hbs]; rfl
        have hE := hbs
        clear hbs
        have HE := Lib.hid hE
        clear hE
        rw [hbz]
        go_wp2
        go_ret2
        have hR := HST.out
        rw [HF0.out HE.out] at hR
        rw [← hR]
        exact ⟨by rw [HBW.out]; exact HBel.out, _, l, rfl, rfl, by rw [HBW.out, ← rows_len H4.out]; exact H4.out, by rw [HBW.out]; exact H5.out⟩
      · have hbp2 : (0 : Int) < bs.length := by omega
        have hcv := HCV.out
        have HE := Lib.hid hbs
        clear hbs
        go_wp2_with ((at_builtin; refine wpList_append_G _ rfl _ _ 38 rfl b 44 i4 (.agg #[.int .i64 0, .string ⟨#[]⟩, .string ⟨#[]⟩, .slice none 0 0]) 4 64 Try.underlying38 hi4 hz40 hz41 hz42 rfl (.slice A1 n c1) n (pRows l) rfl (hO0.out _) ⟨wr.heap.size, 0, none⟩ 1 1 (pRow ((1 : Int), sb, (⟨#[]⟩ : ByteArray), ([] : List ByteArray)) (.slice none 0 0)) rfl rfl (World.news_of_block (heap_alloc_last wr _)) (by simp [Value.oneCell', pRow]) (by decide) (by unfold maxLen; omega) (by omega) (by simp; omega) ?_; intro g cap w1 hown1 hgrow1 _ _; obtain ⟨-, f2, f3, f4⟩ := HX0.out w1 _ _ hgrow1 hown1; clear hown1 hgrow1; have hz1 : b ≤ w1.heap.size := (by have := f4.size; have := hsz; omega); have F2 := Lib.hid f2; have F3 := Lib.hid f3; have F4 := Lib.hid (HBel.out.trans f4); clear f2 f3 f4))
        go_ret2
        have hR := HST.out
        rw [HF.out HE.out] at hR
        rw [← hR]
        exact ⟨by rw [HBW.out]; exact F4.out, _, (l ++ [(((1 : Int), sb, (⟨#[]⟩ : ByteArray), ([] : List ByteArray)), Value.slice none 0 0)]), rfl, by simp, by rw [HBW.out, ← rows_len F2.out]; exact F2.out, by rw [HBW.out]; exact F3.out⟩
end Go.Proofs.Ytndoloohdloflaa
