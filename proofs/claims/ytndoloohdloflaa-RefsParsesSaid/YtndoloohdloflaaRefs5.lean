/- The arguments of a function, cut at commas, in package refs and in the reference; conditions: texts of at most a million bytes. -/
import Derived.Test.YtndoloohdloflaaRefs4
namespace Go.Proofs.Ytndoloohdloflaa
open Go.RowKit

def cutL (most : Int) : List UInt8 → List UInt8 → List UInt8 → List (List UInt8) → List (List UInt8)
  | [], cur, _, out => out ++ [cur]
  | x :: l, cur, st, out =>
    if x = 40 ∨ x = 123 then cutL most l (cur ++ [x]) (st ++ [x]) out
    else if x = 41 then cutL most l (cur ++ [x]) (popIf 40 st) out
    else if x = 125 then cutL most l (cur ++ [x]) (popIf 123 st) out
    else if x = 44 ∧ st = [] ∧ (most < 0 ∨ (out.length : Int) + 1 < most) then cutL most l [] st (out ++ [cur])
    else cutL most l (cur ++ [x]) st out
theorem popIf_len (c : UInt8) (st : List UInt8) : (popIf c st).length ≤ st.length := by unfold popIf; split <;> simp
theorem ext_snoc (s : ByteArray) (f k : Nat) (hf : f ≤ k) (hk : k < s.size) : (s.extract f (k + 1)).data.toList = (s.extract f k).data.toList ++ [s[k]] := by
  rw [extract_list, extract_list, take_snoc s k hk, List.drop_append_of_le_length (by simp; omega)]
theorem cut_step (most : Int) (s : ByteArray) (f k : Nat) (st : List UInt8) (out : List (List UInt8)) (hf : f ≤ k) (hk : k < s.size) :
    cutL most (s.data.toList.drop k) (s.extract f k).data.toList st out =
    if s[k] = 40 ∨ s[k] = 123 then cutL most (s.data.toList.drop (k + 1)) (s.extract f (k + 1)).data.toList (st ++ [s[k]]) out
    else if s[k] = 41 then cutL most (s.data.toList.drop (k + 1)) (s.extract f (k + 1)).data.toList (popIf 40 st) out
    else if s[k] = 125 then cutL most (s.data.toList.drop (k + 1)) (s.extract f (k + 1)).data.toList (popIf 123 st) out
    else if s[k] = 44 ∧ st = [] ∧ (most < 0 ∨ (out.length : Int) + 1 < most) then cutL most (s.data.toList.drop (k + 1)) (s.extract (k + 1) (k + 1)).data.toList st (out ++ [(s.extract f k).data.toList])
    else cutL most (s.data.toList.drop (k + 1)) (s.extract f (k + 1)).data.toList st out := by
  have e0 : (s.extract (k + 1) (k + 1)).data.toList = [] := by rw [extract_list]; simp
  rw [ext_snoc s f k hf hk, e0, List.drop_eq_getElem_cons (by simpa using hk), get_list' s k hk, cutL]
def cutI (most : Int) (s : ByteArray) : List ByteArray := (cutL most s.data.toList [] [] []).map mk
def mkS (l : List (List UInt8)) : List Value := (l.map mk).map Value.string
theorem mkS_app (a : List (List UInt8)) (x : ByteArray) : mkS (a ++ [x.data.toList]) = mkS a ++ [.string x] := by simp [mkS, mk]
theorem mkS_len (a : List (List UInt8)) : (mkS a).length = a.length := by simp [mkS]
theorem OwnG.aside {w w' : World} {base : Nat} {e e' : TypeId} {size : Nat} {v : Value} {n : Nat} {xs : List Value} {row : Option Nat} (h : OwnG w base e size v n xs) (hg : w.grownBy w' row) (ht : ∀ k, row = some k → ∃ c fz, w.heap[k]? = some (.cells c e' fz)) (hee : e ≠ e') :
    OwnG w' base e size v n xs := by
  refine h.move fun k hk => ?_
  have hlt := (h.block_lt k hk).2
  refine hg.block k hlt fun e2 => ?_
  obtain ⟨c, fz, hc⟩ := ht k e2.symm
  obtain ⟨c2, fz2, hc2⟩ := h.typed k hk
  rw [hc] at hc2
  cases hc2
  exact hee rfl
theorem OwnG.others {w w' : World} {base b : Nat} {e e' : TypeId} {size : Nat} {v : Value} {n : Nat} {xs : List Value} {u : Value} {t : TypeId} (h : OwnG w base e size v n xs) (ho : Lib.OthersKept e' (some b) w w') (hee : e ≠ e') (hb : w.heap[b]? = some (.cells #[u] t (0, 0))) (hte : t ≠ e) :
    OwnG w' base e size v n xs := by
  refine h.move fun k hk => ?_
  obtain ⟨c, fz, hc⟩ := h.typed k hk
  rw [hc]
  refine ho k _ hc ?_ ?_
  · intro e2
    cases e2
    rw [hb] at hc
    cases hc
    exact hte rfl
  · intro c2 fz2 e2
    cases e2
    exact hee rfl
theorem Stk.grown {w w' : World} {b : Nat} {bs : List UInt8} {row : Option Nat} (h : Stk w b bs) (hg : w.grownBy w' row) (ht : ∀ k, row = some k → ∃ c fz, w.heap[k]? = some (.cells c 9 fz)) : Stk w' b bs := by
  obtain ⟨v, hb, hv⟩ := h
  refine ⟨v, (hg.block b (lt_of_block hb) fun e => ?_).trans hb, hv.aside hg ht (by decide)⟩
  obtain ⟨c, fz, hc⟩ := ht b e.symm
  rw [hb] at hc
  cases hc
theorem Stk.alloc {w : World} {b : Nat} {bs : List UInt8} (h : Stk w b bs) (o : Obj) : Stk (w.alloc o) b bs := by
  obtain ⟨v, hb, hv⟩ := h
  exact ⟨v, (Below.heap_alloc w o b (lt_of_block hb)).trans hb, hv.below ((Below.refl _ w).alloc (Nat.le_refl _) o)⟩
theorem Stk.lt {w : World} {b : Nat} {bs : List UInt8} (h : Stk w b bs) : b < w.heap.size := by obtain ⟨v, hb, _⟩ := h; exact lt_of_block hb
theorem OwnG.ofStk {w w' : World} {base b : Nat} {v : Value} {n : Nat} {xs : List Value} {bs : List UInt8} (h : OwnG w base 9 1 v n xs) (hs : Stk w b bs) (ho : Lib.OthersKept 5 (some b) w w') : OwnG w' base 9 1 v n xs := by
  obtain ⟨u, hb, _⟩ := hs
  exact h.others ho (by decide) hb (by decide)

set_option maxRecDepth 100000 in
set_option maxHeartbeats 2000000 in
theorem cut_any (s : ByteArray) (most : Int) (w : World) (hs : s.size ≤ 1000000) :
    Calls Try.prog 103 #[.string s, .int .i64 most] w fun e W' => ∃ v, e = .returned v ∧ OwnG W' w.heap.size 9 1 v (cutI most s).length ((cutI most s).map Value.string) ∧ Below w.heap.size w W' := by
  obtain ⟨i0, hi, hz0, hz1, hz2⟩ := info_parts Try.info9
  obtain ⟨R, hR⟩ : ∃ R, cutL most s.data.toList [] [] [] = R := ⟨_, rfl⟩
  have e1 : cutI most s = R.map mk := by rw [cutI, hR]
  rw [e1, List.length_map]
  have HR := Lib.hid hR
  clear hR e1
  go_enter Try.func103, Try.ntmps103
  go_wp2
  go_loopw [5, 7, 8, 9] (fun v fv iv _ wi => ∃ (k fr : Nat) (st : List UInt8) (out : List (List UInt8)), iv = .int .i64 k ∧ fv = .int .i64 fr ∧ fr ≤ k ∧ k ≤ s.size ∧ st.length ≤ k ∧ out.length ≤ k ∧ Stk wi w.heap.size st ∧ OwnG wi w.heap.size 9 1 v out.length (mkS out) ∧ Below w.heap.size w wi ∧ Hid (cutL most (s.data.toList.drop k) (s.extract fr k).data.toList st out = R)) (fun _ _ iv _ _ => s.size - (intOf iv).toNat)
  case atStart =>
    refine ⟨0, 0, [], [], rfl, rfl, Nat.le_refl _, Nat.zero_le _, Nat.le_refl _, Nat.le_refl _, ⟨.slice none 0 0, World.alloc_heap_new w _, OwnG.nil _ _ _ _⟩, OwnG.nil _ _ _ _, (Below.refl _ w).alloc (Nat.le_refl _) _, ?_⟩
    unfold Hid
    have e0 : (s.extract 0 0).data.toList = [] := by rw [extract_list]; simp
    rw [e0]; exact HR.out
  case round =>
    obtain ⟨k, fr, st, out, rfl, rfl, hfk, hk, hsl, hol, hstk, hown, hbel, hrel⟩ := hrel
    have hsz := hbel.size
    have hbs := hstk.lt
    obtain ⟨A1, c1, rfl, hc1, _⟩ := hown.form
    obtain ⟨L, hL⟩ : ∃ L, out.length = L := ⟨_, rfl⟩
    by_cases hlt : k < s.size
    · have q1 : (k : Int) < s.size := by omega
      have hst := cut_step most s fr k st out hfk hlt
      rw [hrel.out] at hst
      by_cases h1 : s[k] = 40 ∨ s[k] = 123
      · rw [if_pos h1] at hst
        have HS := Lib.hid hst.symm
        have HP := Lib.hid (push_any st (s[k]) w.heap.size wr (by omega) hstk)
        have h4 : (s[k].toNat : Int) = 40 ∨ (s[k].toNat : Int) = 123 := by
          rcases h1 with h | h
          · left; rw [h]; rfl
          · right; rw [h]; rfl
        have HOW := Lib.hid (fun w' (ho : Lib.OthersKept 5 (some w.heap.size) wr w') => hown.ofStk hstk ho)
        rw [hL] at HOW
        clear h1 hst hrel hown hstk
        rcases h4 with h4 | h4
        all_goals
          rw [h4] at HP
          go_wp2_with (go_at_call 116; refine HP.out.mono ?_; rintro e w' ⟨rfl, hs', hb', ho'⟩)
          exact ⟨⟨k + 1, fr, st ++ [s[k]], out, by go_num, rfl, by omega, by omega, by simp; omega, by omega, hs', by rw [hL]; exact HOW.out w' ho', hbel.trans hb', HS⟩, by simp [intOf]; omega⟩
      · rw [if_neg h1] at hst
        have n1 : ((s[k].toNat : Int) == 40) = false := by rw [beq_eq_false_iff_ne]; intro h; exact h1 (.inl (UInt8.toNat_inj.1 (by show s[k].toNat = 40; omega)))
        have n2 : ((s[k].toNat : Int) == 123) = false := by rw [beq_eq_false_iff_ne]; intro h; exact h1 (.inr (UInt8.toNat_inj.1 (by show s[k].toNat = 123; omega)))
        clear h1
        by_cases h2 : s[k] = 41
        · rw [if_pos h2] at hst
          have HS := Lib.hid hst.symm
          have HP := Lib.hid (take_any st 40 w.heap.size wr (by omega) hstk)
          have hx : (s[k].toNat : Int) = 41 := by rw [h2]; rfl
          have HOW := Lib.hid (fun w' (ho : Lib.OthersKept 5 (some w.heap.size) wr w') => hown.ofStk hstk ho)
          rw [hL] at HOW
          have hpl := popIf_len 40 st
          clear h2 hst hrel hown hstk
          go_wp2_with (go_at_call 117; refine HP.out.mono ?_; rintro e w' ⟨⟨r, rfl⟩, hs', hb', ho'⟩)
          exact ⟨⟨k + 1, fr, popIf 40 st, out, by go_num, rfl, by omega, by omega, by omega, by omega, hs', by rw [hL]; exact HOW.out w' ho', hbel.trans hb', HS⟩, by simp [intOf]; omega⟩
        rw [if_neg h2] at hst
        have n3 : ((s[k].toNat : Int) == 41) = false := by rw [beq_eq_false_iff_ne]; intro h; exact h2 (UInt8.toNat_inj.1 (by show s[k].toNat = 41; omega))
        clear h2
        by_cases h2 : s[k] = 125
        · rw [if_pos h2] at hst
          have HS := Lib.hid hst.symm
          have HP := Lib.hid (take_any st 123 w.heap.size wr (by omega) hstk)
          have hx : (s[k].toNat : Int) = 125 := by rw [h2]; rfl
          have HOW := Lib.hid (fun w' (ho : Lib.OthersKept 5 (some w.heap.size) wr w') => hown.ofStk hstk ho)
          rw [hL] at HOW
          have hpl := popIf_len 123 st
          clear h2 hst hrel hown hstk
          go_wp2_with (go_at_call 117; refine HP.out.mono ?_; rintro e w' ⟨⟨r, rfl⟩, hs', hb', ho'⟩)
          exact ⟨⟨k + 1, fr, popIf 123 st, out, by go_num, rfl, by omega, by omega, by omega, by omega, hs', by rw [hL]; exact HOW.out w' ho', hbel.trans hb', HS⟩, by simp [intOf]; omega⟩
        rw [if_neg h2] at hst
        have n4 : ((s[k].toNat : Int) == 125) = false := by rw [beq_eq_false_iff_ne]; intro h; exact h2 (UInt8.toNat_inj.1 (by show s[k].toNat = 125; omega))
        clear h2
        by_cases h2 : s[k] = 44
        · have hx : (s[k].toNat : Int) = 44 := by rw [h2]; rfl
          obtain ⟨u, hub, huo⟩ := hstk
          obtain ⟨A2, c2, rfl, _, _⟩ := huo.form
          have hcu := cell_of_one hub
          have hstk : Stk wr w.heap.size st := ⟨_, hub, huo⟩
          clear hub huo
          by_cases h3 : st = []
          · subst h3
            by_cases h5 : most < 0 ∨ (out.length : Int) + 1 < most
            · rw [if_pos ⟨h2, rfl, h5⟩] at hst
              have HS := Lib.hid hst.symm
              have HO := Lib.hid (hown.below ((Below.refl _ wr).alloc (Nat.le_refl _) (.cells #[.string (s.extract fr k)] 9)))
              have HST := Lib.hid (hstk.alloc (.cells #[.string (s.extract fr k)] 9))
              rw [hL] at HO hol h5 hown hc1 ⊢
              clear h2 hst hrel hstk
              by_cases h6 : most < 0
              · go_wp2_with (at_builtin; refine wpList_append_G _ rfl _ _ 30 rfl w.heap.size 9 i0 (.string ⟨#[]⟩) 1 16 Try.underlying30 hi hz0 hz1 hz2 rfl (.slice A1 L c1) L (mkS out) rfl HO.out ⟨_, 0, none⟩ 1 1 [.string (s.extract fr k)] rfl rfl (cell_one_new _ _ _) (by simp [Value.oneCell']) (by omega) (by unfold maxLen; omega) (by omega) (by simp; omega) ?_; intro g cap w1 hown1 hgrow1 _ _)
                have hb1 : Below w.heap.size w w1 := (hbel.alloc hbel.size _).grown hgrow1 (by simp; omega) (fun j hj => (HO.out.block_lt j hj).1)
                have hs1 := HST.out.grown hgrow1 (fun k e => HO.out.typed k e)
                exact ⟨⟨k + 1, k + 1, [], out ++ [(s.extract fr k).data.toList], by go_num, by go_num, by omega, by omega, by simp, by simp; omega, hs1, by rw [mkS_app, List.length_append, hL]; exact hown1, hb1, HS⟩, by simp [intOf]; omega⟩
              · have h7 : (L : Int) + 1 < most := by omega
                go_wp2_with (at_builtin; refine wpList_append_G _ rfl _ _ 30 rfl w.heap.size 9 i0 (.string ⟨#[]⟩) 1 16 Try.underlying30 hi hz0 hz1 hz2 rfl (.slice A1 L c1) L (mkS out) rfl HO.out ⟨_, 0, none⟩ 1 1 [.string (s.extract fr k)] rfl rfl (cell_one_new _ _ _) (by simp [Value.oneCell']) (by omega) (by unfold maxLen; omega) (by omega) (by simp; omega) ?_; intro g cap w1 hown1 hgrow1 _ _)
                have hb1 : Below w.heap.size w w1 := (hbel.alloc hbel.size _).grown hgrow1 (by simp; omega) (fun j hj => (HO.out.block_lt j hj).1)
                have hs1 := HST.out.grown hgrow1 (fun k e => HO.out.typed k e)
                exact ⟨⟨k + 1, k + 1, [], out ++ [(s.extract fr k).data.toList], by go_num, by go_num, by omega, by omega, by simp, by simp; omega, hs1, by rw [mkS_app, List.length_append, hL]; exact hown1, hb1, HS⟩, by simp [intOf]; omega⟩
            · rw [if_neg (by intro h; exact h5 h.2.2)] at hst
              have HS := Lib.hid hst.symm
              rw [hL] at hol h5 hown hc1 ⊢
              have h6 : ¬ most < 0 := fun h => h5 (.inl h)
              have h7 : ¬ (L : Int) + 1 < most := fun h => h5 (.inr h)
              clear h2 hst hrel h5
              go_wp2
              exact ⟨⟨k + 1, fr, [], out, by go_num, rfl, by omega, by omega, by simp, by omega, hstk, by rw [hL]; exact hown, hbel, HS⟩, by simp [intOf]; omega⟩
          · rw [if_neg (by intro h; exact h3 h.2.1)] at hst
            have HS := Lib.hid hst.symm
            have h6 : ¬ st.length = 0 := fun h => h3 (List.eq_nil_of_length_eq_zero h)
            rw [hL] at hol hown hc1 ⊢
            clear h2 hst hrel h3
            go_wp2
            exact ⟨⟨k + 1, fr, st, out, by go_num, rfl, by omega, by omega, by omega, by omega, hstk, by rw [hL]; exact hown, hbel, HS⟩, by simp [intOf]; omega⟩
        · rw [if_neg (by intro h; exact h2 h.1)] at hst
          have n5 : ((s[k].toNat : Int) == 44) = false := by rw [beq_eq_false_iff_ne]; intro h; exact h2 (UInt8.toNat_inj.1 (by show s[k].toNat = 44; omega))
          have HS := Lib.hid hst.symm
          rw [hL] at hol hown hc1 ⊢
          clear h2 hst hrel
          go_wp2
          exact ⟨⟨k + 1, fr, st, out, by go_num, rfl, by omega, by omega, by omega, by omega, hstk, by rw [hL]; exact hown, hbel, HS⟩, by simp [intOf]; omega⟩
    · obtain rfl : k = s.size := by omega
      have HW : Hid (R = out ++ [(s.extract fr s.size).data.toList]) := by
        unfold Hid; rw [← hrel.out, List.drop_eq_nil_of_le (by simp), cutL]
      have HO := Lib.hid (hown.below ((Below.refl _ wr).alloc (Nat.le_refl _) (.cells #[.string (s.extract fr s.size)] 9)))
      rw [hL] at HO hol hown hc1 ⊢
      clear hrel
      go_wp2_with (at_builtin; refine wpList_append_G _ rfl _ _ 30 rfl w.heap.size 9 i0 (.string ⟨#[]⟩) 1 16 Try.underlying30 hi hz0 hz1 hz2 rfl (.slice A1 L c1) L (mkS out) rfl HO.out ⟨_, 0, none⟩ 1 1 [.string (s.extract fr s.size)] rfl rfl (cell_one_new _ _ _) (by simp [Value.oneCell']) (by omega) (by unfold maxLen; omega) (by omega) (by simp; omega) ?_; intro g cap w1 hown1 hgrow1 _ _)
      have hb1 : Below w.heap.size w w1 := (hbel.alloc hbel.size _).grown hgrow1 (by simp; omega) (fun j hj => (HO.out.block_lt j hj).1)
      go_ret
      refine ⟨_, rfl, ?_, hb1⟩
      rw [HW.out, List.length_append, hL]
      have e9 : ((out ++ [(s.extract fr s.size).data.toList]).map mk).map Value.string = mkS out ++ [.string (s.extract fr s.size)] := mkS_app _ _
      rw [e9]
      exact hown1
end Go.Proofs.Ytndoloohdloflaa
