/- A text's lines, in plain words, and the reference's Physical; condition: a text of at most a million bytes. -/
import Derived.Test.YtndoloohdloflabDoorOn
namespace Go.Proofs.YtndoloohdloflabDoor
open Go.RowKit

/-- the lines: what stands of this one, what is to come -/
def physG : List UInt8 → List UInt8 → List (List UInt8)
  | cur, [] => if cur = [] then [] else [cur]
  | cur, c :: r => if c = 10 then cur :: physG [] r else physG (cur ++ [c]) r
def phys (l : List UInt8) : List (List UInt8) := physG [] l
theorem physG_app (a : List UInt8) : ∀ (cur r : List UInt8), (∀ x ∈ a, x ≠ 10) → physG cur (a ++ r) = physG (cur ++ a) r := by
  induction a with
  | nil => intro cur r _; simp
  | cons x a ih =>
    intro cur r h
    rw [List.cons_append, physG, if_neg (h x (by simp)), ih _ _ (fun y hy => h y (by simp [hy]))]
    simp
theorem phys_cut (a r : List UInt8) (h : ∀ x ∈ a, x ≠ 10) : phys (a ++ 10 :: r) = a :: phys r := by
  unfold phys
  rw [physG_app a [] _ h, physG, if_pos rfl]; rfl
theorem phys_last (a : List UInt8) (h : ∀ x ∈ a, x ≠ 10) (h0 : a ≠ []) : phys a = [a] := by
  have := physG_app a [] [] h
  unfold phys
  rw [List.append_nil] at this
  rw [this, physG, List.nil_append, if_neg h0]
theorem index_split (l : List UInt8) (c : UInt8) : (Lib.index l [c] = -1 ∧ ∀ x ∈ l, x ≠ c) ∨ ∃ a r, l = a ++ c :: r ∧ (∀ x ∈ a, x ≠ c) ∧ Lib.index l [c] = a.length := by
  induction l with
  | nil => left; simp [Lib.index]
  | cons x l ih =>
    unfold Lib.index
    by_cases hx : x = c
    · right; exact ⟨[], l, by simp [hx], by simp, by simp [hx, List.isPrefixOf]⟩
    · rw [if_neg (by simp [List.isPrefixOf]; exact fun e => hx e.symm)]
      rcases ih with ⟨h1, h2⟩ | ⟨a, r, h1, h2, h3⟩
      · left; rw [h1]; simp; exact ⟨hx, fun y hy => h2 y hy⟩
      · right; refine ⟨x :: a, r, by simp [h1], ?_, ?_⟩
        · intro y hy; rcases List.mem_cons.1 hy with rfl | hy
          · exact hx
          · exact h2 y hy
        · rw [h3, if_neg (by simp)]; simp
theorem cut_split (l : List UInt8) : (Lib.cut l [10] = (l, [], false) ∧ ∀ x ∈ l, x ≠ 10) ∨ ∃ a r, l = a ++ 10 :: r ∧ (∀ x ∈ a, x ≠ 10) ∧ Lib.cut l [10] = (a, r, true) := by
  rcases index_split l 10 with ⟨h1, h2⟩ | ⟨a, r, h1, h2, h3⟩
  · left; refine ⟨?_, h2⟩; unfold Lib.cut; rw [h1]; rfl
  · right; refine ⟨a, r, h1, h2, ?_⟩
    unfold Lib.cut
    rw [h3, if_pos (by omega), h1]
    simp
def phB (s : ByteArray) : List ByteArray := (phys s.data.toList).map mk
theorem phys_total (l : List UInt8) : ∀ cur, ((physG cur l).map (fun x => x.length + 1)).sum ≤ cur.length + l.length + 1 ∧ (physG cur l).length ≤ l.length + 1 := by
  induction l with
  | nil => intro cur; rw [physG]; split <;> simp
  | cons c l ih =>
    intro cur
    rw [physG]
    split
    · have := ih []; simp at this ⊢; omega
    · have := ih (cur ++ [c]); simp at this ⊢; omega
theorem phB_len (s : ByteArray) : (phB s).length ≤ s.size + 1 := by
  have := (phys_total s.data.toList []).2
  unfold phB phys
  rw [List.length_map]
  simpa using this
theorem phB_total (s : ByteArray) : total (phB s) ≤ 2 * s.size + 2 := by
  have h1 := (phys_total s.data.toList []).1
  have h2 := (phys_total s.data.toList []).2
  have e : ∀ l : List (List UInt8), total (l.map mk) = (l.map (fun x => x.length + 1)).sum + l.length := by
    intro l
    induction l with
    | nil => rfl
    | cons x l ih => rw [List.map_cons, total_cons, ih, mk_size]; simp; omega
  unfold phB phys
  rw [e]
  simp at h1 h2
  omega

set_option maxRecDepth 100000 in
set_option maxHeartbeats 2000000 in
theorem Physical_any (s : ByteArray) (w : World) (hs : s.size ≤ 1000000) :
    Calls Tryd.prog 11 #[.string s] w fun e W' => ∃ v, e = .returned v ∧ OwnG W' w.heap.size 9 1 v (phB s).length ((phB s).map Value.string) ∧ Below w.heap.size w W' := by
  obtain ⟨i0, hi, hz0, hz1, hz2⟩ := info_parts Tryd.info9
  obtain ⟨R, hR⟩ : ∃ R, physG [] s.data.toList = R := ⟨_, rfl⟩
  have e1 : phB s = R.map mk := by unfold phB phys; rw [hR]
  rw [e1, List.length_map]
  have HR := Lib.hid hR
  clear hR e1
  go_enter Tryd.func11, Tryd.ntmps11
  go_wp2
  go_loopw [3, 4, 5] (fun v fv iv wi => ∃ (k fr L : Nat) (out : List (List UInt8)), iv = .int .i64 k ∧ fv = .int .i64 fr ∧ fr ≤ k ∧ k ≤ s.size ∧ L ≤ k ∧ Hid (out.length = L) ∧ OwnG wi w.heap.size 9 1 v L ((out.map mk).map Value.string) ∧ Below w.heap.size w wi ∧ Hid (out ++ physG (s.extract fr k).data.toList (s.data.toList.drop k) = R)) (fun _ _ iv _ => s.size - (intOf iv).toNat)
  case atStart =>
    refine ⟨0, 0, 0, [], rfl, rfl, Nat.le_refl _, Nat.zero_le _, Nat.le_refl _, rfl, OwnG.nil _ _ _ _, Below.refl _ w, ?_⟩
    unfold Hid
    have e0 : (s.extract 0 0).data.toList = [] := by rw [extract_list]; simp
    rw [e0]; exact HR.out
  case round =>
    obtain ⟨k, fr, L, out, rfl, rfl, hfk, hk, hol, hL, hown, hbel, hrel⟩ := hrel
    have hsz := hbel.size
    obtain ⟨A, c, rfl, hc1, hc2⟩ := hown.form
    by_cases hlt : k < s.size
    · have q1 : (k : Int) < s.size := by omega
      obtain ⟨x, hx⟩ : ∃ x, s[k] = x := ⟨_, rfl⟩
      have hdr : s.data.toList.drop k = x :: s.data.toList.drop (k + 1) := by rw [← hx, List.drop_eq_getElem_cons (by simpa using hlt)]; rfl
      have hst := hrel.out
      rw [hdr, physG] at hst
      by_cases h10 : x = 10
      · subst h10
        have hxn : (UInt8.toNat 10 : Int) = 10 := rfl
        rw [if_pos rfl] at hst
        have HST : Hid ((out ++ [(s.extract fr k).data.toList]) ++ physG (s.extract (k + 1) (k + 1)).data.toList (s.data.toList.drop (k + 1)) = R) := by
          unfold Hid
          have e0 : (s.extract (k + 1) (k + 1)).data.toList = [] := by rw [extract_list]; simp
          rw [e0, List.append_assoc]; exact hst
        have hpc : mk (s.extract fr k).data.toList = s.extract fr k := mk_self _
        have HPC : Hid (((out ++ [(s.extract fr k).data.toList]).map mk).map Value.string = (out.map mk).map Value.string ++ [.string (s.extract fr k)]) := by
          unfold Hid; simp only [List.map_append, List.map_cons, List.map_nil, hpc]
        have HO := Lib.hid fun o => hown.below ((Below.refl _ wr).alloc (Nat.le_refl _) o)
        have p1 : (0 : Int) ≤ fr := by omega
        have p2 : (fr : Int) ≤ k := by omega
        have p3 : (k : Int) ≤ s.size := by omega
        clear hst hdr hrel hown hpc
        go_wp2_with (at_builtin; refine wpList_append_G _ rfl _ _ 23 rfl w.heap.size 9 i0 (.string ⟨#[]⟩) 1 16 Tryd.underlying23 hi hz0 hz1 hz2 rfl (.slice A L c) L ((out.map mk).map Value.string) rfl (HO.out _) ⟨wr.heap.size, 0, none⟩ 1 1 [.string _] rfl rfl (cell_one_new _ _ _) (by simp [Value.oneCell']) (by omega) (by unfold maxLen; omega) (by omega) (by simp; omega) ?_; intro g cap w2 hown1 hgrow1 hat hlt1; have HG1 := Lib.hid (appd_below hbel hsz (HO.out _) hgrow1); have HO1 := Lib.hid hown1; clear hown1 hgrow1 hat)
        exact ⟨⟨k + 1, k + 1, L + 1, out ++ [(s.extract fr k).data.toList], by go_num, by go_num, by omega, by omega, by omega, by unfold Hid; rw [List.length_append, hL.out]; rfl, by rw [HPC.out]; exact HO1.out, HG1.out, HST⟩, by simp [intOf]; omega⟩
      · have hxn : ((x.toNat : Int) == 10) = false := by rw [beq_eq_false_iff_ne]; intro h; exact h10 (UInt8.toNat_inj.1 (by show x.toNat = 10; omega))
        rw [if_neg h10] at hst
        have HST : Hid (out ++ physG (s.extract fr (k + 1)).data.toList (s.data.toList.drop (k + 1)) = R) := by
          unfold Hid
          have e0 : (s.extract fr (k + 1)).data.toList = (s.extract fr k).data.toList ++ [x] := by
            rw [extract_list, extract_list, take_snoc s k hlt, hx, List.drop_append_of_le_length (by simp; omega)]
          rw [e0]; exact hst
        clear hst hdr hrel h10
        go_wp2
        exact ⟨⟨k + 1, fr, L, out, by go_num, rfl, by omega, by omega, by omega, hL, hown, hbel, HST⟩, by simp [intOf]; omega⟩
    · obtain rfl : k = s.size := by omega
      have hst := hrel.out
      rw [List.drop_of_length_le (by simp), physG] at hst
      by_cases hfl : fr < s.size
      · have q2 : (fr : Int) < s.size := by omega
        have hne : (s.extract fr s.size).data.toList ≠ [] := fun e => by
          have := congrArg List.length e
          rw [extract_list] at this; simp at this; omega
        rw [if_neg hne] at hst
        have HST := Lib.hid hst
        have hpc : mk (s.extract fr s.size).data.toList = s.extract fr s.size := mk_self _
        have HPC : Hid (((out ++ [(s.extract fr s.size).data.toList]).map mk).map Value.string = (out.map mk).map Value.string ++ [.string (s.extract fr s.size)]) := by
          unfold Hid; simp only [List.map_append, List.map_cons, List.map_nil, hpc]
        have HO := Lib.hid fun o => hown.below ((Below.refl _ wr).alloc (Nat.le_refl _) o)
        have p1 : (0 : Int) ≤ fr := by omega
        have p2 : (fr : Int) ≤ s.size := by omega
        clear hst hrel hown hpc hne
        go_wp2_with (at_builtin; refine wpList_append_G _ rfl _ _ 23 rfl w.heap.size 9 i0 (.string ⟨#[]⟩) 1 16 Tryd.underlying23 hi hz0 hz1 hz2 rfl (.slice A L c) L ((out.map mk).map Value.string) rfl (HO.out _) ⟨wr.heap.size, 0, none⟩ 1 1 [.string _] rfl rfl (cell_one_new _ _ _) (by simp [Value.oneCell']) (by omega) (by unfold maxLen; omega) (by omega) (by simp; omega) ?_; intro g cap w2 hown1 hgrow1 hat hlt1; have HG1 := Lib.hid (appd_below hbel hsz (HO.out _) hgrow1); have HO1 := Lib.hid hown1; clear hown1 hgrow1 hat)
        go_ret
        refine ⟨_, rfl, ?_, HG1.out⟩
        rw [← HST.out, HPC.out, List.length_append, hL.out]
        exact HO1.out
      · have q2 : ¬ ((fr : Int) < s.size) := by omega
        have he : (s.extract fr s.size).data.toList = [] := by rw [extract_list]; exact List.drop_eq_nil_of_le (by simp; omega)
        rw [he, if_pos rfl, List.append_nil] at hst
        have HST := Lib.hid hst
        clear hst hrel he
        go_wp2
        go_ret
        exact ⟨.slice A L c, rfl, by rw [← HST.out, hL.out]; simpa using hown, hbel⟩
end Go.Proofs.YtndoloohdloflabDoor
