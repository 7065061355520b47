/- What package path's 'names' answers: the names of a path, cleaned; conditions: a path of at most a million bytes. -/
import Derived.Test.YtndoloohdloflaaOwn
import Derived.Lib.OthersKept
import Derived.OwnWalk
import Derived.Maps.AppendAt
import Derived.WalkLawsBesides
namespace Go.Proofs.Ytndoloohdloflaa
open Go.RowKit

theorem Try.info9 : (Try.prog.info? 9).map (fun i => (i.zero, i.size, i.bytes)) = some (some (.string ⟨#[]⟩), 1, 16) := by kernel_rfl

def stepN (l : List ByteArray) (n : ByteArray) : List ByteArray :=
  if n.data.toList = [] ∨ n.data.toList = [46] then l else if n.data.toList = [46, 46] then l.dropLast else l ++ [n]

def NamesSt (w : World) (b : Nat) (l : List ByteArray) : Prop := ∃ v, w.heap[b]? = some (.cells #[v] 30 (0, 0)) ∧ OwnG w (b + 1) 9 1 v l.length (l.map .string)


theorem OwnG.typed {w : World} {base : Nat} {e : TypeId} {size : Nat} {v : Value} {n : Nat} {xs : List Value} (h : OwnG w base e size v n xs) (k : Nat) (hk : v.ownBlock = some k) : ∃ c fz, w.heap[k]? = some (.cells c e fz) := by
  rcases h.2 with ⟨rfl, _⟩ | ⟨g, cap, cur, rfl, hb, hg, _⟩
  · simp [Value.ownBlock] at hk
  · obtain rfl : g = k := by simpa [Value.ownBlock] using hk
    exact ⟨_, _, hg⟩
/-- What a call that appends one text to the boxed list leaves. -/
theorem box_appended {w w1 : World} {b : Nat} {l : List ByteArray} {n : ByteArray} {v v' : Value} {o : Obj} (hlt : b < w.heap.size)
    (HO : OwnG (w.alloc o) (b + 1) 9 1 v l.length (l.map .string)) (hg : (w.alloc o).grownBy w1 v.ownBlock) (hb1 : w1.heap[b]? = some (.cells #[v] 30 (0, 0)))
    (ho1 : OwnG w1 (b + 1) 9 1 v' (l.length + 1) (l.map .string ++ [.string n])) :
    NamesSt (w1.setCell ⟨b, 0, none⟩ v') b (l ++ [n]) ∧ Below b w (w1.setCell ⟨b, 0, none⟩ v') ∧ Lib.OthersKept 9 (some b) w (w1.setCell ⟨b, 0, none⟩ v') := by
  refine ⟨⟨v', one_setCell hb1, ?_⟩, ?_, ?_⟩
  · have h := ho1.move (w' := w1.setCell ⟨b, 0, none⟩ v') (fun k hk => Below.heap_setCell _ _ _ _ (by have := (ho1.block_lt k hk).1; show k ≠ b; omega))
    simpa using h
  · exact (((Below.refl b w).alloc (by omega) o).grown hg (by simp; omega) (fun k e => by have := (HO.block_lt k e).1; omega)).setCell (p := ⟨b, 0, none⟩) (Nat.le_refl b) _
  · exact (((Lib.OthersKept.refl 9 (some b) w).alloc o).grown hg (fun g e => HO.typed g e)).setCell ⟨b, 0, none⟩ rfl _

set_option maxRecDepth 100000 in
set_option maxHeartbeats 400000 in
theorem take_walk (l : List ByteArray) (n : ByteArray) (b : Nat) (w : World) (hl : l.length ≤ 1000000) (hst : NamesSt w b l) :
    Calls Try.prog 100 #[.string n, .pointer (some ⟨b, 0, none⟩)] w fun e w' => e = .returned (.tuple #[]) ∧ NamesSt w' b (stepN l n) ∧ Below b w w' ∧ Lib.OthersKept 9 (some b) w w' := by
  have hst0 := Lib.hid hst
  obtain ⟨v, hb, hv⟩ := hst
  have hc := cell_of_one hb
  have hf := free_of_one hb
  have hlt := lt_of_block hb
  obtain ⟨A, c, hvf, hnc, hcm⟩ := hv.form
  subst hvf
  have HV := Lib.hid hv
  have HB := Lib.hid hb
  clear hv hb
  by_cases h1 : n.data.toList = []
  · have HS : Hid (stepN l n = l) := by unfold Hid stepN; simp [h1]
    have t1 : n.toList = [] := by rw [ba_toList]; exact h1
    clear h1
    go_enter Try.func100, Try.ntmps100
    go_wp2
    go_end0
    exact ⟨rfl, by rw [HS.out]; exact hst0.out, Below.refl _ _, Lib.OthersKept.refl _ _ _⟩
  by_cases h2 : n.data.toList = [46]
  · have HS : Hid (stepN l n = l) := by unfold Hid stepN; simp [h2]
    have t1 : n.toList = [46] := by rw [ba_toList]; exact h2
    clear h1 h2
    go_enter Try.func100, Try.ntmps100
    go_wp2
    go_end0
    exact ⟨rfl, by rw [HS.out]; exact hst0.out, Below.refl _ _, Lib.OthersKept.refl _ _ _⟩
  by_cases h3 : n.data.toList = [46, 46]
  · have HS : Hid (stepN l n = l.dropLast) := by unfold Hid stepN; simp [h3]
    have t1 : n.toList = [46, 46] := by rw [ba_toList]; exact h3
    clear h1 h2 h3
    by_cases h0 : l.length = 0
    · have hl0 : l = [] := List.eq_nil_of_length_eq_zero h0
      subst hl0
      clear h0
      go_enter Try.func100, Try.ntmps100
      go_wp2
      go_end0
      exact ⟨rfl, by rw [HS.out]; exact hst0.out, Below.refl _ _, Lib.OthersKept.refl _ _ _⟩
    · have p0 : 0 < l.length := by omega
      clear h0
      obtain ⟨g, hA⟩ : ∃ g, A = some ⟨g, 0, none⟩ := by
        rcases HV.out.2 with ⟨_, h0⟩ | ⟨g, cap, cur, h, _⟩
        · omega
        · cases h; exact ⟨g, rfl⟩
      subst hA
      have p1 : (0 : Int) ≤ (l.length : Int) - 1 := by omega
      have p2 : ((l.length : Int) - 1).toNat = l.length - 1 := by omega
      have p3 : (l.length : Int) - 1 ≤ c := by omega
      go_enter Try.func100, Try.ntmps100
      go_wp2
      go_end0
      rw [HS.out]
      refine ⟨rfl, ⟨_, one_setCell HB.out, ?_⟩, (Below.refl b w).setCell (p := ⟨b, 0, none⟩) (Nat.le_refl b) _, (Lib.OthersKept.refl 9 (some b) w).setCell ⟨b, 0, none⟩ rfl _⟩
      have hT := HV.out.take (l.length - 1) (l.length - 1) (by omega) (Nat.le_refl _) (by omega)
      have hM := hT.move (w' := w.setCell ⟨b, 0, none⟩ (.slice (some ⟨g, 0, none⟩) (l.length - 1) (l.length - 1))) (fun k hk => Below.heap_setCell _ _ _ _ (by have := (hT.block_lt k hk).1; show k ≠ b; omega))
      rw [List.length_dropLast, List.dropLast_eq_take, List.map_take]
      simpa using hM
  · have HS : Hid (stepN l n = l ++ [n]) := by unfold Hid stepN; simp [h1, h2, h3]
    obtain ⟨i0, hi, hz0, hz1, hz2⟩ := info_parts Try.info9
    have t1 : n.toList.isEmpty = false := by rw [ba_toList]; simpa using h1
    have t2 : (n.toList == [46]) = false := by rw [ba_toList]; simpa using h2
    have t3 : (n.toList == [46, 46]) = false := by rw [ba_toList]; simpa using h3
    clear h1 h2 h3
    have hown0 : OwnG (w.alloc (.cells #[.string n] 9)) (b + 1) 9 1 (.slice A l.length c) l.length (l.map .string) := HV.out.below ((Below.refl _ _).alloc (Nat.le_refl _) _)
    have hb0 : (w.alloc (.cells #[.string n] 9)).heap[b]? = some (.cells #[.slice A l.length c] 30 (0, 0)) := (Below.heap_alloc w _ b hlt).trans HB.out
    have hne : some b ≠ (Value.slice A l.length c).ownBlock := fun e => by have := (HV.out.block_lt b e.symm).1; omega
    have HO := Lib.hid hown0; have HB0 := Lib.hid hb0; have HN := Lib.hid hne
    clear hown0 hb0 hne
    go_enter Try.func100, Try.ntmps100
    go_wp2_with (at_builtin; refine wpList_append_G _ rfl _ _ 30 rfl (b + 1) 9 i0 (.string ⟨#[]⟩) 1 16 Try.underlying30 hi hz0 hz1 hz2 rfl (.slice A l.length c) l.length (l.map .string) rfl HO.out ⟨w.heap.size, 0, none⟩ 1 1 [.string n] rfl rfl (cell_one_new _ _ _) (by simp [Value.oneCell']) (by omega) (by unfold maxLen; omega) (by omega) (by simp; omega) ?_; intro g cap w1 hown1 hgrow1 hat hlt1; have hb1 : w1.heap[b]? = some (.cells #[.slice A l.length c] 30 (0, 0)) := (hgrow1.block b (by simp; omega) HN.out).trans HB0.out; have hc1 := cell_of_one hb1; have hf1 := free_of_one hb1; have HB1 := Lib.hid hb1; have HO1 := Lib.hid hown1; have HG1 := Lib.hid hgrow1; clear hb1 hown1 hgrow1 hat)
    go_end0
    rw [HS.out]
    exact ⟨rfl, box_appended hlt HO.out HG1.out HB1.out HO1.out⟩

/-! ### the names of a path -/
def mk (l : List UInt8) : ByteArray := ⟨l.toArray⟩
theorem mk_list (l : List UInt8) : (mk l).data.toList = l := rfl
theorem mk_of (s : ByteArray) : mk s.data.toList = s := rfl
def splitSl : List UInt8 → List (List UInt8)
  | [] => [[]]
  | c :: l => if c = 47 then [] :: splitSl l else match splitSl l with
    | [] => [[c]]
    | x :: xs => (c :: x) :: xs
theorem split_at (a b : List UInt8) (h : ∀ c ∈ a, c ≠ 47) : splitSl (a ++ 47 :: b) = a :: splitSl b := by
  induction a with
  | nil => simp [splitSl]
  | cons x a ih =>
    rw [List.cons_append, splitSl, if_neg (h x (by simp)), ih (fun c hc => h c (by simp [hc]))]
theorem split_no (a : List UInt8) (h : ∀ c ∈ a, c ≠ 47) : splitSl a = [a] := by
  induction a with
  | nil => simp [splitSl]
  | cons x a ih =>
    rw [splitSl, if_neg (h x (by simp)), ih (fun c hc => h c (by simp [hc]))]
def namesB (s : ByteArray) : List ByteArray := ((splitSl s.data.toList).map mk).foldl stepN []

theorem decode_spec (s : ByteArray) (i : Nat) (h : i < s.size) :
    1 ≤ (Utf8.decode s i).2 ∧ i + (Utf8.decode s i).2 ≤ s.size ∧ ((Utf8.decode s i).1 = 47 ↔ (s.get! i).toNat = 47) ∧ ∀ j, i < j → j < i + (Utf8.decode s i).2 → (s.get! j).toNat ≠ 47 := by
  unfold Utf8.decode
  simp only [Nat.add_zero]
  by_cases h0 : (s.get! i).toNat < 128
  · rw [if_pos h0]; exact ⟨Nat.le_refl _, by omega, Iff.rfl, fun j a b => by omega⟩
  rw [if_neg h0]
  have one : 1 ≤ (Utf8.runeError, 1).2 ∧ i + (Utf8.runeError, 1).2 ≤ s.size ∧ ((Utf8.runeError, 1).1 = 47 ↔ (s.get! i).toNat = 47) ∧ ∀ j, i < j → j < i + (Utf8.runeError, 1).2 → (s.get! j).toNat ≠ 47 :=
    ⟨Nat.le_refl _, by omega, by simp only [Utf8.runeError]; omega, fun j a b => by simp only at b; omega⟩
  split
  · rename_i hc
    simp only [Bool.and_eq_true, decide_eq_true_eq, beq_iff_eq] at hc
    split
    · rename_i hd
      refine ⟨by omega, by omega, by simp only; omega, fun j a b => ?_⟩
      simp only at b
      obtain rfl : j = i + 1 := by omega
      omega
    · exact one
  split
  · rename_i hc
    simp only [Bool.and_eq_true, decide_eq_true_eq, beq_iff_eq] at hc
    split
    · rename_i hd
      simp only [Bool.and_eq_true, decide_eq_true_eq] at hd
      refine ⟨by omega, by omega, by simp only; omega, fun j a b => ?_⟩
      simp only at b
      rcases (by omega : j = i + 1 ∨ j = i + 2) with rfl | rfl <;> omega
    · exact one
  split
  · rename_i hc
    simp only [Bool.and_eq_true, decide_eq_true_eq, beq_iff_eq] at hc
    split
    · rename_i hd
      simp only [Bool.and_eq_true, decide_eq_true_eq] at hd
      refine ⟨by omega, by omega, by simp only; omega, fun j a b => ?_⟩
      simp only at b
      rcases (by omega : j = i + 1 ∨ j = i + 2 ∨ j = i + 3) with rfl | rfl | rfl <;> omega
    · exact one
  · exact one

/-- Between the last slash before 'pos' and 'pos' there is none; what is left is to be taken from 'fr' on. -/
def NAt (s : ByteArray) (fr pos : Nat) (acc : List ByteArray) : Prop :=
  namesB s = ((splitSl (s.data.toList.drop fr)).map mk).foldl stepN acc ∧ ∀ j, fr ≤ j → j < pos → (s.get! j).toNat ≠ 47
theorem get_list (s : ByteArray) (j : Nat) (h : j < s.size) : s.data.toList[j]'(by simpa using h) = s.get! j := by
  cases s with | mk d => simp only [ByteArray.get!]; rw [Array.getElem_toList]; exact (getElem!_pos d j h).symm
theorem NAt.start (s : ByteArray) : NAt s 0 0 [] := ⟨by simp [namesB], fun j _ h => by omega⟩
theorem seg_no {s : ByteArray} {fr pos : Nat} (h : ∀ j, fr ≤ j → j < pos → (s.get! j).toNat ≠ 47) (hp : pos ≤ s.size) : ∀ c ∈ (s.data.toList.take pos).drop fr, c ≠ 47 := by
  intro c hc e
  obtain ⟨j, hj, rfl⟩ := List.getElem_of_mem hc
  rw [List.getElem_drop, List.getElem_take] at e
  have hj' : fr + j < pos := by simp at hj; omega
  rw [get_list s (fr + j) (by omega)] at e
  exact h (fr + j) (by omega) hj' (by rw [e]; rfl)
theorem NAt.slash {s : ByteArray} {fr pos : Nat} {acc : List ByteArray} (h : NAt s fr pos acc) (hf : fr ≤ pos) (hp : pos < s.size) (hs : (s.get! pos).toNat = 47) : NAt s (pos + 1) (pos + 1) (stepN acc (s.extract fr pos)) := by
  refine ⟨?_, fun j a b => by omega⟩
  rw [h.1]
  have hd : s.data.toList.drop fr = ((s.data.toList.take pos).drop fr) ++ 47 :: s.data.toList.drop (pos + 1) := by
    have e1 : s.data.toList = s.data.toList.take pos ++ s.data.toList.drop pos := (List.take_append_drop _ _).symm
    have e2 : s.data.toList.drop pos = 47 :: s.data.toList.drop (pos + 1) := by
      rw [List.drop_eq_getElem_cons (by simpa using hp), get_list s pos hp]
      congr 1; exact UInt8.toNat_inj.1 hs
    rw [← e2]
    conv => lhs; rw [e1]
    rw [List.drop_append_of_le_length (by simp; omega)]
  rw [hd, split_at _ _ (seg_no h.2 (by omega))]
  simp only [List.map_cons, List.foldl_cons]
  congr 2
  apply ba_ext; rw [extract_list]; rfl
theorem NAt.skip {s : ByteArray} {fr pos : Nat} {acc : List ByteArray} (h : NAt s fr pos acc) (p2 : Nat) (hs : ∀ j, pos ≤ j → j < p2 → (s.get! j).toNat ≠ 47) : NAt s fr p2 acc :=
  ⟨h.1, fun j a b => by by_cases c : j < pos; exact h.2 j a c; exact hs j (by omega) b⟩
theorem NAt.done {s : ByteArray} {fr pos : Nat} {acc : List ByteArray} (h : NAt s fr pos acc) (hp : s.size ≤ pos) : namesB s = stepN acc (s.extract fr s.size) := by
  have hn := seg_no (s := s) (fr := fr) (pos := s.size) (fun j a b => h.2 j a (by omega)) (Nat.le_refl _)
  rw [List.take_of_length_le (by simp)] at hn
  rw [h.1, split_no _ hn]
  simp only [List.map_cons, List.map_nil, List.foldl_cons, List.foldl_nil]
  congr 1
  apply ba_ext; rw [extract_list, List.take_of_length_le (by simp)]; rfl
theorem stepN_len (l : List ByteArray) (n : ByteArray) : (stepN l n).length ≤ l.length + 1 := by
  unfold stepN; split; omega; split; simp; omega; simp
theorem decode_slash (s : ByteArray) (i : Nat) (h : (s.get! i).toNat = 47) : (Utf8.decode s i).2 = 1 := by
  unfold Utf8.decode
  simp only [Nat.add_zero]
  rw [if_pos (by omega)]
theorem NamesSt.iterAt {w : World} {b k : Nat} {l : List ByteArray} (h : NamesSt w b l) {s : ByteArray} {pos : Nat} (hk : w.heap[k]? = some (.stringIter s pos)) (pos' : Nat) : NamesSt (w.iterAt k s pos') b l := by
  obtain ⟨v, h1, h2⟩ := h
  have ne : b ≠ k := fun e => by subst e; rw [h1] at hk; cases hk
  refine ⟨v, (Lib.iterAt_other w k b s pos' ne).trans h1, h2.move fun j hj => Lib.iterAt_other w k j s pos' ?_⟩
  intro e; subst e
  obtain ⟨c, fz, hc⟩ := h2.typed j hj
  rw [hc] at hk; cases hk
set_option maxRecDepth 100000 in
set_option maxHeartbeats 1000000 in
theorem names_walk (s : ByteArray) (w : World) (hs : s.size ≤ 900000) :
    Calls Try.prog 78 #[.string s] w fun e w' => ∃ v, e = .returned v ∧ OwnG w' w.heap.size 9 1 v (namesB s).length ((namesB s).map .string) ∧ Below w.heap.size w w' := by
  go_enter Try.func78, Try.ntmps78
  go_wp2_with fail
  go_loopw [5] (fun f wr => ∃ (pos fr : Nat) (acc : List ByteArray), f = .int .i64 fr ∧ fr ≤ pos ∧ pos ≤ s.size ∧ acc.length ≤ fr ∧ wr.heap[w.heap.size + 1]? = some (.stringIter s pos) ∧ NamesSt wr w.heap.size acc ∧ Below w.heap.size w wr ∧ NAt s fr pos acc)
    (fun _ wr => s.size - wr.iterPos (w.heap.size + 1))
  case atStart =>
    refine ⟨0, 0, [], rfl, Nat.le_refl _, Nat.zero_le _, by simp, ?_, ?_, ((Below.refl _ w).alloc (Nat.le_refl _) _).alloc (by simp) _, NAt.start s⟩
    · have := World.iter_heap (w.alloc (.cells #[.slice none 0 0] 30)) s 0
      simpa using this
    · refine ⟨.slice none 0 0, ?_, OwnG.nil _ _ _ _⟩
      exact (Below.heap_alloc (w.alloc (.cells #[.slice none 0 0] 30)) _ _ (by simp)).trans (heap_alloc_new _ _)
  case round =>
    obtain ⟨pos, fr, acc, rfl, hfp, hps, hal, hit, hst, hbw, hn⟩ := hrel
    have hsz : w.heap.size + 1 < wr.heap.size := (Array.getElem?_eq_some_iff.1 hit).1
    by_cases hp : pos < s.size
    · obtain ⟨d1, d2, d3, d4⟩ := decode_spec s pos hp
      have hnx : ∀ ty, (Instr.next (.pointer (some ⟨w.heap.size + 1, 0, none⟩)) true ty).run Try.prog wr = _ := fun ty => Lib.run_next_any_at wr (w.heap.size + 1) s pos ty hit hp
      have hst2 := hst.iterAt hit (pos + (Utf8.decode s pos).2)
      have hit2 := Lib.iterAt_heap wr (w.heap.size + 1) s pos (pos + (Utf8.decode s pos).2) hit
      have hbw2 := Lib.below_iterAt hbw (k := w.heap.size + 1) (by omega) s (pos + (Utf8.decode s pos).2)
      have HST := Lib.hid hst2; have HIT := Lib.hid hit2; have HBW := Lib.hid hbw2; have HN := Lib.hid hn; have HIT0 := Lib.hid hit
      clear hst2 hit2 hbw2 hn hit
      by_cases h47 : (s.get! pos).toNat = 47
      · have hb : (((Utf8.decode s pos).1 : Int) == 47) = true := by rw [beq_iff_eq]; have := d3.2 h47; omega
        have hw1 := decode_slash s pos h47
        have HW := Lib.hid hw1
        clear d1 d2 d3 d4 h47 hw1
        go_wp2_with fail
        refine (take_walk acc (s.extract fr pos) w.heap.size _ (by omega) HST.out).mono ?_
        rintro e w1 ⟨rfl, hst3, hb3, hk3⟩
        go_wp2
        have h47 : (s.get! pos).toNat = 47 := (decode_spec s pos hp).2.2.1.1 (by have := of_decide_eq_true (show decide (((Utf8.decode s pos).1 : Int) = 47) = true from hb); omega)
        have hit3 := hk3.iter HIT.out (by omega)
        refine ⟨⟨pos + 1, pos + 1, stepN acc (s.extract fr pos), by go_num, Nat.le_refl _, by omega, by have := stepN_len acc (s.extract fr pos); omega, by rw [hit3, HW.out], hst3, HBW.out.trans hb3, HN.out.slash hfp hp h47⟩, ?_⟩
        simp only [World.iterPos, hit3, HIT0.out, HW.out]
        omega
      · have hb : (((Utf8.decode s pos).1 : Int) == 47) = false := by
          rw [beq_eq_false_iff_ne]; intro e; exact h47 (d3.1 (by omega))
        have HD := Lib.hid d4
        clear d3 d4
        go_wp2
        refine ⟨⟨pos + (Utf8.decode s pos).2, fr, acc, rfl, by omega, d2, hal, HIT.out, HST.out, HBW.out, HN.out.skip _ (fun j a b => ?_)⟩, ?_⟩
        · by_cases e : j = pos
          · rw [e]; exact h47
          · exact HD.out j (by omega) b
        · simp only [World.iterPos, HIT.out, HIT0.out]
          omega
    · have hnx : ∀ ty, (Instr.next (.pointer (some ⟨w.heap.size + 1, 0, none⟩)) true ty).run Try.prog wr = _ := fun ty => Lib.run_next_end_at wr (w.heap.size + 1) s pos ty hit hp
      have HST := Lib.hid hst; have HN := Lib.hid hn
      clear hst hn hit
      go_wp2_with fail
      refine (take_walk acc (s.extract fr s.size) w.heap.size _ (by omega) HST.out).mono ?_
      rintro e w1 ⟨rfl, ⟨v, hb1, hv1⟩, hb3, hk3⟩
      have hc1 := cell_of_one hb1
      clear hb1
      have HV := Lib.hid hv1
      clear hv1
      go_wp2
      go_ret
      refine ⟨v, rfl, ?_, hbw.trans hb3⟩
      rw [HN.out.done (by omega)]
      exact HV.out.lower (by omega)
end Go.Proofs.Ytndoloohdloflaa
