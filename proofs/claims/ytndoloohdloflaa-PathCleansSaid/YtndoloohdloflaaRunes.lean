/- strings.IndexAny and strings.ContainsAny at the two bytes 0 and 10, over whatever bytes; conditions: texts of at most a million bytes. -/
import Derived.Test.YtndoloohdloflaaPathRef2
namespace Go.Proofs.Ytndoloohdloflaa
open Go.RowKit
theorem quiet_same_on {P : Program} {f : FuncId} {args : Array Value} {w : World} {a n : Nat} {v : Value}
    (h : Calls P f args (w.drewN (a + n)) fun e w' => e = .returned v ∧ w' = w.drewN (a + n)) :
    Calls P f args (w.drewN (a + n)) fun e w'' => e = .returned v ∧ ∃ m, w'' = w.drewN (a + m) :=
  h.mono fun _ _ ⟨he, hm⟩ => ⟨he, n, hm⟩
def zn : ByteArray := ⟨#[0, 10]⟩
set_option maxRecDepth 100000 in
set_option maxHeartbeats 1000000 in
theorem IndexRune_err (w : World) :
    Calls Try.prog 112 #[.string zn, .int .i32 65533] w fun e w' => e = .returned (.int .i64 (-1)) ∧ Below w.heap.size w w' := by
  go_enter Try.func112, Try.ntmps112
  go_wp2_with fail
  go_loopw [5, 6] (fun _ _ wr => ∃ pos : Nat, pos ≤ 2 ∧ wr.heap[w.heap.size]? = some (.stringIter zn pos) ∧ Below w.heap.size w wr) (fun _ _ wr => 2 - wr.iterPos w.heap.size)
  case atStart => exact ⟨0, by omega, by have := World.iter_heap w zn 0; simpa using this, (Below.refl _ w).alloc (Nat.le_refl _) _⟩
  case round =>
    obtain ⟨pos, hp, hit, hbw⟩ := hrel
    by_cases h2 : pos < 2
    · have hd : Utf8.decode zn pos = (if pos = 0 then 0 else 10, 1) := by
        rcases (by omega : pos = 0 ∨ pos = 1) with rfl | rfl <;> decide +kernel
      have hnx := fun ty => Lib.run_next_any_at (P := Try.prog) wr w.heap.size zn pos ty hit h2
      rw [hd] at hnx
      have hit2 := Lib.iterAt_heap wr w.heap.size zn pos (pos + 1) hit
      have hbw2 := Lib.below_iterAt hbw (k := w.heap.size) (Nat.le_refl _) zn (pos + 1)
      have HIT := Lib.hid hit2; have HBW := Lib.hid hbw2; have HIT0 := Lib.hid hit
      have hq : ((((if pos = 0 then 0 else 10 : Nat) : Nat) : Int) == 65533) = false := by split <;> decide
      generalize (if pos = 0 then 0 else 10 : Nat) = d at *
      clear hit2 hbw2 hit hd
      go_wp2
      refine ⟨⟨pos + 1, by omega, HIT.out, HBW.out⟩, ?_⟩
      simp only [World.iterPos, HIT.out, HIT0.out]; omega
    · have hnx := fun ty => Lib.run_next_end_at (P := Try.prog) wr w.heap.size zn pos ty hit (by show ¬ pos < 2; exact h2)
      clear hit
      go_wp2
      go_ret
      exact ⟨rfl, hbw⟩
theorem one_lt2 (a b : UInt8) : 1 < (⟨#[a, b]⟩ : ByteArray).size := Nat.lt_succ_self 1
theorem encode_size (r : Int) (h1 : 128 ≤ r) : 2 ≤ (Utf8.encode r).size ∧ (Utf8.encode r).size ≤ 4 := by
  have hc : 128 ≤ (if Utf8.valid r = true then r.toNat else Utf8.runeError) := by unfold Utf8.runeError; split <;> omega
  unfold Utf8.encode
  simp only []
  generalize (if Utf8.valid r = true then r.toNat else Utf8.runeError) = c at *
  rw [if_neg (by omega)]
  split
  · exact ⟨by show 2 ≤ 2; omega, by show 2 ≤ 4; omega⟩
  · split
    · exact ⟨by show 2 ≤ 3; omega, by show 3 ≤ 4; omega⟩
    · exact ⟨by show 2 ≤ 4; omega, by show 4 ≤ 4; omega⟩
theorem encode_two (r : Int) (h1 : 128 ≤ r) (h : (Utf8.encode r).size = 2) : ∀ h2 : 1 < (Utf8.encode r).size, 128 ≤ (Utf8.encode r)[1].toNat := by
  have hc : 128 ≤ (if Utf8.valid r = true then r.toNat else Utf8.runeError) := by unfold Utf8.runeError; split <;> omega
  unfold Utf8.encode at *
  simp only [] at *
  generalize (if Utf8.valid r = true then r.toNat else Utf8.runeError) = c at *
  rw [if_neg (by omega)] at h
  simp only [if_neg (show ¬ c < 128 by omega)]
  by_cases h8 : c < 0x800
  · simp only [if_pos h8]
    intro _
    show 128 ≤ (UInt8.ofNat (0x80 + c % 64)).toNat
    rw [UInt8.toNat_ofNat']; omega
  · rw [if_neg h8] at h
    split at h
    · exact absurd (show 3 = 2 from h) (by decide)
    · exact absurd (show 4 = 2 from h) (by decide)

set_option maxRecDepth 100000 in
set_option maxHeartbeats 1000000 in
theorem IndexRune_wide (r : Int) (w : World) (h1 : 128 ≤ r) (h2 : r ≤ 1114111) (h3 : (r == 65533) = false) (hv : Lib.validRune r = true) :
    Calls Try.prog 112 #[.string zn, .int .i32 r] w fun e w' => e = .returned (.int .i64 (-1)) ∧ Below w.heap.size w w' := by
  have HV : Hid (∀ w, Calls Try.prog 120 #[.int .i32 r] w fun e w' => e = .returned (.bool true) ∧ w' = w) := fun w => by rw [← hv]; exact Try.utf8_ValidRune r w
  clear hv
  obtain ⟨z1, z2⟩ := encode_size r h1
  have HT := Lib.hid (encode_two r h1)
  unfold zn
  go_enter Try.func112, Try.ntmps112
  go_wp2_with (go_at_call 120; refine (HV.out _).mono ?_; rintro e w' ⟨rfl, rfl⟩)
  go_step3
  go_wp2_with fail
  generalize Utf8.encode r = es at *
  go_loopw [9] (fun i wr => i = .int .i64 ((es.size : Int) - 1) ∧ ∃ n, wr = w'.drewN n) (fun _ _ => 0)
  case atStart => exact ⟨rfl, 0, rfl⟩
  case round =>
    obtain ⟨rfl, n, rfl⟩ := hrel
    by_cases h2 : es.size = 2
    · have hb := HT.out h2 (by omega)
      obtain ⟨a, b, rfl⟩ : ∃ a b, es = ⟨#[a, b]⟩ := by
        rcases es with ⟨⟨l⟩⟩
        match l, h2 with
        | [a, b], _ => exact ⟨a, b, rfl⟩
      have hb' : 128 ≤ b.toNat := hb
      have hne : ((((⟨#[0, 10]⟩ : ByteArray)[1]'(one_lt2 _ _)).toNat : Int) != (((⟨#[a, b]⟩ : ByteArray)[1]'(one_lt2 _ _)).toNat : Int)) = true := by
        show (((10 : Nat) : Int) != ((b.toNat : Nat) : Int)) = true
        rw [bne_iff_ne]; omega
      have HI : Hid (∀ w, Calls Try.prog 71 #[.string ByteArray.empty, .int .u8 (((⟨#[a, b]⟩ : ByteArray)[1]'(one_lt2 _ _)).toNat : Int)] w fun e w' => e = .returned (.int .i64 (-1)) ∧ w' = w) := fun w => Try.strings_IndexByte ByteArray.empty _ w
      clear hb hb' HT z1 z2 h2
      rw [show (((⟨#[a, b]⟩ : ByteArray).size : Int) - 1) = 1 from rfl]
      go_wp2_with fail
      go_step3
      go_wp2_with fail
      go_quiet (fail)
      go_wp2_with fail
      go_quiet ((go_at_call 71; exact quiet_same_on (HI.out _)))
      go_wp2_with fail
      rw [Exit.noGoto_ret]
      go_wp2
      rw [Exit.noGoto_ret]
      go_ret
      exact ⟨rfl, below_drewN (Below.refl _ _) _⟩
    · have h3 : (2 : Int) ≤ (es.size : Int) - 1 := by omega
      go_wp2
      rw [Exit.noGoto_ret]
      go_ret
      exact ⟨rfl, below_drewN (Below.refl _ _) n⟩

theorem decode_cls (s : ByteArray) (i : Nat) (h : i < s.size) :
    ((Utf8.decode s i).1 < 128 ∧ (Utf8.decode s i).1 = (s.get! i).toNat ∧ (Utf8.decode s i).2 = 1) ∨
    (128 ≤ (Utf8.decode s i).1 ∧ (Utf8.decode s i).1 ≤ 1114111 ∧ ((Utf8.decode s i).1 = 65533 ∨ Lib.validRune ((Utf8.decode s i).1 : Int) = true) ∧ ∀ j, i ≤ j → j < i + (Utf8.decode s i).2 → 128 ≤ (s.get! j).toNat) := by
  have b256 : ∀ j, (s.get! j).toNat < 256 := fun j => (s.get! j).toNat_lt
  unfold Utf8.decode
  simp only [Nat.add_zero]
  by_cases h0 : (s.get! i).toNat < 128
  · rw [if_pos h0]; exact .inl ⟨h0, rfl, rfl⟩
  rw [if_neg h0]
  right
  have one : 128 ≤ (Utf8.runeError, 1).1 ∧ (Utf8.runeError, 1).1 ≤ 1114111 ∧ ((Utf8.runeError, 1).1 = 65533 ∨ Lib.validRune (((Utf8.runeError, 1).1 : Nat) : Int) = true) ∧ ∀ j, i ≤ j → j < i + (Utf8.runeError, 1).2 → 128 ≤ (s.get! j).toNat :=
    ⟨by decide, by decide, .inl rfl, fun j a b => by simp only at b; obtain rfl : j = i := by omega
                                                     omega⟩
  have b0 := b256 i
  split
  · rename_i hc
    simp only [Bool.and_eq_true, decide_eq_true_eq, beq_iff_eq] at hc
    have b1 := b256 (i + 1)
    split
    · rename_i hd
      refine ⟨by simp only; omega, by simp only; omega, .inr ?_, fun j a b => ?_⟩
      · simp only [Lib.validRune]; simp; omega
      · simp only at b
        rcases (by omega : j = i ∨ j = i + 1) with rfl | rfl <;> omega
    · exact one
  split
  · rename_i hc
    simp only [Bool.and_eq_true, decide_eq_true_eq, beq_iff_eq] at hc
    have b1 := b256 (i + 1)
    have b2 := b256 (i + 2)
    split
    · rename_i hd
      simp only [Bool.and_eq_true, decide_eq_true_eq, Utf8.valid, Bool.or_eq_true] at hd
      refine ⟨by simp only; omega, by simp only; omega, .inr ?_, fun j a b => ?_⟩
      · simp only [Lib.validRune]; simp; omega
      · simp only at b
        rcases (by omega : j = i ∨ j = i + 1 ∨ j = i + 2) with rfl | rfl | rfl <;> omega
    · exact one
  split
  · rename_i hc
    simp only [Bool.and_eq_true, decide_eq_true_eq, beq_iff_eq] at hc
    have b1 := b256 (i + 1)
    have b2 := b256 (i + 2)
    have b3 := b256 (i + 3)
    split
    · rename_i hd
      simp only [Bool.and_eq_true, decide_eq_true_eq, Utf8.valid, Bool.or_eq_true] at hd
      refine ⟨by simp only; omega, by simp only; omega, .inr ?_, fun j a b => ?_⟩
      · simp only [Lib.validRune]; simp; omega
      · simp only at b
        rcases (by omega : j = i ∨ j = i + 1 ∨ j = i + 2 ∨ j = i + 3) with rfl | rfl | rfl | rfl <;> omega
    · exact one
  · exact one

def isZ (c : UInt8) : Bool := c == 0 || c == 10
def hasZ (s : ByteArray) : Bool := s.data.toList.any isZ
theorem indexAny_Z (l : List UInt8) : decide (0 ≤ Lib.indexAny l [0, 10]) = l.any isZ := by
  induction l with
  | nil => rfl
  | cons b l ih =>
    have hg := Lib.indexAny_ge [0, 10] l
    rw [Lib.indexAny, List.any_cons, ← ih]
    have e : ([0, 10] : List UInt8).contains b = isZ b := by
      unfold isZ; rw [List.contains_cons, List.contains_cons, List.contains_nil, Bool.or_false]
    rw [e]
    by_cases hb : isZ b = true
    · rw [if_pos hb, hb]; simp
    · rw [if_neg hb]
      have hb' : isZ b = false := by simpa using hb
      rw [hb', Bool.false_or]
      by_cases h : Lib.indexAny l [0, 10] = -1
      · simp [h]
      · rw [if_neg (by simpa using h), decide_eq_decide]; omega
theorem hasZ_mem (s : ByteArray) (j : Nat) (h : j < s.size) (hz : isZ (s.get! j) = true) : hasZ s = true := by
  unfold hasZ; rw [List.any_eq_true]
  exact ⟨s.get! j, by rw [← get_list s j h]; exact List.getElem_mem _, hz⟩
theorem hasZ_none (s : ByteArray) (h : ∀ j, j < s.size → isZ (s.get! j) = false) : hasZ s = false := by
  unfold hasZ; rw [List.any_eq_false]
  intro c hc
  obtain ⟨j, hj, rfl⟩ := List.getElem_of_mem hc
  have hj' : j < s.size := by simpa using hj
  rw [get_list s j hj', h j hj']; simp
theorem isZ_big (c : UInt8) (h : 128 ≤ c.toNat) : isZ c = false := by
  unfold isZ
  rw [Bool.or_eq_false_iff, beq_eq_false_iff_ne, beq_eq_false_iff_ne]
  exact ⟨fun e => by rw [e] at h; exact absurd h (by decide), fun e => by rw [e] at h; exact absurd h (by decide)⟩
theorem idx_zn (c : UInt8) : decide (0 ≤ Lib.indexByte zn.data.toList c) = isZ c := by
  show decide (0 ≤ Lib.indexByte [0, 10] c) = isZ c
  unfold isZ
  by_cases h0 : c = 0
  · subst h0; decide
  · by_cases h1 : c = 10
    · subst h1; decide
    · have e0 : ((0 : UInt8) == c) = false := by rw [beq_eq_false_iff_ne]; exact fun e => h0 e.symm
      have e1 : ((10 : UInt8) == c) = false := by rw [beq_eq_false_iff_ne]; exact fun e => h1 e.symm
      simp [Lib.indexByte, e0, e1, h0, h1]

/-- strings.IndexRune at the two bytes and a rune that was read: at hand for the walk of IndexAny. -/
theorem IndexRune_at (s : ByteArray) (pos : Nat) (h : pos < s.size) (w : World) :
    Calls Try.prog 112 #[.string zn, .int .i32 ((Utf8.decode s pos).1 : Int)] w fun e w' => ∃ i, e = .returned (.int .i64 i) ∧ decide (0 ≤ i) = isZ (s.get! pos) ∧ Below w.heap.size w w' := by
  rcases decode_cls s pos h with ⟨h1, h2, h3⟩ | ⟨h1, h2, h3, h4⟩
  · refine (Try.strings_IndexRune_ascii zn _ w (by omega) (by omega)).mono ?_
    rintro e w' ⟨rfl, rfl⟩
    refine ⟨_, rfl, ?_, Below.refl _ _⟩
    rw [idx_zn, h2]
    congr 1
    simp
  · have hz : isZ (s.get! pos) = false := isZ_big _ (h4 pos (Nat.le_refl _) (by have := (decode_spec s pos h).1; omega))
    rw [hz]
    by_cases he : (Utf8.decode s pos).1 = 65533
    · rw [he]
      refine (IndexRune_err w).mono ?_
      rintro e w' ⟨rfl, hb⟩
      exact ⟨_, rfl, by decide, hb⟩
    · rcases h3 with h3 | h3
      · exact absurd h3 he
      · refine (IndexRune_wide _ w (by omega) (by omega) (by rw [beq_eq_false_iff_ne]; omega) h3).mono ?_
        rintro e w' ⟨rfl, hb⟩
        exact ⟨_, rfl, by decide, hb⟩

set_option maxRecDepth 100000 in
set_option maxHeartbeats 1000000 in
theorem IndexAny_short (s : ByteArray) (w : World) (hs : s.size ≤ 8) :
    Calls Try.prog 101 #[.string s, .string zn] w fun e w' => ∃ i, e = .returned (.int .i64 i) ∧ decide (0 ≤ i) = hasZ s ∧ Below w.heap.size w w' := by
  have HU : Hid (∀ w, Calls Try.prog 113 #[.int .i64 s.size] w fun e w' => e = .returned (.bool false) ∧ w' = w) := fun w => by
    have h := Try.strings_shouldUseASCIISet s.size w
    rw [show decide ((8 : Int) < s.size) = false by rw [decide_eq_false_iff_not]; omega] at h
    exact h
  have z1 : (zn.toList == []) = false := by decide +kernel
  have z2 : zn.toList.isEmpty = false := by decide +kernel
  have z3 : ((zn.size : Int) == 1) = false := by decide +kernel
  go_enter Try.func101, Try.ntmps101
  go_wp2_with (go_at_call 113; refine (HU.out _).mono ?_; rintro e w' ⟨rfl, rfl⟩)
  go_loopw [46, 47] (fun _ _ wr => ∃ pos : Nat, pos ≤ s.size ∧ wr.heap[w'.heap.size]? = some (.stringIter s pos) ∧ Below w'.heap.size w' wr ∧ Hid (∀ j, j < pos → isZ (s.get! j) = false)) (fun _ _ wr => s.size - wr.iterPos w'.heap.size)
  case atStart => exact ⟨0, by omega, by have := World.iter_heap w' s 0; simpa using this, (Below.refl _ w').alloc (Nat.le_refl _) _, fun j h => by omega⟩
  case round =>
    obtain ⟨pos, hp, hit, hbw, hz⟩ := hrel
    by_cases hlt : pos < s.size
    · obtain ⟨d1, d2, d3, d4⟩ := decode_spec s pos hlt
      have hcls := decode_cls s pos hlt
      have HR := Lib.hid (IndexRune_at s pos hlt)
      have hnx := fun ty => Lib.run_next_any_at (P := Try.prog) wr w'.heap.size s pos ty hit hlt
      have hit2 := Lib.iterAt_heap wr w'.heap.size s pos (pos + (Utf8.decode s pos).2) hit
      have hbw2 := Lib.below_iterAt hbw (k := w'.heap.size) (Nat.le_refl _) s (pos + (Utf8.decode s pos).2)
      have HIT := Lib.hid hit2; have HBW := Lib.hid hbw2; have HIT0 := Lib.hid hit
      have HD := Lib.hid (And.intro d1 d2); have HCL := Lib.hid hcls
      clear hit2 hbw2 hit hcls d1 d2 d3 d4
      go_wp2_with fail
      refine (HR.out _).mono ?_
      rintro e w2 ⟨i, rfl, hi, hb2⟩
      by_cases hq : 0 ≤ i
      · have hzz : isZ (s.get! pos) = true := by rw [← hi]; exact decide_eq_true hq
        have hh := hasZ_mem s pos hlt hzz
        have HH := Lib.hid hh
        clear hi hzz hh
        go_wp2
        go_ret
        exact ⟨_, rfl, by rw [HH.out]; exact decide_eq_true (by omega), HBW.out.trans (hb2.mono (by have := HBW.out.size; omega))⟩
      · have hzz : isZ (s.get! pos) = false := by rw [← hi]; exact decide_eq_false hq
        have HZ := Lib.hid hzz
        clear hi hzz
        have hit3 : w2.heap[w'.heap.size]? = some (.stringIter s (pos + (Utf8.decode s pos).2)) := (hb2.block _ (Array.getElem?_eq_some_iff.1 HIT.out).1).trans HIT.out
        have HIT3 := Lib.hid hit3
        clear hit3
        go_wp2
        obtain ⟨d1, d2⟩ := HD.out
        refine ⟨⟨pos + (Utf8.decode s pos).2, d2, HIT3.out, HBW.out.trans (hb2.mono (by have := HBW.out.size; omega)), fun j hj => ?_⟩, ?_⟩
        · by_cases hjp : j < pos
          · exact hz.out j hjp
          · rcases HCL.out with ⟨_, _, h3⟩ | ⟨_, _, _, h4⟩
            · rw [show j = pos by omega]; exact HZ.out
            · exact isZ_big _ (h4 j (by omega) hj)
        · simp only [World.iterPos, HIT3.out, HIT0.out]; omega
    · have hnx := fun ty => Lib.run_next_end_at (P := Try.prog) wr w'.heap.size s pos ty hit hlt
      have HH : Hid (hasZ s = false) := hasZ_none s fun j hj => hz.out j (by omega)
      clear hit
      go_wp2
      go_ret
      exact ⟨_, rfl, by rw [HH.out]; rfl, hbw⟩

theorem IndexAny_zn (s : ByteArray) (w : World) (hs : s.size ≤ 1000000) :
    Calls Try.prog 101 #[.string s, .string zn] w fun e w' => ∃ i, e = .returned (.int .i64 i) ∧ decide (0 ≤ i) = hasZ s ∧ Below w.heap.size w w' := by
  by_cases h : s.size ≤ 8
  · exact IndexAny_short s w h
  · refine (Try.strings_IndexAny_long (fun w => by kernel_rfl) s zn w (by decide) (by omega) (by omega) (by decide) (fun j b hb => ?_)).mono ?_
    · have hb' : ([0, 10] : List UInt8)[j]? = some b := hb
      match j, hb' with
      | 0, hb' => simp at hb'; subst hb'; decide
      | 1, hb' => simp at hb'; subst hb'; decide
    · rintro e w' ⟨rfl, rfl⟩
      exact ⟨_, rfl, indexAny_Z _, ((Below.refl _ _).alloc (Nat.le_refl _) _).alloc (by simp) _⟩

set_option maxHeartbeats 400000 in
theorem ContainsAny_zn (s : ByteArray) (w : World) (hs : s.size ≤ 1000000) :
    Calls Try.prog 79 #[.string s, .string zn] w fun e w' => e = .returned (.bool (hasZ s)) ∧ Below w.heap.size w w' := by
  have HI := Lib.hid (IndexAny_zn s · hs)
  go_enter Try.func79, Try.ntmps79
  go_wp2_with fail
  refine (HI.out _).mono ?_
  rintro e w1 ⟨i, rfl, hi, hb⟩
  have H := Lib.hid hi
  clear hi
  go_wp2
  go_ret
  exact ⟨ret_bool H.out, hb⟩
end Go.Proofs.Ytndoloohdloflaa
