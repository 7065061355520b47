/- VarsMany: a thousand variables are kept, no more, and those that are there can be set all the same. -/
import Derived.Test.YtndoloohdloflabVarsList
import Derived.Test.YtndoloohdloflabVP
namespace Go.Proofs.Ytndoloohdloflab
open Go.RowKit Go.Maps

def nmI (i : Nat) : ByteArray := ⟨#[UInt8.ofNat (i / 100), UInt8.ofNat (i % 100)]⟩
theorem nmI_inj {i j : Nat} (hi : i < 2000) (hj : j < 2000) (h : nmI i = nmI j) : i = j := by
  unfold nmI at h
  injection h with h
  have h1 := congrArg (fun a : Array UInt8 => (a.toList.getD 0 0).toNat) h
  have h2 := congrArg (fun a : Array UInt8 => (a.toList.getD 1 0).toNat) h
  simp [UInt8.toNat_ofNat'] at h1 h2
  omega
theorem ins_mem (x : Vr) (l : List Vr) (v : Vr) : v ∈ insV x l ↔ v = x ∨ v ∈ l := by
  induction l with
  | nil => simp [insV]
  | cons y l ih =>
    simp only [insV]
    split
    · simp
    · rw [List.mem_cons, ih, List.mem_cons]
      constructor
      · rintro (h | h | h)
        · exact .inr (.inl h)
        · exact .inl h
        · exact .inr (.inr h)
      · rintro (h | h | h)
        · exact .inr (.inl h)
        · exact .inl h
        · exact .inr (.inr h)
theorem ins_len (x : Vr) (l : List Vr) : (insV x l).length = l.length + 1 := by
  induction l with
  | nil => rfl
  | cons y l ih =>
    simp only [insV]
    split
    · rfl
    · simp [ih]
theorem none_ne {l : List Vr} {k : ByteArray} (h : getV l k = none) : ∀ y ∈ l, y.nm ≠ k.data.toList := by
  unfold getV at h
  rw [List.find?_eq_none] at h
  intro y hy e
  exact h y hy (by simpa [Vr.nm] using e)
/-- the first i of the names are there, a thousand at most -/
structure ManyAt (l : List Vr) (i : Nat) : Prop where
  up : Up l
  len : l.length = min i 1000
  old : ∀ v ∈ l, ∃ j, j < min i 1000 ∧ v.name = nmI j ∧ v.origin = 3
  all : ∀ j, j < min i 1000 → ∃ v ∈ l, v.name = nmI j
theorem ManyAt.start : ManyAt [] 0 := ⟨Up.nil, rfl, by simp, by simp⟩
theorem ManyAt.none {l : List Vr} {i : Nat} (h : ManyAt l i) (hi : i < 2000) : getV l (nmI i) = none := by
  cases hg : getV l (nmI i) with
  | none => rfl
  | some v =>
    obtain ⟨h1, h2⟩ := mem_get hg
    obtain ⟨j, hj, h3, _⟩ := h.old v h1
    have := nmI_inj (by omega) hi (h3.symm.trans h2)
    omega
theorem ManyAt.may {l : List Vr} {i : Nat} (h : ManyAt l i) (hi : i < 2000) : mayV l (nmI i) 3 = decide (i < 1000) := by
  unfold mayV; rw [h.none hi]
  show decide (l.length < 1000) = _
  rw [h.len, decide_eq_decide]; omega
theorem ManyAt.step {l : List Vr} {i : Nat} (h : ManyAt l i) (hi : i < 2000) : ManyAt (setV l (nmI i) ⟨#[120]⟩ 1 3) (i + 1) := by
  unfold setV
  rw [h.may hi, h.none hi]
  by_cases hc : i < 1000
  · rw [if_pos (by simpa using hc)]
    have hd := del_none (none_ne (h.none hi))
    have hp : ∀ x : Vr, x.name = nmI i → putV l x = insV x l := fun x hx => by unfold putV; rw [hx, hd]
    refine ⟨put_up' _ h.up, ?_, ?_, ?_⟩
    · rw [hp _ rfl, ins_len, h.len]; omega
    · intro v hv
      rw [hp _ rfl, ins_mem] at hv
      rcases hv with rfl | hv
      · exact ⟨i, by omega, rfl, rfl⟩
      · obtain ⟨j, h1, h2, h3⟩ := h.old v hv; exact ⟨j, by omega, h2, h3⟩
    · intro j hj
      rcases Nat.lt_or_eq_of_le (show j ≤ i by omega) with h1 | rfl
      · obtain ⟨v, h2, h3⟩ := h.all j (by omega)
        exact ⟨v, by rw [hp _ rfl, ins_mem]; exact .inr h2, h3⟩
      · exact ⟨_, by rw [hp _ rfl, ins_mem]; exact .inl rfl, rfl⟩
  · rw [if_neg (by simpa using hc)]
    exact ⟨h.up, by rw [h.len]; omega, fun v hv => by obtain ⟨j, h1, h2⟩ := h.old v hv; exact ⟨j, by omega, h2⟩, fun j hj => h.all j (by omega)⟩
theorem ManyAt.again {l : List Vr} {i : Nat} (h : ManyAt l i) (hi : 0 < i) (v : ByteArray) : mayV l (nmI 0) 3 = true ∧ Up (setV l (nmI 0) v 1 3) ∧ (setV l (nmI 0) v 1 3).length = l.length := by
  obtain ⟨x, hx, hn⟩ := h.all 0 (by omega)
  have hg : getV l (nmI 0) = some x := by rw [← hn]; exact get_mem h.up hx
  obtain ⟨_, _, _, ho⟩ := h.old x hx
  have hm : mayV l (nmI 0) 3 = true := by unfold mayV; rw [hg]; simp [ho]
  unfold setV
  rw [hm, if_pos rfl]
  refine ⟨rfl, put_up' _ h.up, ?_⟩
  obtain ⟨p, hp⟩ := place_ex l h.up (nmI 0).data.toList
  have hf : foundAt l (nmI 0).data.toList p = true := by rw [← get_some h.up hp, hg]; rfl
  rw [put_found _ rfl h.up hp hf]
  obtain ⟨y, hy, _⟩ := found_ex hf
  have := (List.getElem?_eq_some_iff.1 hy).1
  simp; omega

theorem conv_two (W : World) (B : Nat) (a b : Nat) (ha : a < 256) (hb : b < 256) (h : W.heap[B]? = some (.cells #[.int .u8 a, .int .u8 b] 5 (0, 0))) :
    (convert 55 9 (.slice (some ⟨B, 0, none⟩) 2 2)).run Try.prog W = .ok (.string ⟨#[UInt8.ofNat a, UInt8.ofNat b]⟩) W := by
  have := run_convert_bytes_back (P := Try.prog) W 55 9 5 ⟨B, 0, none⟩ 2 [UInt8.ofNat a, UInt8.ofNat b] Try.underlying55 Try.underlying5 Try.underlying9 fun j hj => by
    have e2 : Addr.add ⟨B, 0, none⟩ j = ⟨B, j, none⟩ := by
      simp only [Addr.add]
      split
      · subst_vars; rfl
      · simp
    rw [e2]
    have : j = 0 ∨ j = 1 := by simp at hj; omega
    rcases this with rfl | rfl
    · simp [World.cell?, h, UInt8.toNat_ofNat', Nat.mod_eq_of_lt ha]
    · simp [World.cell?, h, UInt8.toNat_ofNat', Nat.mod_eq_of_lt hb]
  exact this

set_option maxRecDepth 100000 in
set_option maxHeartbeats 1000000 in
theorem VarsMany_walk (n : Int) (w : World) (hn : (Lit.int .i64 n).wf = true) :
    Calls Try.prog 10 #[.int .i64 n] w fun e w' => e = .returned (.bool true) ∧ Below w.heap.size w w' := by
  have HL := Lib.hid (varsAlive_any w)
  by_cases hg : n < 990 ∨ n > 1010
  · go_enter Try.func10, Try.ntmps10
    rcases hg with h1 | h1
    all_goals
      go_wp2_with (first | (go_at_call 36; refine (HL.out).mono ?_; rintro e w1 ⟨rfl, HB⟩) | (go_at_call 37; exfalso; omega))
      go_ret
      exact ⟨rfl, HB⟩
  · have hg1 : ¬ n < 990 := fun h => hg (.inl h)
    have hg2 : ¬ n > 1010 := fun h => hg (.inr h)
    obtain ⟨N, hN⟩ : ∃ N : Nat, n = N := ⟨n.toNat, by omega⟩
    subst hN
    clear hg hn
    go_enter Try.func10, Try.ntmps10
    go_wp2_with (first | (go_at_call 36; refine (HL.out).mono ?_; rintro e w1 ⟨rfl, HB⟩) | (go_at_call 37; refine (New_any _).mono ?_; rintro e w2 ⟨p, m, rfl, S1, g1, hp, hm⟩; have HB1 := HB.grown g1 HB.size (by simp); have HPM := Lib.hid (And.intro (Nat.le_trans HB.size hp) (Nat.le_trans HB.size hm)); clear g1 hp hm))
    go_loopw [5, 6] (fun i _ wi => ∃ (k : Nat) (l : List Vr), i = .int .i64 k ∧ k ≤ N ∧ Hid (StoreAt wi p m l) ∧ Hid (ManyAt l k) ∧ Below w.heap.size w wi) (fun i _ _ => N - (intOf i).toNat)
    case atStart => exact ⟨0, [], rfl, Nat.zero_le _, S1, ManyAt.start, HB1⟩
    case round =>
      obtain ⟨k, l, rfl, hk, hS, hM, hbel⟩ := hrel
      by_cases hlt : k < N
      · have q1 : (k : Int) < N := by omega
        obtain ⟨a, ha⟩ : ∃ a, k / 100 = a := ⟨_, rfl⟩
        obtain ⟨b, hb⟩ : ∃ b, k % 100 = b := ⟨_, rfl⟩
        have t1 : (k : Int).tdiv 100 = (a : Int) := by rw [Int.tdiv_eq_ediv_of_nonneg (by omega)]; omega
        have t2 : (k : Int).tmod 100 = (b : Int) := by rw [Int.tmod_eq_emod_of_nonneg (by omega)]; omega
        have a1 : a < 256 := by omega
        have b1 : b < 256 := by omega
        have w8 : IntKind.u8.wrap (a : Int) = a := by simp [IntKind.wrap, IntKind.bits, IntKind.signed]; omega
        have v8 : IntKind.u8.wrap (b : Int) = b := by simp [IntKind.wrap, IntKind.bits, IntKind.signed]; omega
        have hnm : nmI k = ⟨#[UInt8.ofNat a, UInt8.ofNat b]⟩ := by unfold nmI; rw [ha, hb]
        have hcv := conv_two (wr.alloc (.cells #[.int .u8 a, .int .u8 b] 5)) wr.heap.size a b a1 b1 (heap_alloc_last wr _)
        rw [← hnm] at hcv
        have HSet := Lib.hid fun o => Set_any (wr.alloc o) p m l (nmI k) ⟨#[120]⟩ (by show 2 ≤ 140737488351232; decide) 1 3 (hS.out.alloc o)
        rw [hM.out.may (by omega)] at HSet
        have HM2 := Lib.hid (hM.out.step (by omega))
        generalize setV l (nmI k) ⟨#[120]⟩ 1 3 = l2 at HSet HM2
        generalize nmI k = nk at hcv HSet
        have hbx := Lib.hid fun o => hbel.alloc hbel.size o
        have hk3 : (decide ((k : Int) < 1000) = true ∧ decide (k < 1000) = true) ∨ (decide ((k : Int) < 1000) = false ∧ decide (k < 1000) = false) := by
          by_cases h : k < 1000
          · exact .inl ⟨decide_eq_true (by omega), decide_eq_true h⟩
          · exact .inr ⟨decide_eq_false (by omega), decide_eq_false h⟩
        clear hnm ha hb hM hS S1
        rcases hk3 with ⟨d1, d2⟩ | ⟨d1, d2⟩
        all_goals
          rw [d2] at HSet
          clear d2
          go_wp2_with (go_at_call 38; refine (HSet.out _).mono ?_; rintro e w3 ⟨rfl, S3, g3⟩; have hS3 := Lib.hid S3; have hb3 := (hbx.out _).grown g3 (hbx.out _).size (by intro j e; cases e; exact HPM.out.2); clear S3 g3)
        all_goals exact ⟨⟨k + 1, l2, by go_num, by omega, hS3, HM2, hb3⟩, by simp [intOf]; omega⟩
      · obtain rfl : k = N := by omega
        have q1 : ¬ (k : Int) < k := by omega
        have hcv : (convert 55 9 (.slice (some ⟨wr.heap.size, 0, none⟩) 2 2)).run Try.prog (wr.alloc (.cells #[.int .u8 0, .int .u8 0] 5)) = .ok (.string (nmI 0)) (wr.alloc (.cells #[.int .u8 0, .int .u8 0] 5)) := conv_two (wr.alloc (.cells #[.int .u8 (0 : Nat), .int .u8 (0 : Nat)] 5)) wr.heap.size 0 0 (by decide) (by decide) (heap_alloc_last wr _)
        obtain ⟨m1, m2, m3⟩ := hM.out.again (by omega) ⟨#[121]⟩
        have HSet := Lib.hid fun o => Set_any (wr.alloc o) p m l (nmI 0) ⟨#[121]⟩ (by show 2 ≤ 140737488351232; decide) 1 3 (hS.out.alloc o)
        rw [m1] at HSet
        have hlen : (setV l (nmI 0) ⟨#[121]⟩ 1 3).length = min k 1000 := m3.trans hM.out.len
        have HUp := Lib.hid m2
        have hLen := Lib.hid hlen
        generalize setV l (nmI 0) ⟨#[121]⟩ 1 3 = l2 at HSet HUp hLen
        generalize nmI 0 = nk at hcv HSet
        have HLi := Lib.hid fun w3 (S3 : StoreAt w3 p m l2) => List_any w3 p m l2 S3 HUp.out
        rw [hLen.out] at HLi
        have hbx := Lib.hid fun o => hbel.alloc hbel.size o
        obtain ⟨M, hMn⟩ : ∃ M, min k 1000 = M := ⟨_, rfl⟩
        rw [hMn] at HLi
        have hk3 : ((k : Int) ≥ 1000 ∧ (M : Int) = 1000) ∨ ((k : Int) < 1000 ∧ (M : Int) = k) := by omega
        clear hM hS S1 m1 m2 m3 hlen hLen hMn
        rcases hk3 with ⟨d1, d2⟩ | ⟨d1, d2⟩
        all_goals
          go_wp2_with (first | (go_at_call 38; refine (HSet.out _).mono ?_; rintro e w3 ⟨rfl, S3, g3⟩; have hS3 := Lib.hid S3; have hb3 := (hbx.out _).grown g3 (hbx.out _).size (by intro j e; cases e; exact HPM.out.2); clear S3 g3) | (go_at_call 42; refine (HLi.out _ hS3.out).mono ?_; rintro e w4 ⟨v, rfl, hv, hb4⟩; obtain ⟨A, c, rfl, _, _⟩ := hv.form; clear hv))
          go_ret
          exact ⟨rfl, hb3.trans (hb4.mono hb3.size)⟩
end Go.Proofs.Ytndoloohdloflab
