/- for; conditions: a parser that stands among tokens, the last one the end; what a list tells. -/
import Derived.Test.YtioddclglemlmaaGreatDoorGramCo
import Derived.RegionDies
namespace Go.Proofs.YtioddclglemlmaaGreatDoor
open Go.RowKit

section
variable {w w2 w3 W W' : World} {rb cb base : Nat} {kind : Int} {no : Bool} {V : Nat → Value} {N : Nat → Nat} {X : Nat → List Value} {col : Nat → Nat} {fz : Nat → Bool}
/-- the same, the new block being any new one -/
theorem Bld.push2 {T : Nat → Prop} {o : Obj} {f n' : Nat} {v' : Value} {xs' : List Value} (h : Bld w rb cb base kind no V N X col fz) (h2 : 2 ≤ f) (h6 : f ≤ 6) (hz : fz f = false) (hk : Kept T w w2) (hT : ∀ k, T k → k < base)
    (hg : (w2.alloc o).grownBy w3 (V f).ownBlock) (ho : OwnG w3 base (cty f) (csz f) v' n' xs') (hn : ∀ k, v'.ownBlock = some k → (V f).ownBlock = some k ∨ w2.heap.size ≤ k)
    (hne : f = 4 → xs' ≠ [] := by first | (intro h; exact absurd h (by decide)) | (intro _; simp)) :
    Bld (w3.setCell ⟨cb, f, none⟩ v') rb cb base kind no (up V f v') (up N f n') (up X f xs') (colN col f v' w.heap.size w2.heap.size) fz ∧
    Kept (fun k => T k ∨ k = cb ∨ (V f).ownBlock = some k) w (w3.setCell ⟨cb, f, none⟩ v') ∧
    (∀ k, col k = 0 ∨ (w.heap.size ≤ k ∧ k < w2.heap.size) → colN col f v' w.heap.size w2.heap.size k = 0 ∧ ((w3.setCell ⟨cb, f, none⟩ v').heap[k]? = w2.heap[k]?)) := by
  have hbw := h.keep hk hT
  have hcl : ∀ k, (V f).ownBlock = some k → col k = f := fun k hk => (h.cl f h2 h6 k hk).elim id fun e => by rw [hz] at e; cases e.2
  have hlt : ∀ k, (V f).ownBlock = some k → base ≤ k ∧ k < w.heap.size := (h.own f h2 h6).block_lt
  have hcb := lt_of_block h.row
  have hs2 := hk.size
  have hsa : (w2.alloc o).heap.size = w2.heap.size + 1 := by simp
  have hs3 := hg.size
  -- what is not the list's block is in w3 as in w2
  have hb3 : ∀ k, k < w2.heap.size → (V f).ownBlock ≠ some k → w3.heap[k]? = w2.heap[k]? := fun k h1 h2 => (hg.block k (by omega) (fun e => h2 e.symm)).trans (Below.heap_alloc _ _ _ h1)
  have hcbne : (V f).ownBlock ≠ some cb := fun e => by have := hcl cb e; rw [h.c1] at this; omega
  have hrow3 := (hb3 cb (by omega) hcbne).trans hbw.row
  have hset : ∀ k, k ≠ cb → (w3.setCell ⟨cb, f, none⟩ v').heap[k]? = w3.heap[k]? := fun k hk => Below.heap_setCell _ _ _ _ hk
  have hvne : ∀ k, v'.ownBlock = some k → k ≠ cb := fun k hk => by
    rcases hn k hk with e | e
    · intro e2; exact hcbne (by rw [← e2]; exact e)
    · omega
  have hzero : ∀ k, col k = 0 ∨ (w.heap.size ≤ k ∧ k < w2.heap.size) → colN col f v' w.heap.size w2.heap.size k = 0 ∧ ((w3.setCell ⟨cb, f, none⟩ v').heap[k]? = w2.heap[k]?) := by
    intro k hk0
    have hkl : k < w2.heap.size := by
      rcases hk0 with e | e
      · have := (h.zero k e).2; omega
      · exact e.2
    have hne : (V f).ownBlock ≠ some k := fun e => by
      have e1 := hcl k e
      have e2 := (hlt k e).2
      rcases hk0 with e3 | e3 <;> omega
    have hnv : v'.ownBlock ≠ some k := fun e => by
      rcases hn k e with e | e
      · exact hne e
      · omega
    have hkc : k ≠ cb := fun e => by
      rcases hk0 with e3 | e3
      · rw [e, h.c1] at e3; cases e3
      · omega
    refine ⟨?_, (hset k hkc).trans (hb3 k hkl hne)⟩
    unfold colN
    rw [if_neg hnv]
    rcases hk0 with e | e
    · rw [if_pos (h.zero k e).2, e]
    · rw [if_neg (by omega), if_pos e.2]
  obtain ⟨z0, z1, z2, z3, z4, z5, z6, hr⟩ := hbw.rrow
  have hrlt : rb < w.heap.size := by
    obtain ⟨_, _, _, _, _, _, _, hr⟩ := h.rrow
    exact lt_of_block hr
  have hrne : (V f).ownBlock ≠ some rb := fun e => by have := hcl rb e; rw [h.c8] at this; omega
  have hrc : rb ≠ cb := fun e => by have h8 := h.c8; rw [e, h.c1] at h8; cases h8
  refine ⟨⟨?_, ⟨z0, z1, z2, z3, z4, z5, z6, (hset rb hrc).trans ((hb3 rb (by omega) hrne).trans hr)⟩, ?_, ?_, ?_, ?_, h.hc, h.hr, ?_, by
      by_cases q : f = 4
      · subst q; intro e; rw [up_same] at e; exact absurd e (hne rfl)
      · intro e; rw [up_ne _ _ (Ne.symm q)] at e ⊢; exact h.r0 e⟩, ?_, hzero⟩
  · have := heap_setCell_same w3 cb f _ 28 v' hrow3
    rw [CRow_set kind no V f v' h2 h6] at this
    exact this
  · intro j j2 j6
    by_cases q : j = f
    · subst q
      rw [up_same, up_same, up_same]
      exact ho.move fun k hk => hset k (hvne k hk)
    · rw [up_ne _ _ q, up_ne _ _ q, up_ne _ _ q]
      refine (hbw.own j j2 j6).move fun k hk => ?_
      have hjk := h.cl j j2 j6 k hk
      have hkw := ((h.own j j2 j6).block_lt k hk).2
      have hkc : k ≠ cb := fun e => by rw [e, h.c1] at hjk; rcases hjk with e | e; omega; cases e.1
      have hne : (V f).ownBlock ≠ some k := fun e => by have := hcl k e; rcases hjk with e | e; omega; omega
      exact (hset k hkc).trans (hb3 k (by omega) hne)
  · intro j j2 j6 k hk
    by_cases q : j = f
    · subst q
      rw [up_same] at hk
      left
      unfold colN
      rw [if_pos hk]
    · rw [up_ne _ _ q] at hk
      have hjk := h.cl j j2 j6 k hk
      have hkw := ((h.own j j2 j6).block_lt k hk).2
      have hnv : v'.ownBlock ≠ some k := fun e => by
        rcases hn k e with e | e
        · have := hcl k e; rcases hjk with e | e <;> omega
        · omega
      unfold colN
      rw [if_neg hnv, if_pos hkw]
      exact hjk
  · unfold colN
    rw [if_neg (fun e => hvne cb e rfl), if_pos hcb, h.c1]
  · have hnv : v'.ownBlock ≠ some rb := fun e => by
      rcases hn rb e with e | e
      · exact hrne e
      · omega
    unfold colN
    rw [if_neg hnv, if_pos hrlt, h.c8]
  · intro k hk0
    have hsz : (w3.setCell ⟨cb, f, none⟩ v').heap.size = w3.heap.size := by simp
    rw [hsz]
    unfold colN at hk0
    split at hk0
    · omega
    · split at hk0
      · have := h.zero k hk0; omega
      · split at hk0
        · have := h.hc; omega
        · cases hk0
  · refine ((((hk.mono fun i e _ => Or.inl e).alloc o).grown hg fun k e => .inl (.inr (.inr e))).setCell (p := ⟨cb, f, none⟩) (.inl (.inr (.inl rfl))) v')
end
/-- the kids are set: a block that lies already in w2 -/
theorem BT.setk {w w2 : World} {rb cb base : Nat} {kind : Int} {no : Bool} {V : Nat → Value} {N : Nat → Nat} {X : Nat → List Value} {col : Nat → Nat} {fz : Nat → Bool} {az ws : List ByteArray} {rs : List (ByteArray × ByteArray)} {pats : List (List ByteArray)} {bodies : List CmdT} {T : Nat → Prop} {c : List Value} {t : CmdT}
    (h : BT w rb cb base kind no fz az ws rs [] pats bodies V N X col) (hz : fz 5 = false) (hk : Kept T w w2) (hT : ∀ k, T k → k < base) (hc : CmdAt w2 (fun k => w.heap.size ≤ k ∧ k < w2.heap.size) c t) (h7 : c.length = 7) :
    ∃ V N X col, BT ((w2.alloc (.cells c.toArray 28)).setCell ⟨cb, 5, none⟩ (.slice (some ⟨w2.heap.size, 0, none⟩) 1 1)) rb cb base kind no fz az ws rs [t] pats bodies V N X col := by
  have hx5 : X 5 = [] := by
    obtain ⟨kc, e1, e2⟩ := h.2.x5
    have := e2.1
    match kc, this with
    | [], _ => rw [e1]; rfl
  have hbw : base ≤ w2.heap.size := Nat.le_trans (Nat.le_trans h.1.hc (Nat.le_of_lt (lt_of_block h.1.row))) hk.size
  have hg : (w2.alloc (.cells c.toArray 28)).grownBy (w2.alloc (.cells c.toArray 28)) (V 5).ownBlock := ⟨rfl, rfl, rfl, Nat.le_refl _, fun _ _ _ => rfl⟩
  have ho : OwnG (w2.alloc (.cells c.toArray 28)) base 28 7 (.slice (some ⟨w2.heap.size, 0, none⟩) 1 1) 1 c := ⟨by rw [h7], .inr ⟨w2.heap.size, 1, _, rfl, hbw, heap_alloc_last w2 _, Nat.le_refl _, by unfold maxLen; omega, by simp [h7], by show c.take (1 * 7) = c; rw [List.take_of_length_le (by omega)]⟩⟩
  obtain ⟨p1, p2, p3⟩ := h.1.push2 (f := 5) (by decide) (by decide) hz hk hT hg ho (fun k e => .inr (Nat.le_of_eq (by simpa [Value.ownBlock] using e)))
  have ht := ((h.keep hk hT).2.move (fun k e => (p3 k (.inl e)).1) fun k e => (p3 k (.inl e)).2).kid (hc.move (fun k e => (p3 k (.inr e)).1) fun k e => (p3 k (.inr e)).2)
  rw [hx5, List.nil_append, h.2.n5] at ht
  exact ⟨_, _, _, _, p1, ht⟩
/-- a command's variable, new, with one word -/
theorem BT.neww {W4 : World} {rb base : Nat} (x : ByteArray) (hrr : ∃ z0 z1 z2 z3 z4 z5 z6, W4.heap[rb]? = some (.cells #[z0, z1, z2, z3, z4, z5, z6] 28 (0, 0))) (hb : base ≤ rb) (kind : Int) :
    ∃ V N X col, BT ((W4.alloc (.cells #[.string x] 9)).alloc (.cells #[.int .i64 kind, .bool false, .slice none 0 0, .slice (some ⟨W4.heap.size, 0, none⟩) 1 1, .slice none 0 0, .slice none 0 0, .slice none 0 0] 28)) rb (W4.heap.size + 1) base kind false (fun _ => false) [] [x] [] [] [] [] V N X col := by
  obtain ⟨z0, z1, z2, z3, z4, z5, z6, hr⟩ := hrr
  have hrb := lt_of_block hr
  obtain ⟨W5, hW5⟩ : ∃ W, W4.alloc (.cells #[.string x] 9) = W := ⟨_, rfl⟩
  have h5n : W5.heap[W4.heap.size]? = some (.cells #[.string x] 9 (0, 0)) := by rw [← hW5]; exact heap_alloc_last W4 _
  have h5o : ∀ k, k < W4.heap.size → W5.heap[k]? = W4.heap[k]? := fun k hk => by rw [← hW5]; exact Below.heap_alloc _ _ _ hk
  have h5s : W5.heap.size = W4.heap.size + 1 := by rw [← hW5]; simp
  rw [hW5, ← h5s]
  obtain ⟨W6, hW6⟩ : ∃ W, W5.alloc (.cells #[.int .i64 kind, .bool false, .slice none 0 0, .slice (some ⟨W4.heap.size, 0, none⟩) 1 1, .slice none 0 0, .slice none 0 0, .slice none 0 0] 28) = W := ⟨_, rfl⟩
  have h6n : W6.heap[W5.heap.size]? = some (.cells #[.int .i64 kind, .bool false, .slice none 0 0, .slice (some ⟨W4.heap.size, 0, none⟩) 1 1, .slice none 0 0, .slice none 0 0, .slice none 0 0] 28 (0, 0)) := by rw [← hW6]; exact heap_alloc_last W5 _
  have h6o : ∀ k, k < W5.heap.size → W6.heap[k]? = W5.heap[k]? := fun k hk => by rw [← hW6]; exact Below.heap_alloc _ _ _ hk
  rw [hW6]
  refine ⟨fun f => if f = 3 then .slice (some ⟨W4.heap.size, 0, none⟩) 1 1 else .slice none 0 0, fun f => if f = 3 then 1 else 0, fun f => if f = 3 then [.string x] else [], fun k => if k = W5.heap.size then 1 else if k = W4.heap.size then 3 else if k = rb then 8 else 7, ⟨h6n, ⟨z0, z1, z2, z3, z4, z5, z6, (h6o _ (by omega)).trans ((h5o _ hrb).trans hr)⟩, fun f h2 h6 => ?_, fun f h2 h6 k hk => ?_, if_pos rfl, ?_, by omega, hb, fun k hk => ?_, fun _ => rfl⟩, rfl, rfl, rfl, rfl, rfl, rfl, rfl, ⟨[], rfl, KidsAt.nil⟩, rfl, [], [], rfl, ArmsAt.nil⟩
  · by_cases q : f = 3
    · subst q
      exact ⟨rfl, .inr ⟨W4.heap.size, 1, _, rfl, by omega, (h6o _ (by omega)).trans h5n, Nat.le_refl _, by unfold maxLen; omega, Nat.le_refl _, rfl⟩⟩
    · rw [if_neg q, if_neg q, if_neg q]; exact OwnG.nil _ _ _ _
  · by_cases q : f = 3
    · subst q
      have e : W4.heap.size = k := by simpa [Value.ownBlock] using hk
      left
      rw [← e, if_neg (by omega), if_pos rfl]
    · rw [if_neg q] at hk
      simp [Value.ownBlock] at hk
  · rw [if_neg (by omega), if_neg (by omega), if_pos rfl]
  · split at hk
    · cases hk
    · split at hk
      · cases hk
      · split at hk <;> cases hk
section
variable {pb d g cap : Nat} {T : List (Int × ByteArray)} {C : Nat → PR CmdT}
set_option maxRecDepth 100000 in
set_option maxHeartbeats 8000000 in
theorem each_any (i0 : Nat) (HLI : FnOK 91 pb T g cap d i0 (lisP T C)) : FnOK 89 pb T g cap d i0 (eacP T C) := by
  intro i w hi h
  obtain ⟨R, hR⟩ : ∃ R, eacP T C i = R := ⟨_, rfl⟩
  rw [hR]
  unfold eacP at hR
  have HLI := Lib.hid HLI
  have hbl := h.blt
  have hb1 := h.p1
  have htx := h.txt i
  obtain ⟨i28, hi28, hz0, hz1, hz2⟩ := info_parts Tryz.info28
  obtain ⟨i9, hi9, hz90, hz91, hz92⟩ := info_parts Tryz.info9
  have HTX := Lib.hid (text_any (h.alloc (.cells #[.int .i64 0, .bool false, .slice none 0 0, .slice none 0 0, .slice none 0 0, .slice none 0 0, .slice none 0 0] 28)))
  have htp : textP T i = .err 31 ∨ textP T i = .ok (tk T i).2 (i + 1) := by
    unfold textP; split
    · exact .inr rfl
    · exact .inl rfl
  obtain ⟨x, hx⟩ : ∃ x, (tk T i).2 = x := ⟨_, rfl⟩
  rw [hx] at htp htx
  rcases htp with htp | htp
  · rw [htp] at HTX hR
    have HR := Lib.hid hR
    clear h hR htp
    go_enter Tryz.func89, Tryz.ntmps89
    go_wp2_with fail
    refine HTX.out.mono ?_
    rintro e w4 ⟨hk4, k2, rfl⟩
    have e : R = .err 31 := HR.out.symm
    subst e
    have HK4 := Lib.hid (((Kept.refl _ w).alloc _).trans hk4)
    clear hk4
    go_wp2
    exact ⟨rfl, HK4.out, _, rfl⟩
  rw [htp] at HTX hR
  have hR2 : (if namedB x then (if isW T (lineP T (i + 1)) bIn then (match sepP T (wdsF T (T.length + 1) (lineP T (i + 1) + 1) [x]).2 with
       | none => .err 31
       | some k => eacB T C (wdsF T (T.length + 1) (lineP T (i + 1) + 1) [x]).1 k)
     else eacB T C [x] ((sepP T (lineP T (i + 1))).getD (lineP T (i + 1)))) else .err 31) = R := hR
  have HNM := Lib.hid fun w => named_any x w htx
  obtain ⟨bn, hbn⟩ : ∃ b, namedB x = b := ⟨_, rfl⟩
  rw [hbn] at HNM hR2
  clear h hR htp hx hbn
  go_enter Tryz.func89, Tryz.ntmps89
  go_wp2_with fail
  refine HTX.out.mono ?_
  rintro e w2 ⟨hk2, u, rfl, rfl, hp2, hj1⟩
  have hk02 : Kept (Own1 pb) w w2 := ((Kept.refl _ w).alloc _).trans hk2
  have hz2' : w2.heap[w.heap.size]? = some (.cells #[.int .i64 0, .bool false, .slice none 0 0, .slice none 0 0, .slice none 0 0, .slice none 0 0, .slice none 0 0] 28 (0, 0)) := (hk2.block _ (by simp) (by show ¬ _ = pb; omega)).trans (heap_alloc_last w _)
  have hsz2 := hk2.size
  rw [World.size_alloc] at hsz2
  have hbt := BT.neww (rb := w.heap.size) (base := w.heap.size) x ⟨_, _, _, _, _, _, _, hz2'⟩ (Nat.le_refl _) 8
  obtain ⟨w3, hw3⟩ : ∃ w3, (w2.alloc (.cells #[.string x] 9)).alloc (.cells #[.int .i64 8, .bool false, .slice none 0 0, .slice (some ⟨w2.heap.size, 0, none⟩) 1 1, .slice none 0 0, .slice none 0 0, .slice none 0 0] 28) = w3 := ⟨_, rfl⟩
  rw [hw3] at hbt
  obtain ⟨V0, N0, X0, col0, hbt⟩ := hbt
  have HP3 := Lib.hid (by rw [← hw3]; exact (hp2.alloc _).alloc _ : PAt w3 pb T (i + 1) d g cap)
  have HK3 := Lib.hid (by rw [← hw3]; exact (hk02.alloc _).alloc _ : Kept (Own1 pb) w w3)
  have HB3 := Lib.hid hbt
  have kw : w3.cell? ⟨w2.heap.size, 0, none⟩ = some (.string x) := by
    rw [← hw3]
    exact (rowc ((Below.heap_alloc (w2.alloc (.cells #[.string x] 9)) _ w2.heap.size (by simp)).trans (heap_alloc_last w2 _)) (j := 0) rfl).1
  have kv : w3.cell? ⟨w2.heap.size + 1, 3, none⟩ = some (.slice (some ⟨w2.heap.size, 0, none⟩) 1 1) := by
    rw [← hw3]
    have := heap_alloc_last (w2.alloc (.cells #[.string x] 9)) (.cells #[.int .i64 8, .bool false, .slice none 0 0, .slice (some ⟨w2.heap.size, 0, none⟩) 1 1, .slice none 0 0, .slice none 0 0, .slice none 0 0] 28)
    rw [World.size_alloc] at this
    exact (rowc this (j := 3) rfl).1
  have HW3 := Lib.hid hw3
  have hcb : w.heap.size < w2.heap.size + 1 := by omega
  clear hp2 hk2 hk02 hz2' hbt hw3
  go_upto_region 2 with fail
  rw [HW3.out]
  clear HW3
  cases bn with
  | false =>
    have e : R = .err 31 := hR2.symm
    subst e
    have HF := Lib.hid (pfail_any 31 HP3.out)
    go_wp2_with fail
    refine (HNM.out _).mono ?_
    rintro e w9 ⟨rfl, hw9⟩
    obtain rfl := hw9.symm
    go_wp2_with fail
    refine HF.out.mono ?_
    rintro e w9 ⟨rfl, hw9⟩
    obtain rfl := hw9.symm
    go_wp2
    exact ⟨rfl, HK3.out, _, rfl⟩
  | true =>
    rw [if_pos rfl] at hR2
    have HL := Lib.hid (lines_any HP3.out)
    obtain ⟨j1, hj1'⟩ : ∃ j1, lineP T (i + 1) = j1 := ⟨_, rfl⟩
    rw [hj1'] at HL hR2
    clear hj1'
    have HR2 := Lib.hid hR2
    clear hR2
    go_wp2_with fail
    refine (HNM.out _).mono ?_
    rintro e w9 ⟨rfl, hw9⟩
    obtain rfl := hw9.symm
    go_wp2_with fail
    refine HL.out.mono ?_
    rintro e w5 ⟨rfl, hp5, hk5, hl5⟩
    have HP5 := Lib.hid hp5
    have HK5 := Lib.hid (HK3.out.trans hk5)
    have HB5 := Lib.hid (HB3.out.keep hk5 (by intro k (e : k = pb); omega))
    clear hp5 hk5 HP3 HK3 HB3 kw kv HL
    have HWI := Lib.hid (word_any bIn HP5.out)
    obtain ⟨o1, ho1⟩ : ∃ o, isW T j1 bIn = o := ⟨_, rfl⟩
    have hst := HR2.out
    rw [ho1] at HWI hst
    unfold bIn at HWI
    clear ho1
    go_wp2_with fail
    refine HWI.out.mono ?_
    rintro e w6 ⟨rfl, hp6, hk6⟩
    have HP6 := Lib.hid hp6
    have HK6 := Lib.hid (HK5.out.trans hk6)
    have HB6 := Lib.hid (HB5.out.keep hk6 (by intro k (e : k = pb); omega))
    clear hp6 hk6 HP5 HK5 HB5 HR2
    go_upto_if 19 with fail
    go_cut [] from 34 (fun wi => Hid (∃ (ws : List ByteArray) (j : Nat) (V : Nat → Value) (N : Nat → Nat) (X : Nat → List Value) (col : Nat → Nat), PAt wi pb T j d g cap ∧ BT wi w.heap.size (w2.heap.size + 1) w.heap.size 8 false (fun _ => false) [] ws [] [] [] [] V N X col ∧ Kept (Own1 pb) w wi ∧ i ≤ j ∧ Hid (eacB T C ws j = R)))
    case first =>
      cases o1 with
      | false =>
        rw [if_neg (by decide)] at hst
        have HS := Lib.hid hst
        have HSP := Lib.hid (sep_any HP6.out)
        clear hst
        go_wp2_with fail
        refine HSP.out.mono ?_
        rintro e w7 ⟨rfl, hp7, hk7, hl7, _⟩
        have hl7 : j1 ≤ (sepP T j1).getD j1 := hl7
        have HP7 := Lib.hid (show PAt w7 pb T ((sepP T j1).getD j1) d g cap from hp7)
        have HK7 := Lib.hid (HK6.out.trans hk7)
        have HB7 := Lib.hid (HB6.out.keep hk7 (by intro k (e : k = pb); omega))
        clear hp7 hk7
        go_wp2
        go_meet
        case rel => exact ⟨[x], _, _, _, _, _, HP7.out, HB7.out, HK7.out, by omega, HS⟩
      | true =>
        rw [if_pos rfl] at hst
        have HS := Lib.hid hst
        clear hst
        go_wp2
        go_loopw [] (fun wi => ∃ (j f : Nat) (ws : List ByteArray) (V : Nat → Value) (N : Nat → Nat) (X : Nat → List Value) (col : Nat → Nat), PAt wi pb T j d g cap ∧ BT wi w.heap.size (w2.heap.size + 1) w.heap.size 8 false (fun _ => false) [] ws [] [] [] [] V N X col ∧ Kept (Own1 pb) w wi ∧ i ≤ j ∧ T.length < f + j ∧ ws.length ≤ j + 1 ∧ Hid ((match sepP T (wdsF T f j ws).2 with
           | none => .err 31
           | some k => eacB T C (wdsF T f j ws).1 k) = R)) (fun wi => T.length - iOf wi pb)
        case atStart => exact ⟨j1 + 1, T.length + 1, [x], _, _, _, _, HP6.out, HB6.out, HK6.out, by omega, by omega, by simp, HS⟩
        case round =>
          obtain ⟨j, f, ws, V, N, X, col, hp, hb, hk, hij, hf, hlen, hr⟩ := hrel
          have hlt := hp.lt
          have hsm := hp.small
          obtain ⟨f, rfl⟩ : ∃ g, f = g + 1 := ⟨f - 1, by omega⟩
          have hst := hr.out
          rw [wdsF] at hst
          have HM := Lib.hid (iOf_p hp)
          have HKQ := Lib.hid (kind_q hp)
          obtain ⟨k1, hk1⟩ : ∃ k, (tk T j).1 = k := ⟨_, rfl⟩
          rw [hk1] at HKQ hst
          by_cases kk : k1 = 1
          · subst kk
            rw [if_pos rfl] at hst
            obtain ⟨x2, hx2⟩ : ∃ x, (tk T j).2 = x := ⟨_, rfl⟩
            have htp2 : textP T j = .ok x2 (j + 1) := by unfold textP; rw [hk1, hx2, if_pos rfl]
            rw [hx2] at hst
            have HS8 := Lib.hid hst
            have hN3 : N 3 ≤ 10001 := by rw [hb.2.n3]; omega
            have HP5' := Lib.hid hp
            have HB5' := Lib.hid hb
            have HK5' := Lib.hid hk
            clear hr hst hp hb hk hk1 hx2 HS
            go_wp2_with fail
            refine HKQ.out.mono ?_
            rintro e w4 ⟨rfl, m, hw4⟩
            obtain ⟨w7, hw7⟩ : ∃ w7, w4 = w7 := ⟨_, rfl⟩
            rw [hw7]
            rw [hw7] at hw4
            have hp8 : PAt w7 pb T j d g cap := by rw [hw4]; exact HP5'.out.drewN m
            have HK8 := Lib.hid (by rw [hw4]; exact HK5'.out.drewN m : Kept (Own1 pb) w w7)
            have HB8 := Lib.hid (by rw [hw4]; exact HB5'.out.keep (T := fun _ => False) ((Kept.refl _ _).drewN m) (fun _ e => e.elim) : BT w7 w.heap.size (w2.heap.size + 1) w.heap.size 8 false (fun _ => false) [] ws [] [] [] [] V N X col)
            have HTXW := Lib.hid (text_any (hp8.drewN 1))
            rw [htp2] at HTXW
            have HTXW : Hid (Calls Tryz.prog 93 #[.pointer (some ⟨pb, 0, none⟩)] w7.drew (PaR pb T g cap j d w7.drew (fun _ u s => u = .string s) (.ok x2 (j + 1)))) := HTXW
            have HP8 := Lib.hid hp8
            clear hw4 hw7 hp8 htp2 HKQ HK5' HB5' HP5'
            obtain ⟨A5, n5, hV5, _, _⟩ := (HB8.out.1.own 3 (by decide) (by decide)).form
            have k5 := (HB8.out.1.ops 3 (by decide) (by decide) rfl).2.2.2.1
            rw [hV5] at k5
            have HV5 := Lib.hid hV5
            clear hV5
            go_upto_region 7 with fail
            first | (go_region_law (first
              | (refine step_append_G rfl _ _ 22 rfl w.heap.size 9 i9 (.string ⟨#[]⟩) 1 16 Tryz.underlying22 hi9 hz90 hz91 hz92 rfl (.slice A5 (N 3) n5) (N 3) (X 3) rfl (hO.out _) ⟨w4.heap.size, 0, none⟩ 1 1 [.string x2] rfl rfl (World.news_of_block (heap_alloc_last w4 _)) (by simp [Value.oneCell']) (by decide) (by unfold maxLen; omega) (by omega) (by simp; omega) ?_; intro g6 cap6 w6 hown6 hgrow6 hnew6 _; obtain ⟨j1', j2'⟩ := HJ.out _ _ hgrow6; have HY := Lib.hid (HXX.out _ _ _ hgrow6 hown6 (fun k hk => by have e6 : g6 = k := (by simpa [Value.ownBlock] using hk); rw [← e6]; exact hnew6)); clear hown6 hgrow6 hnew6)
              | (go_simp; go_at_call 93; refine HTXW.out.mono ?_; rintro e w4 ⟨hk4, u, rfl, rfl, hp4, _⟩; have hk34 : Kept (Own1 pb) w7 w4 := (Kept.refl _ _).drew.trans hk4; have hb4 := HB8.out.keep hk34 (by intro k (e : k = pb); omega); have hops := hb4.1.ops 3 (by decide) (by decide) rfl; rw [HV5.out] at hops; obtain ⟨hO, ka5, hJ, kk5, kf5, hbs⟩ := hops; have hO := Lib.hid hO; have HJ := Lib.hid hJ; have HXX := Lib.hid fun (o : Obj) (w6 : World) (v' : Value) (hg : (w4.alloc o).grownBy w6 (Value.slice A5 (N 3) n5).ownBlock) ho hn => hb4.wrd (w3 := w6) (v' := v') (o := o) (T := fun _ => False) (Kept.refl _ w4) (fun _ e => e.elim) x2 rfl (by rw [HV5.out]; exact hg) ho (by rw [HV5.out]; exact hn); have HP4 := Lib.hid hp4; have HK4 := Lib.hid (HK8.out.trans hk34); have HTC := Lib.hid (hb4.1.touch 3 (by decide) (by decide)); clear hJ hb4 hk34 hk4 hp4)
              | fail)) | fail
            all_goals
              have HK6 := Lib.hid (HK4.out.on HY.out.2 (fun k e => .inr (HTC.out k e)))
              have HP6 := Lib.hid (HP4.out.keep HY.out.2 (fun e => by have := HTC.out _ e; omega) (fun e => by have := HTC.out _ e; omega) (fun e => by have := HTC.out _ e; omega))
              have HM6 := Lib.hid (iOf_p HP6.out)
              go_wp2
              exact ⟨⟨j + 1, f, ws ++ [x2], _, _, _, _, HP6.out, HY.out.1, HK6.out, by omega, by omega, by simp; omega, HS8⟩, by rw [HM.out, HM6.out]; omega⟩
          · rw [if_neg kk] at hst
            have kk' : (k1 == 1) = false := beq_eq_false_iff_ne.2 kk
            have hst : (match sepP T j with
              | none => .err 31
              | some k => eacB T C ws k) = R := hst
            have HSP := Lib.hid fun m => sep_any (hp.drewN m)
            obtain ⟨o2, ho2⟩ : ∃ o, sepP T j = o := ⟨_, rfl⟩
            rw [ho2] at HSP hst
            have HB5' := Lib.hid hb
            have HK5' := Lib.hid hk
            have HS8 := Lib.hid hst
            clear hr hst hp hb hk hk1 ho2 HS
            go_wp2_with fail
            refine HKQ.out.mono ?_
            rintro e w4 ⟨rfl, m, hw4⟩
            obtain rfl := hw4.symm
            go_wp2_with fail
            refine (HSP.out m).mono ?_
            rintro e w7 ⟨rfl, hp7, hk7, hl7, _⟩
            cases o2 with
            | none =>
              have e : R = .err 31 := HS8.out.symm
              subst e
              have HMU := Lib.hid (must_any false hp7)
              have HK7 := Lib.hid ((HK5'.out.drewN m).trans hk7)
              clear hp7 hk7
              go_wp2_with fail
              refine HMU.out.mono ?_
              rintro e w9 ⟨hw9, rfl⟩
              obtain rfl := hw9.symm
              go_wp2
              exact ⟨rfl, HK7.out, _, rfl⟩
            | some k =>
              have HS9 : Hid (eacB T C ws k = R) := HS8.out
              have hl7 : j ≤ k := hl7
              have HMU := Lib.hid (must_any true hp7)
              have HP7 := Lib.hid (show PAt w7 pb T k d g cap from hp7)
              have HK7 := Lib.hid ((HK5'.out.drewN m).trans hk7)
              have HB7 := Lib.hid ((HB5'.out.keep (T := fun _ => False) ((Kept.refl _ _).drewN m) (fun _ e => e.elim)).keep hk7 (by intro k (e : k = pb); omega))
              clear hp7 hk7
              go_wp2_with fail
              refine HMU.out.mono ?_
              rintro e w9 ⟨hw9, rfl⟩
              obtain rfl := hw9.symm
              go_wp2
              go_meet
              case rel => exact ⟨ws, k, _, _, _, _, HP7.out, HB7.out, HK7.out, by omega, HS9⟩
    case rest =>
      obtain ⟨ws, j, V, N, X, col, hp7, hb7, hk7, hij, hr7⟩ := hcut.out
      have HR7 : Hid (((mustW T j bDo).bind fun _ j => (lisP T C j).bind fun c j => (mustW T j bDone).bind fun _ j => .ok (.mk 8 false [] ws [] [c] [] []) j) = R) := hr7.out
      have HP7 := Lib.hid hp7
      have HB7 := Lib.hid hb7
      have HK7 := Lib.hid hk7
      clear hcut hp7 hb7 hk7 hr7 HP6 HK6 HB6
      have HWD := Lib.hid (word_any bDo HP7.out)
      obtain ⟨qb, hqb⟩ : ∃ q, isW T j bDo = q := ⟨_, rfl⟩
      rw [hqb] at HWD
      have hrr := HR7.out
      unfold mustW at hrr
      rw [hqb] at hrr
      unfold bDo at HWD
      clear hqb
      cases qb with
      | false =>
        have e : R = .err 31 := hrr.symm
        subst e
        clear hrr
        go_wp2_with fail
        refine HWD.out.mono ?_
        rintro e w8 ⟨rfl, hp8, hk8⟩
        have HMU := Lib.hid (must_any false hp8)
        have HK8 := Lib.hid (HK7.out.trans hk8)
        clear hp8 hk8
        go_wp2_with fail
        refine HMU.out.mono ?_
        rintro e w9 ⟨hw9, rfl⟩
        obtain rfl := hw9.symm
        go_wp2
        exact ⟨rfl, HK8.out, _, rfl⟩
      | true =>
        have HR7' := Lib.hid hrr
        clear hrr
        go_wp2_with fail
        refine HWD.out.mono ?_
        rintro e w8 ⟨rfl, hp8, hk8⟩
        have HP7n := Lib.hid (show PAt w8 pb T (j + 1) d g cap from hp8)
        have HMU := Lib.hid (must_any true hp8)
        have HK7n := Lib.hid (HK7.out.trans hk8)
        have HB7n := Lib.hid (HB7.out.keep hk8 (by intro k (e : k = pb); omega))
        clear hp8 hk8
        go_wp2_with fail
        refine HMU.out.mono ?_
        rintro e w9 ⟨hw9, rfl⟩
        obtain rfl := hw9.symm
        have HRL : Hid (((lisP T C (j + 1)).bind fun c j => (mustW T j bDone).bind fun _ j => .ok (.mk 8 false [] ws [] [c] [] []) j) = R) := HR7'
        have HLW := Lib.hid (HLI.out (j + 1) _ (by omega) HP7n.out)
        obtain ⟨r, hr⟩ : ∃ r, lisP T C (j + 1) = r := ⟨_, rfl⟩
        have hx := HRL.out
        rw [hr] at HLW hx
        clear hr HRL HR7'
        cases r with
        | err n =>
          have e : R = .err n := hx.symm
          subst e
          clear hx
          go_wp2_with fail
          refine HLW.out.mono ?_
          rintro e w11 ⟨hk4, k2, rfl⟩
          have HK9 := Lib.hid (HK7n.out.trans hk4)
          clear hk4
          go_wp2
          exact ⟨rfl, HK9.out, _, rfl⟩
        | ok c j2 =>
          have HR9 : Hid (((mustW T j2 bDone).bind fun _ j => .ok (.mk 8 false [] ws [] [c] [] []) j) = R) := hx
          clear hx
          go_wp2_with fail
          refine HLW.out.mono ?_
          rintro e w11 ⟨hk4, u, rfl, ⟨cs, rfl, hc4⟩, hp4, hj2⟩
          obtain ⟨kc0, nc0, B2, q2, p2, B3, q3, p3, B4, q4, p4, B5, q5, p5, B6, q6, p6, rfl⟩ := hc4.lit
          have hb11 := HB7n.out.keep hk4 (by intro k (e : k = pb); omega)
          have hsk := HB7n.out.setk rfl hk4 (by intro k (e : k = pb); omega) hc4 rfl
          obtain ⟨w13, hw13⟩ : ∃ w13, (w11.alloc (.cells #[.int .i64 kc0, .bool nc0, .slice B2 q2 p2, .slice B3 q3 p3, .slice B4 q4 p4, .slice B5 q5 p5, .slice B6 q6 p6] 28)).setCell ⟨w2.heap.size + 1, 5, none⟩ (.slice (some ⟨w11.heap.size, 0, none⟩) 1 1) = w13 := ⟨_, rfl⟩
          have hsk : ∃ V N X col, BT w13 w.heap.size (w2.heap.size + 1) w.heap.size 8 false (fun _ => false) [] ws [] [c] [] [] V N X col := by rw [← hw13]; exact hsk
          obtain ⟨V9, N9, X9, col9, hb13⟩ := hsk
          have kc5 := fun o => rowc ((Below.heap_alloc w11 o _ (lt_of_block hb11.1.row)).trans hb11.1.row) (j := 5) (v := V 5) rfl
          have kc5a := fun o => (kc5 o).1
          have kc5b := fun o => (kc5 o).2
          have hkw : Kept (fun k => k = w2.heap.size + 1) w11 w13 := by rw [← hw13]; exact ((Kept.refl (fun k => k = w2.heap.size + 1) w11).alloc _).setCell (p := ⟨w2.heap.size + 1, 5, none⟩) (.inl rfl) _
          have HP9 := Lib.hid (hp4.keep hkw (by show ¬ pb = _; omega) (by show ¬ g = _; omega) (by show ¬ 1 = _; omega))
          have HK9 := Lib.hid ((HK7n.out.trans hk4).on hkw (fun k e => .inr (by rw [e]; omega)))
          have HB9 := Lib.hid hb13
          have HW13 := Lib.hid hw13
          clear hk4 hp4 hc4 hb11 hb13 hkw hw13 kc5
          go_upto_region 12 with fail
          rw [HW13.out]
          clear HW13 kc5a kc5b
          have HWD := Lib.hid (word_any bDone HP9.out)
          obtain ⟨qb, hqb⟩ : ∃ q, isW T j2 bDone = q := ⟨_, rfl⟩
          rw [hqb] at HWD
          have hrr := HR9.out
          unfold mustW at hrr
          rw [hqb] at hrr
          unfold bDone at HWD
          clear hqb
          cases qb with
          | false =>
            have e : R = .err 31 := hrr.symm
            subst e
            clear hrr
            go_wp2_with fail
            refine HWD.out.mono ?_
            rintro e w8 ⟨rfl, hp8, hk8⟩
            have HMU := Lib.hid (must_any false hp8)
            have HK8 := Lib.hid (HK9.out.trans hk8)
            clear hp8 hk8
            go_wp2_with fail
            refine HMU.out.mono ?_
            rintro e w9 ⟨hw9, rfl⟩
            obtain rfl := hw9.symm
            go_wp2
            exact ⟨rfl, HK8.out, _, rfl⟩
          | true =>
            have HR9' := Lib.hid hrr
            clear hrr
            go_wp2_with fail
            refine HWD.out.mono ?_
            rintro e w15 ⟨rfl, hp8, hk8⟩
            have HP9n := Lib.hid (show PAt w15 pb T (j2 + 1) d g cap from hp8)
            have HMU := Lib.hid (must_any true hp8)
            have HK9n := Lib.hid (HK9.out.trans hk8)
            have HB9n := Lib.hid (HB9.out.keep hk8 (by intro k (e : k = pb); omega))
            clear hp8 hk8
            go_wp2_with fail
            refine HMU.out.mono ?_
            rintro e w9 ⟨hw9, rfl⟩
            obtain rfl := hw9.symm
            have e : R = .ok (.mk 8 false [] ws [] [c] [] []) (j2 + 1) := HR9'.out.symm
            subst e
            obtain ⟨A2, m2, A3, m3, A4, m4, A5, m5, A6, m6, k0, k1, k2, k3, k4, k5, k6, ⟨z0, z1, z2, z3, z4, z5, z6, ⟨y0, g0⟩, ⟨y1, g1⟩, ⟨y2, g2⟩, ⟨y3, g3⟩, ⟨y4, g4⟩, ⟨y5, g5⟩, ⟨y6, g6⟩⟩, hfin⟩ := BT.fin' HB9n.out
            have HRT := Lib.hid hfin
            clear hfin
            go_wp2
            obtain ⟨W6, hW6, hl6, hc6, hk6⟩ := HRT.out
            rw [hW6]
            exact bodyPost_ret (results_cell (t := 2) (by kernel_rfl) rfl hl6) rfl ⟨HK9n.out.on hk6 (fun k e => .inr (Nat.le_of_eq e.symm)), _, rfl, hc6, HP9n.out.keep hk6 (by show ¬ pb = _; omega) (by show ¬ g = _; omega) (by show ¬ 1 = _; omega), by omega⟩
end
end Go.Proofs.YtioddclglemlmaaGreatDoor
