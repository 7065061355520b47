/- A redirection; conditions: a parser that stands among tokens, the last one the end; a command that is being built. -/
import Derived.Test.YtioddclglemlmaaGreatDoorGramWN
import Derived.Test.YtioddclglemlmaaGreatDoorGramO
import Derived.Deep.Cut
import Derived.Deep.WholeRow
namespace Go.Proofs.YtioddclglemlmaaGreatDoor
open Go.RowKit

theorem step_append_G {P : Program} {w : World} {ops : Array Oper} {o : Oper} {a : Act} {K : Act → World → Prop} {Q : Exit → Act → World → Prop} {E : Prop} (hgd : o.guard = none) (s x : Operand) (t : TypeId)
    (ho : o.op = .call { callee := .builtin .append, args := #[s, x], argTypes := #[t, t] })
    (base : Nat) (e : TypeId) (i : TypeInfo) (z : Value) (size bytes : Nat) (ht : P.underlying t = some (.slice e)) (hi : P.info? e = some i) (hz : i.zero = some z)
    (hsize : i.size = size) (hby : i.bytes = bytes) (hzs : z.cells.size = size)
    (v : Value) (n : Nat) (xs : List Value) (hs : a.eval s = v) (hown : OwnG w base e size v n xs)
    (ad : Addr) (m c : Nat) (news : List Value) (hx : a.eval x = .slice (some ad) m c) (hl : news.length = m * size) (hnews : ∀ j u, news[j]? = some u → w.cell? (ad.add j) = some u) (h1 : ∀ u ∈ news, u.oneCell' = true)
    (hm : 0 < m) (h63 : n + m ≤ maxLen) (hbytes : (n + m) * bytes ≤ 140737488355328) (hbase : base ≤ w.heap.size)
    (h : ∀ g cap w', OwnG w' base e size (.slice (some ⟨g, 0, none⟩) (n + m) cap) (n + m) (xs ++ news) → w.grownBy w' v.ownBlock → (v.ownBlock = some g ∨ g = w.heap.size) → g < w'.heap.size → K (a.put o.dst (.slice (some ⟨g, 0, none⟩) (n + m) cap)) w') :
    if Region.wanted o (yielded ops a.tmps) = true then Oper.wp P o a w K Q else E := by
  have hw : Region.wanted o (yielded ops a.tmps) = true := by simp [Region.wanted, hgd]
  rw [if_pos hw]
  exact wp_append_G w s x t ho base e i z size bytes ht hi hz hsize hby hzs v n xs hs hown ad m c news hx hl hnews h1 hm h63 hbytes hbase h
/-- from base on, and the parser -/
def OwnB (pb base : Nat) : Nat → Prop := fun k => k = pb ∨ base ≤ k
theorem Kept.on {pb : Nat} {T : Nat → Prop} {w0 w w' : World} (h : Kept (Own1 pb) w0 w) (k : Kept T w w') (ht : ∀ i, T i → i = pb ∨ w0.heap.size ≤ i) : Kept (Own1 pb) w0 w' := h.trans' k ht
theorem Kept.drew {T : Nat → Prop} {w w' : World} (h : Kept T w w') : Kept T w w'.drew := h.trans ⟨⟨rfl, rfl, rfl, Nat.le_refl _, fun _ _ => rfl⟩, fun _ _ _ => rfl⟩
theorem Tryz.info52 : (Tryz.prog.info? 52).map (fun i => (i.zero, i.size, i.bytes)) = some (some (.agg #[.string ⟨#[]⟩, .string ⟨#[]⟩]), 2, 32) := by kernel_rfl
section
variable {pb i d g cap cb : Nat} {T : List (Int × ByteArray)} {w : World}
set_option maxRecDepth 100000 in
set_option maxHeartbeats 1000000 in
theorem redir_no (h : PAt w pb T i d g cap) (hq : rdQ T i = false) : Calls Tryz.prog 84 #[.pointer (some ⟨pb, 0, none⟩), .pointer (some ⟨cb, 0, none⟩)] w fun e w' => e = .returned (.bool false) ∧ ∃ m, w' = w.drewN m := by
  have HK := Lib.hid fun n => kind_q (h.drewN n)
  obtain ⟨c0, c1, c2, f0, f1, f2⟩ := h.cells
  obtain ⟨t0, t1⟩ := h.tok i h.lt
  have hl := h.lt
  have hs := h.small
  unfold rdQ at hq
  obtain ⟨k, hk⟩ : ∃ k, (tk T i).1 = k := ⟨_, rfl⟩
  obtain ⟨x, hx⟩ : ∃ k, (tk T i).2 = k := ⟨_, rfl⟩
  obtain ⟨n, hn⟩ : ∃ n, T.length = n := ⟨_, rfl⟩
  rw [hk] at t0 HK hq
  rw [hx] at t1 hq
  rw [hn] at c0 hl hs
  have q : (i : Int) < n := by omega
  have RA := Lib.hid fun w => rd_any x w
  clear h hk hx hn
  by_cases k2 : k = 2
  · subst k2
    rw [decide_eq_true rfl, Bool.true_and] at hq
    rw [hq] at RA
    clear hq
    go_enter Tryz.func84, Tryz.ntmps84
    go_wp2
    go_quiet (first | (go_at_call 30; exact Calls.quiet_of (HK.out _)) | (go_at_call 48; exact Calls.quiet_of (RA.out _)) | fail)
    go_wp2
    go_ret
    exact ⟨rfl, _, rfl⟩
  · have k2' : (k != 2) = true := by unfold bne; rw [beq_eq_false_iff_ne.2 k2]; rfl
    have k2'' : (k == 2) = false := beq_eq_false_iff_ne.2 k2
    clear hq
    go_enter Tryz.func84, Tryz.ntmps84
    go_wp2
    go_quiet (first | (go_at_call 30; exact Calls.quiet_of (HK.out _)) | (go_at_call 48; exact Calls.quiet_of (RA.out _)) | fail)
    go_wp2
    go_ret
    exact ⟨rfl, _, rfl⟩
end
section
variable {pb i d g cap : Nat} {T : List (Int × ByteArray)} {w : World} {rb cb base : Nat} {kind : Int} {no : Bool} {V : Nat → Value} {N : Nat → Nat} {X : Nat → List Value} {col : Nat → Nat} {fz : Nat → Bool} {az ws : List ByteArray} {rs : List (ByteArray × ByteArray)} {kids : List CmdT} {pats : List (List ByteArray)} {bodies : List CmdT}
/-- what redir answers -/
def RedA (pb : Nat) (T : List (Int × ByteArray)) (g cap i d : Nat) (rb cb base : Nat) (kind : Int) (no : Bool) (fz : Nat → Bool) (az ws : List ByteArray) (rs : List (ByteArray × ByteArray)) (kids : List CmdT) (pats : List (List ByteArray)) (bodies : List CmdT) (w : World) (r : PR ByteArray) (e : Ending) (w' : World) : Prop :=
  Kept (OwnB pb base) w w' ∧ match r with
  | .ok x j => e = .returned (.bool true) ∧ (∃ V N X col, BT w' rb cb base kind no fz az ws (rs ++ [((tk T i).2, x)]) kids pats bodies V N X col) ∧ PAt w' pb T j d g cap ∧ i < j
  | .err n => ∃ k : Int, e = .panicked (faultV k n)
set_option maxRecDepth 100000 in
set_option maxHeartbeats 4000000 in
theorem redir_yes (h : PAt w pb T i d g cap) (hq : rdQ T i = true) (hb : BT w rb cb base kind no fz az ws rs kids pats bodies V N X col) (hz : fz 4 = false) (hp : pb < base) (hg : g < base) (hr : rs.length ≤ 5001) :
    Calls Tryz.prog 84 #[.pointer (some ⟨pb, 0, none⟩), .pointer (some ⟨cb, 0, none⟩)] w fun e w' => RedA pb T g cap i d rb cb base kind no fz az ws rs kids pats bodies w (textP T (i + 1)) e w' := by
  have HK := Lib.hid fun n => kind_q (h.drewN n)
  have HP := Lib.hid h
  have HB := Lib.hid hb
  obtain ⟨c0, c1, c2, f0, f1, f2⟩ := h.cells
  obtain ⟨t0, t1⟩ := h.tok i h.lt
  have hs := h.small
  unfold rdQ at hq
  rw [Bool.and_eq_true] at hq
  have hk := of_decide_eq_true hq.1
  have hm := h.more (by rw [hk]; decide)
  have wr := i64_succ h.lt h.small
  obtain ⟨x, hx⟩ : ∃ k, (tk T i).2 = k := ⟨_, rfl⟩
  rw [hk] at t0 HK
  rw [hx] at t1 hq
  have RA := Lib.hid fun w => rd_any x w
  rw [hq.2] at RA
  have HX := Lib.hid hx
  obtain ⟨i52, hi, hz0, hz1, hz2⟩ := info_parts Tryz.info52
  obtain ⟨r, hr2⟩ : ∃ r, textP T (i + 1) = r := ⟨_, rfl⟩
  have HT := Lib.hid fun (w : World) (h : PAt w pb T (i + 1) d g cap) => text_any h
  rw [hr2] at HT ⊢
  have HM := Lib.hid hm
  obtain ⟨n, hn⟩ : ∃ n, T.length = n := ⟨_, rfl⟩
  rw [hn] at c0 hs hm
  have q : (i : Int) < n := by omega
  have HN := Lib.hid hn
  clear h hk hx hn hb hq hr2
  go_enter Tryz.func84, Tryz.ntmps84
  go_wp2
  go_quiet (first | (go_at_call 30; exact Calls.quiet_of (HK.out _)) | (go_at_call 48; exact Calls.quiet_of (RA.out _)) | fail)
  go_wp2
  have ca0 := fun (m : Nat) (o : Obj) => ((HP.out.drewN m).alloc o).cells.1
  rw [HN.out] at ca0
  have ca1 := fun (m : Nat) (o : Obj) => ((HP.out.drewN m).alloc o).cells.2.1
  have ca2 := fun (m : Nat) (o : Obj) => (((HP.out.drewN m).alloc o).tok i HP.out.lt).2
  rw [HX.out] at ca2
  have cb0 : ∀ m : Nat, ((w.drewN m).alloc (.cells #[.string ⟨#[]⟩, .string ⟨#[]⟩] 52)).cell? ⟨w.heap.size, 0, none⟩ = some (.string ⟨#[]⟩) := fun m => (rowc (heap_alloc_last (w.drewN m) (.cells #[.string ⟨#[]⟩, .string ⟨#[]⟩] 52)) (j := 0) rfl).1
  have cb1 : ∀ m : Nat, ((w.drewN m).alloc (.cells #[.string ⟨#[]⟩, .string ⟨#[]⟩] 52)).cell? ⟨w.heap.size, 1, none⟩ = some (.string ⟨#[]⟩) := fun m => (rowc (heap_alloc_last (w.drewN m) (.cells #[.string ⟨#[]⟩, .string ⟨#[]⟩] 52)) (j := 1) rfl).1
  have cf0 : ∀ m : Nat, ((w.drewN m).alloc (.cells #[.string ⟨#[]⟩, .string ⟨#[]⟩] 52)).frozen? ⟨w.heap.size, 0, none⟩ = false := fun m => (rowc (heap_alloc_last (w.drewN m) (.cells #[.string ⟨#[]⟩, .string ⟨#[]⟩] 52)) (j := 0) rfl).2
  have cf1 : ∀ m : Nat, ((w.drewN m).alloc (.cells #[.string ⟨#[]⟩, .string ⟨#[]⟩] 52)).frozen? ⟨w.heap.size, 1, none⟩ = false := fun m => (rowc (heap_alloc_last (w.drewN m) (.cells #[.string ⟨#[]⟩, .string ⟨#[]⟩] 52)) (j := 1) rfl).2
  go_region
  all_goals
    obtain ⟨w2, hw2⟩ : ∃ w2, ((((w.drewN (nq + 1)).alloc (.cells #[.string ⟨#[]⟩, .string ⟨#[]⟩] 52)).setCell ⟨w.heap.size, 0, none⟩ (.string x)).setCell ⟨w.heap.size, 1, none⟩ (.string ⟨#[]⟩)) = w2 := ⟨_, rfl⟩
    rw [hw2]
    clear ca0 ca1 ca2 cb0 cb1 cf0 cf1 c0 c1 c2 f0 f1 f2 t0 t1
    have hk2 : Kept (fun _ => False) w w2 := by rw [← hw2]; exact ((((Kept.refl _ w).drewN _).alloc _).setCell (p := ⟨w.heap.size, 0, none⟩) (.inr (Nat.le_refl _)) _).setCell (p := ⟨w.heap.size, 1, none⟩) (.inr (Nat.le_refl _)) _
    have hr2 : w2.heap[w.heap.size]? = some (.cells #[.string x, .string ⟨#[]⟩] 52 (0, 0)) := by
      rw [← hw2]
      have h1 := heap_alloc_last (w.drewN (nq + 1)) (.cells #[.string ⟨#[]⟩, .string ⟨#[]⟩] 52)
      have h2 := heap_setCell_same _ w.heap.size 0 _ 52 (.string x) h1
      have h3 := heap_setCell_same _ w.heap.size 1 _ 52 (.string ⟨#[]⟩) h2
      simpa using h3
    have hbl := HP.out.blt
    have hb1 := HP.out.p1
    have hp2 := HP.out.keep hk2 id id id
    have HK2 := Lib.hid hk2
    have HR2 := Lib.hid hr2
    have HP2 := Lib.hid hp2
    clear hw2 hk2 hr2
    obtain ⟨c0, c1, c2, f0, f1, f2⟩ := hp2.cells
    have hp3 := hp2.at_ (i + 1) HM.out
    have hk3 : Kept (Own1 pb) w2 (w2.setCell ⟨pb, 1, none⟩ (.int .i64 (i + 1 : Nat))) := (Kept.refl _ _).pset 1 _
    obtain ⟨w3, hw3⟩ : ∃ w3, w2.setCell ⟨pb, 1, none⟩ (.int .i64 (i + 1 : Nat)) = w3 := ⟨_, rfl⟩
    rw [hw3] at hp3 hk3
    have HT := Lib.hid (HT.out w3 hp3)
    have HK3 := Lib.hid hk3
    have hw3 : w2.setCell ⟨pb, 1, none⟩ (.int .i64 ((i : Int) + 1)) = w3 := hw3
    clear hp2 hp3 hk3
    go_wp2_with fail
    refine HT.out.mono ?_
    rintro e w4 ⟨hk4, ha⟩
    have hk04 : Kept (Own1 pb) w w4 := ((HK2.out.mono fun _ e _ => e.elim).trans HK3.out).trans hk4
    cases r with
    | err k =>
      obtain ⟨k2, rfl⟩ := ha
      have HK4 := Lib.hid hk04
      clear hk4 hk04
      go_wp2
      exact ⟨rfl, HK4.out.mono fun _ e _ => .inl e, _, rfl⟩
    | ok y j =>
      obtain ⟨u, rfl, rfl, hp4, hj⟩ := ha
      have hr4 : w4.heap[w.heap.size]? = some (.cells #[.string x, .string ⟨#[]⟩] 52 (0, 0)) := ((HK3.out.trans hk4).block _ (lt_of_block HR2.out) (by show ¬ _ = pb; omega)).trans HR2.out
      have hr5 : (w4.setCell ⟨w.heap.size, 1, none⟩ (.string y)).heap[w.heap.size]? = some (.cells #[.string x, .string y] 52 (0, 0)) := by simpa using heap_setCell_same w4 w.heap.size 1 _ 52 (.string y) hr4
      have hp5 := hp4.keep (S := fun k => k = w.heap.size) ((Kept.refl (fun k => k = w.heap.size) w4).setCell (p := ⟨w.heap.size, 1, none⟩) (.inl rfl) (.string y)) (by show ¬ pb = _; omega) (by show ¬ g = _; omega) (by show ¬ 1 = _; omega)
      have hk5 : Kept (Own1 pb) w (w4.setCell ⟨w.heap.size, 1, none⟩ (.string y)) := hk04.setCell (p := ⟨w.heap.size, 1, none⟩) (.inr (Nat.le_refl _)) _
      obtain ⟨c0, c1⟩ := rowc hr4 (j := 1) (v := .string ⟨#[]⟩) rfl
      have HR5 := Lib.hid hr5
      have HP5 := Lib.hid hp5
      have HK5 := Lib.hid hk5
      clear hk4 hp4 hk04 hr4 hr5 hp5 hk5
      have hb5 := HB.out.keep HK5.out (by intro k (e : k = pb); omega)
      obtain ⟨w5, hw5⟩ : ∃ w5, w4.setCell ⟨w.heap.size, 1, none⟩ (.string y) = w5 := ⟨_, rfl⟩
      rw [hw5] at HR5 HP5 HK5 hb5
      obtain ⟨_, _, _, _, k4, _, _⟩ := hb5.1.cells
      obtain ⟨A4, n4, hV4, _, _⟩ := (hb5.1.own 4 (by decide) (by decide)).form
      have hn4 : N 4 ≤ 5001 := by rw [hb5.2.n4]; exact hr
      have kf := hb5.1.free 4
      have ka4 : ∀ o, (w5.alloc o).cell? ⟨cb, 4, none⟩ = some (V 4) := fun o => (hb5.keep ((Kept.refl (fun _ => False) w5).alloc o) (fun _ e => e.elim)).1.cells.2.2.2.2.1
      rw [hV4] at k4 ka4
      obtain ⟨r0, _⟩ := rowc HR5.out (j := 0) (v := .string x) rfl
      obtain ⟨r1, _⟩ := rowc HR5.out (j := 1) (v := .string y) rfl
      have hO : Hid (∀ o, OwnG (w5.drew.alloc o) base 52 2 (.slice A4 (N 4) n4) (N 4) (X 4)) := fun o => by
        have := hb5.1.own 4 (by decide) (by decide)
        rw [hV4] at this
        exact this.move fun k hk => Below.heap_alloc w5.drew o k (this.block_lt k hk).2
      have HJ : Hid (∀ o w6, (w5.drew.alloc o).grownBy w6 (Value.slice A4 (N 4) n4).ownBlock → w6.cell? ⟨cb, 4, none⟩ = some (.slice A4 (N 4) n4) ∧ w6.frozen? ⟨cb, 4, none⟩ = false) := fun o w6 hg => by
        rw [← hV4] at hg ⊢
        exact rowc (hb5.1.rowg (f := 4) (by decide) (by decide) hz (Kept.refl (fun _ => False) w5).drew (fun _ e => e.elim) hg) (j := 4) rfl
      have HXX := Lib.hid fun (o : Obj) (w6 : World) (v' : Value) (hg : (w5.drew.alloc o).grownBy w6 (Value.slice A4 (N 4) n4).ownBlock) (ho : OwnG w6 base 52 2 v' (N 4 + 1) (X 4 ++ [.string x, .string y])) (hn : ∀ k, v'.ownBlock = some k → (Value.slice A4 (N 4) n4).ownBlock = some k ∨ k = (w5.drew.alloc o).heap.size) =>
        hb5.red (T := fun _ => False) (Kept.refl _ w5).drew (fun _ e => e.elim) x y hz (by rw [hV4]; exact hg) ho (by rw [hV4]; exact hn)
      have HVB : Hid (∀ k, (False ∨ k = cb ∨ (V 4).ownBlock = some k) → base ≤ k) := fun k hk => by
        rcases hk with e | e | e
        · exact e.elim
        · rw [e]; exact hb5.1.hc
        · exact ((hb5.1.own 4 (by decide) (by decide)).block_lt k e).1
      clear hV4 hb5
      have hbw : base ≤ w5.heap.size := Nat.le_trans (Nat.le_trans HB.out.1.hc (Nat.le_of_lt (lt_of_block HB.out.1.row))) HK5.out.size
      go_upto_region 6 with fail
      first | (go_region_law (first
        | (refine step_append_G rfl _ _ 25 rfl base 52 i52 (.agg #[.string ⟨#[]⟩, .string ⟨#[]⟩]) 2 32 Tryz.underlying25 hi hz0 hz1 hz2 rfl (.slice A4 (N 4) n4) (N 4) (X 4) rfl (hO.out _) ⟨_, 0, none⟩ 1 1 [.string x, .string y] rfl rfl (cell_two_new _ _ _ _) (by simp [Value.oneCell']) (by decide) (by unfold maxLen; omega) (by omega) (by simp; omega) ?_; intro g6 cap6 w6 hown6 hgrow6 hnew6 _; obtain ⟨j1, j2⟩ := HJ.out _ _ hgrow6; have HY := Lib.hid (HXX.out _ _ _ hgrow6 hown6 (fun k hk => by have e6 : g6 = k := (by simpa [Value.ownBlock] using hk); rw [← e6]; exact hnew6)); clear hown6 hgrow6 hnew6)
        | fail)) | fail
      all_goals
        go_wp2
        go_ret
        refine ⟨(HK5.out.mono fun _ e _ => .inl e).trans (HY.out.2.mono fun k e _ => .inr (HVB.out k e)), rfl, ⟨_, _, _, _, by rw [HX.out]; exact HY.out.1⟩, HP5.out.keep HY.out.2 (fun e => by have := HVB.out _ e; omega) (fun e => by have := HVB.out _ e; omega) (fun e => by have := HVB.out _ e; omega), by omega⟩
end
end Go.Proofs.YtioddclglemlmaaGreatDoor
