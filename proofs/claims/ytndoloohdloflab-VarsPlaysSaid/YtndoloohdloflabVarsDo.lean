/- One call of both stores: the answers are one, and so are the variables that they leave; conditions: texts that lie in memory. -/
import Derived.Test.YtndoloohdloflabVarsFr3
import Derived.Test.YtndoloohdloflabVarsSpe
namespace Go.Proofs.Ytndoloohdloflab
open Go.RowKit Go.Maps

/-- no value is longer than b -/
def VB (l : List Vr) (b : Nat) : Prop := ∀ x ∈ l, x.value.size ≤ b
theorem VB.mono {l : List Vr} {b c : Nat} (h : VB l b) (hc : b ≤ c) : VB l c := fun x hx => Nat.le_trans (h x hx) hc
theorem VB.put {l : List Vr} {b : Nat} (h : VB l b) {x : Vr} (hx : x.value.size ≤ b) : VB (putV l x) b := fun y hy => by
  rcases (put_mem l x y).1 hy with rfl | h1
  · exact hx
  · exact h y h1.1
theorem VB.set {l : List Vr} {b : Nat} (h : VB l b) (k v : ByteArray) (f o : Int) (hv : v.size ≤ b) : VB (setV l k v f o) b := by
  unfold setV; split
  · exact h.put hv
  · exact h
theorem VB.app {l : List Vr} {b : Nat} (h : VB l b) (k v : ByteArray) (o : Int) : VB (appV l k v o).2 (b + v.size + 1) := by
  unfold appV
  cases hg : getV l k with
  | none => exact (h.mono (show b ≤ b + v.size + 1 by omega)).set _ _ _ _ (by omega)
  | some x =>
    have h1 := h x (mem_get hg).1
    refine (h.mono (show b ≤ b + v.size + 1 by omega)).set _ _ _ _ ?_
    show (joinV x.value v).size ≤ _
    unfold joinV; split
    · omega
    · rw [ByteArray.size_append, ByteArray.size_append]; show x.value.size + 1 + v.size ≤ _; omega
theorem VB.del {l : List Vr} {b : Nat} (h : VB l b) (k : ByteArray) : VB (delV l k) b := fun y hy => h y ((del_mem l k y).1 hy).1
theorem VB.und {l : List Vr} {b : Nat} (h : VB l b) (k : ByteArray) (o : Int) : VB (if undefV l k o then delV l k else l) b := by
  split
  · exact h.del k
  · exact h
theorem VB.exp {l : List Vr} {b : Nat} (h : VB l b) (k : ByteArray) (how : Int) : VB (expV l k how) b := by
  unfold expV; split
  · exact h
  · split
    · rename_i v hv
      exact h.put (h v (mem_get hv).1)
    · split
      · exact h.put (Nat.zero_le _)
      · exact h
theorem Both.drewn {w : World} {p m r : Nat} {l : List Vr} (h : Both w p m r l) : Both w.drew p m r l := h.below (Below.refl _ w).drew
theorem Both.allocd {w : World} {p m r : Nat} {l : List Vr} (h : Both w p m r l) (o : Obj) : Both (w.alloc o) p m r l := h.below ((Below.refl _ w).alloc (Nat.le_refl _) o)

/-- all blocks but the two stores' own are as they were, and stay aside -/
def FrM (w w' : World) (m r : Nat) : Prop := w.heap.size ≤ w'.heap.size ∧ ∀ k, k < w.heap.size → k ≠ m → k ≠ r → rowBlk w r ≠ some k → w'.heap[k]? = w.heap[k]? ∧ rowBlk w' r ≠ some k
theorem FrM.trans {a b c : World} {m r : Nat} (h : FrM a b m r) (k : FrM b c m r) : FrM a c m r := ⟨Nat.le_trans h.1 k.1, fun j h1 h0 h2 h3 => by
  obtain ⟨e1, e2⟩ := h.2 j h1 h0 h2 h3
  obtain ⟨e3, e4⟩ := k.2 j (Nat.lt_of_lt_of_le h1 h.1) h0 h2 e2
  exact ⟨e3.trans e1, e4⟩⟩
theorem FrM.below {w w' : World} {m r : Nat} (hb : Below w.heap.size w w') (hr : r < w.heap.size) : FrM w w' m r :=
  ⟨hb.size, fun k h1 _ _ h3 => ⟨hb.block k h1, by rw [rowBlk_same (hb.block r hr)]; exact h3⟩⟩
theorem FrM.grown {w w1 w2 : World} {m r : Nat} (hg : w.grownBy w1 (some m)) (hf : Fr w1 w2 r) (hm : m ≠ r) (hr : r < w.heap.size) : FrM w w2 m r :=
  ⟨Nat.le_trans hg.size hf.1, fun k h1 h0 h2 h3 => by
    have e1 := hg.block k h1 (by intro e; cases e; exact h0 rfl)
    have e2 : rowBlk w1 r = rowBlk w r := rowBlk_same (hg.block r hr (by intro e; cases e; exact hm rfl))
    obtain ⟨e3, e4⟩ := hf.2 k (Nat.lt_of_lt_of_le h1 hg.size) h2 (by rw [e2]; exact h3)
    exact ⟨e3.trans e1, e4⟩⟩

set_option maxRecDepth 100000 in
set_option maxHeartbeats 6000000 in
theorem Do_any (w : World) (p m r : Nat) (l : List Vr) (K f o : Int) (nm v : ByteArray) (b : Nat) (hn : nm.size ≤ 140737488351232) (hv : v.size ≤ 140737488351232) (hb : b ≤ 1000000) (H : Both w p m r l) (HV : VB l b) :
    Calls Try.prog 45 #[.pointer (some ⟨p, 0, none⟩), .pointer (some ⟨r, 0, none⟩), .agg #[.int .i64 K, .string nm, .string v, .int .i64 f, .int .i64 o]] w fun e w' => e = .returned (.bool true) ∧ ∃ l', Both w' p m r l' ∧ VB l' (b + v.size + 1) ∧ (∀ B, B ≤ p → B ≤ m → Below B w w') ∧ FrM w w' m r := by
  have HB := Lib.hid fun ob => H.allocd ob
  have HBd := Lib.hid fun ob => (H.allocd ob).drewn
  have HUP := Lib.hid H.rf.up
  have HPR := Lib.hid (And.intro H.pr H.mr)
  have HPL := Lib.hid (Nat.le_of_lt H.st.box.lt)
  have HVB := Lib.hid HV
  have HRL := Lib.hid (Nat.le_of_lt H.rf.lt)
  have HRL2 := Lib.hid H.rf.lt
  have HBE := Lib.hid fun ob B (h1 : B ≤ p) => (Below.refl B w).alloc (Nat.le_trans h1 HPL.out) ob
  clear H HV
  obtain ⟨ob, hob⟩ : ∃ ob, Obj.cells #[.int .i64 K, .string nm, .string v, .int .i64 f, .int .i64 o] 62 = ob := ⟨_, rfl⟩
  have HCE : Hid (∀ w1, (w.alloc (.cells #[.int .i64 K, .string nm, .string v, .int .i64 f, .int .i64 o] 62)).drew.grownBy w1 (some m) → w1.heap[w.heap.size]? = some (.cells #[.int .i64 K, .string nm, .string v, .int .i64 f, .int .i64 o] 62 (0, 0))) := fun w1 hg => by
    have h1 := HPR.out.2
    have h2 := HRL.out
    have h3 : w.heap.size < (w.alloc (.cells #[.int .i64 K, .string nm, .string v, .int .i64 f, .int .i64 o] 62)).drew.heap.size := by show _ < (w.alloc _).heap.size; simp
    rw [hg.block w.heap.size h3 (by intro e; cases e; omega)]
    exact heap_alloc_last w _
  have HFIN : Hid (∀ B w1 w2, B ≤ p → B ≤ m → (w.alloc (.cells #[.int .i64 K, .string nm, .string v, .int .i64 f, .int .i64 o] 62)).drew.grownBy w1 (some m) → Below r w1 w2 → Below B w w2) := fun B w1 w2 h1 h2 g b => by
    have h3 := HBE.out (.cells #[.int .i64 K, .string nm, .string v, .int .i64 f, .int .i64 o] 62) B h1
    have h4 := HPL.out
    have h5 := HPR.out.1
    have h6 := h3.drew.grown g (by show B ≤ (w.alloc _).heap.size; simp; omega) (by intro k e; cases e; exact h2)
    exact h6.trans (b.mono (by omega))
  have HFRM : Hid (∀ w1 w2, (w.alloc (.cells #[.int .i64 K, .string nm, .string v, .int .i64 f, .int .i64 o] 62)).drew.grownBy w1 (some m) → Fr w1 w2 r → FrM w w2 m r) := fun w1 w2 g hf => by
    have h1 : FrM w (w.alloc (.cells #[.int .i64 K, .string nm, .string v, .int .i64 f, .int .i64 o] 62)).drew m r := FrM.below ((Below.refl _ w).alloc (Nat.le_refl _) _).drew HRL2.out
    exact h1.trans (FrM.grown g hf (by have := HPR.out.2; omega) (Nat.lt_of_lt_of_le HRL2.out h1.1))
  clear hob ob
  by_cases h0 : K.tmod 5 = 0
  · have HS := Lib.hid fun w1 f o (h : Both w1 p m r l) => Set_any w1 p m l nm v hn f o h.st
    have HR := Lib.hid fun w1 f o (h : RefAt w1 r l) => refSetF_any w1 r l nm v f o h
    go_enter Try.func45, Try.ntmps45
    go_wp2
    first | (go_region_law (first
      | (go_simp; go_at_call 38; refine (HS.out _ _ _ (HBd.out _)).mono ?_; rintro e w1 ⟨rfl, S1, g1⟩; have R1 := (HBd.out _).prog g1; have hk1 := HCE.out w1 g1; have c0 : w1.cell? ⟨w.heap.size, 0, none⟩ = some (.int .i64 K) := (by simp [World.cell?, hk1]); have c1 : w1.cell? ⟨w.heap.size, 1, none⟩ = some (.string nm) := (by simp [World.cell?, hk1]); have c2 : w1.cell? ⟨w.heap.size, 2, none⟩ = some (.string v) := (by simp [World.cell?, hk1]); have c3 : w1.cell? ⟨w.heap.size, 3, none⟩ = some (.int .i64 f) := (by simp [World.cell?, hk1]); have c4 : w1.cell? ⟨w.heap.size, 4, none⟩ = some (.int .i64 o) := (by simp [World.cell?, hk1]); have GB := Lib.hid g1; clear hk1 g1)
      | (go_simp; go_at_call 39; refine (HR.out _ _ _ R1).mono ?_; rintro e w2 ⟨rfl, R2, b2, f2⟩)
      | fail)) | fail
    all_goals
      have hend := Lib.hid (Both.ref S1 R2 HPR.out.1 HPR.out.2 b2)
      have hbe := Lib.hid fun B (h1 : B ≤ p) (h2 : B ≤ m) => HFIN.out B w1 w2 h1 h2 GB.out b2
      have hfm := Lib.hid (HFRM.out w1 w2 GB.out f2)
      clear S1 R2 b2 f2 R1 c0 c1 c2 c3 c4 GB
      go_wp2
      go_ret
      exact ⟨by first | rfl | exact ret_bool (beq_self_eq_true _), _, hend.out, (HVB.out.mono (show b ≤ b + v.size + 1 by omega)).set _ _ _ _ (by omega), hbe.out, hfm.out⟩
  by_cases h1 : K.tmod 5 = 1
  · have hva : ∀ x, getV l nm = some x → x.value.size ≤ 140737488351232 := fun x hx => by have := HVB.out x (mem_get hx).1; omega
    have HS := Lib.hid fun w1 o (h : Both w1 p m r l) => Append_any w1 p m l nm v hn hv hva o h.st
    have HR := Lib.hid fun w1 o (h : RefAt w1 r l) => refAppendF_any w1 r l nm v o hv hva h
    clear hva
    go_enter Try.func45, Try.ntmps45
    go_wp2
    first | (go_region_law (first
      | (go_simp; go_at_call 60; refine (HS.out _ _ (HBd.out _)).mono ?_; rintro e w1 ⟨rfl, S1, g1⟩; have R1 := (HBd.out _).prog g1; have hk1 := HCE.out w1 g1; have c0 : w1.cell? ⟨w.heap.size, 0, none⟩ = some (.int .i64 K) := (by simp [World.cell?, hk1]); have c1 : w1.cell? ⟨w.heap.size, 1, none⟩ = some (.string nm) := (by simp [World.cell?, hk1]); have c2 : w1.cell? ⟨w.heap.size, 2, none⟩ = some (.string v) := (by simp [World.cell?, hk1]); have c3 : w1.cell? ⟨w.heap.size, 3, none⟩ = some (.int .i64 f) := (by simp [World.cell?, hk1]); have c4 : w1.cell? ⟨w.heap.size, 4, none⟩ = some (.int .i64 o) := (by simp [World.cell?, hk1]); have GB := Lib.hid g1; clear hk1 g1)
      | (go_simp; go_at_call 72; refine (HR.out _ _ R1).mono ?_; rintro e w2 ⟨rfl, R2, b2, f2⟩)
      | fail)) | fail
    all_goals
      have hend := Lib.hid (Both.ref S1 R2 HPR.out.1 HPR.out.2 b2)
      have hbe := Lib.hid fun B (h1 : B ≤ p) (h2 : B ≤ m) => HFIN.out B w1 w2 h1 h2 GB.out b2
      have hfm := Lib.hid (HFRM.out w1 w2 GB.out f2)
      clear S1 R2 b2 f2 R1 c0 c1 c2 c3 c4 GB
      go_wp2
      go_ret
      exact ⟨by first | rfl | exact ret_bool (beq_self_eq_true _), _, hend.out, HVB.out.app _ _ _, hbe.out, hfm.out⟩
  by_cases h2 : K.tmod 5 = 2
  · have HS := Lib.hid fun w1 o (h : Both w1 p m r l) => Undefine_any w1 p m l nm hn o h.st
    have HR := Lib.hid fun w1 o (h : RefAt w1 r l) => refUndefineF_any w1 r l nm o h
    go_enter Try.func45, Try.ntmps45
    go_wp2
    first | (go_region_law (first
      | (go_simp; go_at_call 73; refine (HS.out _ _ (HBd.out _)).mono ?_; rintro e w1 ⟨rfl, S1, g1⟩; have R1 := (HBd.out _).prog g1; have hk1 := HCE.out w1 g1; have c0 : w1.cell? ⟨w.heap.size, 0, none⟩ = some (.int .i64 K) := (by simp [World.cell?, hk1]); have c1 : w1.cell? ⟨w.heap.size, 1, none⟩ = some (.string nm) := (by simp [World.cell?, hk1]); have c2 : w1.cell? ⟨w.heap.size, 2, none⟩ = some (.string v) := (by simp [World.cell?, hk1]); have c3 : w1.cell? ⟨w.heap.size, 3, none⟩ = some (.int .i64 f) := (by simp [World.cell?, hk1]); have c4 : w1.cell? ⟨w.heap.size, 4, none⟩ = some (.int .i64 o) := (by simp [World.cell?, hk1]); have GB := Lib.hid g1; clear hk1 g1)
      | (go_simp; go_at_call 74; refine (HR.out _ _ R1).mono ?_; rintro e w2 ⟨rfl, R2, b2, f2⟩)
      | fail)) | fail
    all_goals
      have hend := Lib.hid (Both.ref S1 R2 HPR.out.1 HPR.out.2 b2)
      have hbe := Lib.hid fun B (h1 : B ≤ p) (h2 : B ≤ m) => HFIN.out B w1 w2 h1 h2 GB.out b2
      have hfm := Lib.hid (HFRM.out w1 w2 GB.out f2)
      clear S1 R2 b2 f2 R1 c0 c1 c2 c3 c4 GB
      go_wp2
      go_ret
      exact ⟨by first | rfl | exact ret_bool (beq_self_eq_true _), _, hend.out, (HVB.out.und _ _).mono (by omega), hbe.out, hfm.out⟩
  by_cases h3 : K.tmod 5 = 3
  · have HE := Lib.hid fun ob => Export_any (w.alloc ob) p m l nm hn f HUP.out (HB.out ob).st
    have HR := Lib.hid fun w1 (h : RefAt w1 r l) => refExportF_any w1 r l nm f h
    have HBg := Lib.hid fun ob w1 (g : (w.alloc ob).grownBy w1 (some m)) => (HB.out ob).prog g
    have HCE2 : Hid (∀ w1, (w.alloc (.cells #[.int .i64 K, .string nm, .string v, .int .i64 f, .int .i64 o] 62)).grownBy w1 (some m) → w1.heap[w.heap.size]? = some (.cells #[.int .i64 K, .string nm, .string v, .int .i64 f, .int .i64 o] 62 (0, 0))) := fun w1 hg => HCE.out w1 ⟨hg.os, hg.tape, hg.output, hg.size, hg.block⟩
    have HFRM2 : Hid (∀ w1 w2, (w.alloc (.cells #[.int .i64 K, .string nm, .string v, .int .i64 f, .int .i64 o] 62)).grownBy w1 (some m) → Fr w1 w2 r → FrM w w2 m r) := fun w1 w2 g hf => HFRM.out w1 w2 ⟨g.os, g.tape, g.output, g.size, g.block⟩ hf
    have HFIN2 : Hid (∀ B w1 w2, B ≤ p → B ≤ m → (w.alloc (.cells #[.int .i64 K, .string nm, .string v, .int .i64 f, .int .i64 o] 62)).grownBy w1 (some m) → Below r w1 w2 → Below B w w2) := fun B w1 w2 h1 h2 g b => HFIN.out B w1 w2 h1 h2 ⟨g.os, g.tape, g.output, g.size, g.block⟩ b
    go_enter Try.func45, Try.ntmps45
    go_wp2_with (first
      | (go_at_call 75; refine (HE.out _).mono ?_; rintro e w1 ⟨rfl, S1, g1⟩; have R1 := HBg.out _ _ g1; have hk1 := HCE2.out w1 g1; have c0 : w1.cell? ⟨w.heap.size, 0, none⟩ = some (.int .i64 K) := (by simp [World.cell?, hk1]); have c1 : w1.cell? ⟨w.heap.size, 1, none⟩ = some (.string nm) := (by simp [World.cell?, hk1]); have c2 : w1.cell? ⟨w.heap.size, 2, none⟩ = some (.string v) := (by simp [World.cell?, hk1]); have c3 : w1.cell? ⟨w.heap.size, 3, none⟩ = some (.int .i64 f) := (by simp [World.cell?, hk1]); have c4 : w1.cell? ⟨w.heap.size, 4, none⟩ = some (.int .i64 o) := (by simp [World.cell?, hk1]); have GB := Lib.hid g1; clear hk1 g1)
      | (go_at_call 76; refine (HR.out _ R1).mono ?_; rintro e w2 ⟨rfl, R2, b2, f2⟩))
    go_ret
    exact ⟨rfl, _, Both.ref S1 R2 HPR.out.1 HPR.out.2 b2, (HVB.out.exp _ _).mono (by omega), fun B h1 h2 => HFIN2.out B w1 w2 h1 h2 GB.out b2, HFRM2.out w1 w2 GB.out f2⟩
  · go_enter Try.func45, Try.ntmps45
    go_wp2
    go_ret
    exact ⟨rfl, l, HB.out _, HVB.out.mono (by omega), fun B h1 h2 => HBE.out _ B h1, FrM.below ((Below.refl _ w).alloc (Nat.le_refl _) _) HRL2.out⟩
end Go.Proofs.Ytndoloohdloflab
