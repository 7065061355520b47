/- The tokens of a text, or why it has none, as package lex tells them; conditions: a text of at most 65,536 bytes, the library's one number in its cell. -/
import Derived.Test.YtioddclglemlmaaGreatDoorLexE
import Derived.Deep.WholeRow
namespace Go.Proofs.YtioddclglemlmaaGreatDoor
open Go.RowKit

/-- where the states stand -/
inductive StR (s : ByteArray) (f : Nat) (R : Except Int (List (Int × ByteArray))) (i : Nat) (out : List (Int × ByteArray)) : Value → Prop where
  | between : s.size < f + i → out.length ≤ 5000 → lexF s f i out = R → StR s f R i out (fnV 25)
  | comment : i < s.size → s.get! i = 35 → s.size < f + (i + 1) → out.length ≤ 5000 → lexF s f (comF s (s.size + 1) i) out = R → StR s f R i out (fnV 37)
  | oper : i < s.size → s.size < f + (i + 1) → out.length ≤ 5000 → addT (lexF s f (opT s i).2) out (2, (opT s i).1) = R → StR s f R i out (fnV 38)
  | word : i < s.size → stopB (s.get! i) = false → s.size < f + (i + 1) → out.length ≤ 5000 → wordR s (lexF s f) i out = R → StR s f R i out (fnV 39)
  | done : R = .ok out → StR s f R i out .nilFunc
def rankV : Value → Nat
  | .func (.func 25) _ _ => 2
  | .nilFunc => 0
  | _ => 1
def TkA (base : Nat) (R : Except Int (List (Int × ByteArray))) (e : Ending) (W' : World) : Prop := match R with
  | .error n => e = .returned (.tuple #[.slice none 0 0, .int .i64 n])
  | .ok out => ∃ vt, e = .returned (.tuple #[vt, .int .i64 0]) ∧ OwnG W' base 116 2 vt out.length (tokV out)
theorem btw2 {c : UInt8} (h : btw c = 2) : c = 35 := by
  unfold btw at h
  split at h
  · cases h
  · split at h
    · cases h
    · split at h
      · assumption
      · split at h <;> cases h

theorem run_eqin_fn (d g : Nat) (w : World) : (Op.equalIn (d + 1) 81 (.func (.func g) #[] #[]) .nilFunc).run Tryz.prog w = .ok false w := by
  simp [Op.equalIn, run_underlying Tryz.underlying81]
theorem run_eqin_nil (d : Nat) (w : World) : (Op.equalIn (d + 1) 81 .nilFunc .nilFunc).run Tryz.prog w = .ok true w := by
  simp [Op.equalIn, run_underlying Tryz.underlying81]
theorem run_neq_fn (g : Nat) (w : World) : (binOp .neq 81 (.func (.func g) #[] #[]) .nilFunc).run Tryz.prog w = .ok (.bool true) w := by
  simp only [binOp]
  simp [show Op.equal 81 (.func (.func g) #[] #[]) .nilFunc = Op.equalIn (9999 + 1) 81 (.func (.func g) #[] #[]) .nilFunc from rfl, run_eqin_fn 9999 g w]
theorem run_neq_nil (w : World) : (binOp .neq 81 .nilFunc .nilFunc).run Tryz.prog w = .ok (.bool false) w := by
  simp only [binOp]
  simp [show Op.equal 81 .nilFunc .nilFunc = Op.equalIn (9999 + 1) 81 .nilFunc .nilFunc from rfl, run_eqin_nil 9999 w]

theorem pan_cell {w : World} {b : Nat} {o : Obj} {x : Int} (hk : w.heap[b]? = some (.cells #[.int .i64 x] 29 (0, 0))) (n : Int) : ((w.alloc o).setCell ⟨b, 0, none⟩ (.int .i64 n)).cell? ⟨b, 0, none⟩ = some (.int .i64 n) := by
  have h1 : (w.alloc o).heap[b]? = some (.cells #[.int .i64 x] 29 (0, 0)) := (Below.heap_alloc _ _ _ (lt_of_block hk)).trans hk
  have h2 := heap_setCell_same _ b 0 _ 29 (.int .i64 n) h1
  exact (rowc h2 (j := 0) rfl).1

set_option maxRecDepth 100000 in
set_option maxHeartbeats 4000000 in
theorem tokens_any (s : ByteArray) (w : World) (hs : s.size ≤ 70000) :
    Calls Tryz.prog 16 #[.string s] w fun e w' => TkA w.heap.size (lexF s (s.size + 1) 0 []) e w' ∧ Below w.heap.size w w' := by
  obtain ⟨R, hR⟩ : ∃ R, lexF s (s.size + 1) 0 [] = R := ⟨_, rfl⟩
  rw [hR]
  have HR := Lib.hid hR
  have NF : ∀ g w, (binOp .neq 81 (.func (.func g) #[] #[]) .nilFunc).run Tryz.prog w = .ok (.bool true) w := run_neq_fn
  have NN := run_neq_nil
  clear hR
  go_enter_defers Tryz.func16, Tryz.ntmps16
  go_wp2
  obtain ⟨xb, hxb⟩ : ∃ xb, w.heap.size + 1 = xb := ⟨_, rfl⟩
  rw [hxb]
  obtain ⟨w2, hw2⟩ : ∃ w2, (w.alloc (.cells #[.int .i64 0] 29)).alloc (.cells #[.string s, .int .i64 0, .slice none 0 0, .slice none 0 0, .slice none 0 0] 79) = w2 := ⟨_, rfl⟩
  rw [hw2]
  have hbx : Below w.heap.size w w2 := by rw [← hw2]; exact ((Below.refl _ w).alloc (Nat.le_refl _) _).alloc (by simp) _
  have hs2 : w2.heap.size = w.heap.size + 2 := by rw [← hw2]; simp
  have hrx : w2.heap[xb]? = some (.cells (LxRow s 0 (.slice none 0 0) (.slice none 0 0) (.slice none 0 0)) 79 (0, 0)) := by
    rw [← hw2, ← hxb]
    have := heap_alloc_last (w.alloc (.cells #[.int .i64 0] 29)) (.cells #[.string s, .int .i64 0, .slice none 0 0, .slice none 0 0, .slice none 0 0] 79)
    simpa [LxRow] using this
  have hre : w2.heap[w.heap.size]? = some (.cells #[.int .i64 0] 29 (0, 0)) := by
    rw [← hw2, Below.heap_alloc _ _ _ (by simp)]; exact heap_alloc_last w _
  have hx2 : LxAt w2 xb s ⟨0, [], [], []⟩ := ⟨⟨Nat.zero_le _, Nat.zero_le _, Nat.zero_le _, Nat.zero_le _⟩, _, _, _, hrx, OwnG.nil _ _ _ _, OwnG.nil _ _ _ _, OwnG.nil _ _ _ _, fun k hk => by simp [Value.ownBlock] at hk⟩
  have HX2 := Lib.hid hx2
  have HE := Lib.hid hre
  have HBX := Lib.hid hbx
  clear hw2 hrx hre hx2 hbx
  go_loopw [5] (fun v wi => ∃ (f i : Nat) (wd : List UInt8) (out : List (Int × ByteArray)), LxAt wi xb s ⟨i, wd, [], out⟩ ∧ Below xb w2 wi ∧ Hid (StR s f R i out v)) (fun v wi => 3 * (s.size - iOf wi xb) + rankV v)
  case atStart => exact ⟨s.size + 1, 0, [], [], HX2.out, Below.refl _ _, .between (by omega) (Nat.zero_le _) HR.out⟩
  case round =>
    obtain ⟨f, i, wd, out, hx, hb, hr⟩ := hrel
    have HX := Lib.hid hx
    have HB := Lib.hid hb
    have hm : iOf wr xb = i := iOf_at hx
    have HM := Lib.hid hm
    clear hx hb hm
    rcases hr.out with ⟨g1, g2, g3⟩ | ⟨g0, gc, g1, g2, g3⟩ | ⟨g0, g1, g2, g3⟩ | ⟨g0, gs, g1, g2, g3⟩ | ⟨g0⟩
    · obtain ⟨f, rfl⟩ : ∃ g, f = g + 1 := ⟨f - 1, by have := HX.out.1.2.1; simp only at this; omega⟩
      rw [lexF] at g3
      unfold fnV
      by_cases hlt : i < s.size
      · rw [if_pos hlt] at g3
        obtain ⟨kk, hkk⟩ : ∃ kk, btw (s.get! i) = kk := ⟨_, rfl⟩
        rw [hkk] at g3
        have G3 := Lib.hid g3
        have HKK := Lib.hid hkk
        have HBI := between_in xb s ⟨i, wd, [], out⟩ wr HX.out hs hlt g2
        rw [show btw (s.get! (LxS.i ⟨i, wd, [], out⟩)) = kk from hkk] at HBI
        have HBI := Lib.hid HBI
        clear g3 hr hkk
        go_wp2_with fail
        refine HBI.out.mono ?_
        rintro e wz ⟨ha, hbz⟩
        have HBZ := Lib.hid (HB.out.trans hbz)
        clear hbz HBI
        match kk, ha, HKK, G3 with
        | 0, ha, HKK, G3 =>
          obtain ⟨rfl, hxz⟩ := ha
          unfold fnV
          have HMZ := Lib.hid (show iOf wz xb = (i + 1) from iOf_at hxz)
          have HXZ := Lib.hid (show LxAt wz xb s ⟨(i + 1), _, [], out⟩ from hxz)
          have HSZ : Hid (StR s f R (i + 1) out (fnV 25)) := StR.between (by omega) g2 G3.out
          clear hxz
          go_wp2
          exact ⟨⟨f, (i + 1), _, out, HXZ.out, HBZ.out, HSZ.out⟩, by rw [HM.out, HMZ.out]; simp only [rankV]; omega⟩
        | 1, ha, HKK, G3 =>
          rcases ha with ⟨h5, rfl⟩ | ⟨h5, rfl, hxz⟩
          · have hRR : Except.error 2 = R := by rw [← G3.out]; show _ = addT _ _ _; unfold addT; rw [if_pos (show out.length = 5000 from h5)]
            subst hRR
            clear h5
            have hle := HBZ.out.size
            have hlt8 : w.heap.size < wz.heap.size := by omega
            have hk8 : wz.heap[w.heap.size]? = some (.cells #[.int .i64 0] 29 (0, 0)) := (HBZ.out.block _ (by omega)).trans HE.out
            go_wp2
            refine leaves_cons (f := 24) (args := #[.pointer (some ⟨w.heap.size, 0, none⟩)]) (by simp) (by simp [go_sem]) ?_
            refine (caught_panicking ⟨w.heap.size, 0, none⟩ 0 _ [] _ hlt8 (rowc hk8 (j := 0) rfl).1 (rowc hk8 (j := 0) rfl).2).mono ?_
            rintro ec uc wc ⟨rfl, rfl, hwc⟩
            have hc9 : wc.cell? ⟨w.heap.size, 0, none⟩ = some (.int .i64 2) := by rw [hwc]; exact pan_cell hk8 2
            have HB9 := Lib.hid (show Below w.heap.size w wc from by rw [hwc]; exact (((HBX.out.trans (HBZ.out.mono (by omega))).alloc (by omega) _).setCell (p := ⟨w.heap.size, 0, none⟩) (Nat.le_refl _) _))
            clear hwc hk8
            simp [Leaves, settle, results, Tryz.results16, go_sem, hc9]
            exact ⟨rfl, HB9.out⟩
          · have hRR : lexF s f (i + 1) (out ++ [((3 : Int), (⟨#[10]⟩ : ByteArray))]) = R := by rw [← G3.out]; show _ = addT _ _ _; unfold addT; rw [if_neg (Nat.ne_of_lt (show out.length < 5000 from h5))]
            have hol : (out ++ [((3 : Int), (⟨#[10]⟩ : ByteArray))]).length ≤ 5000 := by have : out.length < 5000 := h5; simp; omega
            have hRR := Lib.hid hRR
            clear h5
            unfold fnV
            have HMZ := Lib.hid (show iOf wz xb = (i + 1) from iOf_at hxz)
            have HXZ := Lib.hid (show LxAt wz xb s ⟨(i + 1), _, [], (out ++ [((3 : Int), (⟨#[10]⟩ : ByteArray))])⟩ from hxz)
            have HSZ : Hid (StR s f R (i + 1) (out ++ [((3 : Int), (⟨#[10]⟩ : ByteArray))]) (fnV 25)) := StR.between (by omega) hol hRR.out
            clear hxz
            go_wp2
            exact ⟨⟨f, (i + 1), _, (out ++ [((3 : Int), (⟨#[10]⟩ : ByteArray))]), HXZ.out, HBZ.out, HSZ.out⟩, by rw [HM.out, HMZ.out]; simp only [rankV]; omega⟩
        | 2, ha, HKK, G3 =>
          obtain ⟨rfl, hxz⟩ := ha
          unfold fnV
          have HMZ := Lib.hid (show iOf wz xb = i from iOf_at hxz)
          have HXZ := Lib.hid (show LxAt wz xb s ⟨i, _, [], out⟩ from hxz)
          have HSZ : Hid (StR s f R i out (fnV 37)) := StR.comment hlt (btw2 HKK.out) (by omega) g2 G3.out
          clear hxz
          go_wp2
          exact ⟨⟨f, i, _, out, HXZ.out, HBZ.out, HSZ.out⟩, by rw [HM.out, HMZ.out]; simp only [rankV]; omega⟩
        | 3, ha, HKK, G3 =>
          obtain ⟨rfl, hxz⟩ := ha
          unfold fnV
          have HMZ := Lib.hid (show iOf wz xb = i from iOf_at hxz)
          have HXZ := Lib.hid (show LxAt wz xb s ⟨i, _, [], out⟩ from hxz)
          have HSZ : Hid (StR s f R i out (fnV 38)) := StR.oper hlt (by omega) g2 G3.out
          clear hxz
          go_wp2
          exact ⟨⟨f, i, _, out, HXZ.out, HBZ.out, HSZ.out⟩, by rw [HM.out, HMZ.out]; simp only [rankV]; omega⟩
        | n + 4, ha, HKK, G3 =>
          obtain ⟨rfl, hxz⟩ := ha
          have hstop : stopB (s.get! i) = false := btw_stop (by rw [HKK.out]; omega) (by rw [HKK.out]; omega) (by rw [HKK.out]; omega) (by rw [HKK.out]; omega)
          unfold fnV
          have HMZ := Lib.hid (show iOf wz xb = i from iOf_at hxz)
          have HXZ := Lib.hid (show LxAt wz xb s ⟨i, _, [], out⟩ from hxz)
          have HSZ : Hid (StR s f R i out (fnV 39)) := StR.word hlt hstop (by omega) g2 G3.out
          clear hxz
          go_wp2
          exact ⟨⟨f, i, _, out, HXZ.out, HBZ.out, HSZ.out⟩, by rw [HM.out, HMZ.out]; simp only [rankV]; omega⟩
      · rw [if_neg hlt] at g3
        have G3 := Lib.hid g3
        clear g3 hr
        go_wp2_with fail
        refine (between_end xb s ⟨i, wd, [], out⟩ wr HX.out hlt g2).mono ?_
        rintro e wz ⟨ha, hbz⟩
        have HBZ := Lib.hid (HB.out.trans hbz)
        clear hbz
        rcases ha with ⟨h5, rfl⟩ | ⟨h5, rfl, hxz⟩
        · have hRR : Except.error 2 = R := by rw [← G3.out]; unfold addT; rw [if_pos (show out.length = 5000 from h5)]
          subst hRR
          clear h5
          have hle := HBZ.out.size
          have hlt8 : w.heap.size < wz.heap.size := by omega
          have hk8 : wz.heap[w.heap.size]? = some (.cells #[.int .i64 0] 29 (0, 0)) := (HBZ.out.block _ (by omega)).trans HE.out
          go_wp2
          refine leaves_cons (f := 24) (args := #[.pointer (some ⟨w.heap.size, 0, none⟩)]) (by simp) (by simp [go_sem]) ?_
          refine (caught_panicking ⟨w.heap.size, 0, none⟩ 0 _ [] _ hlt8 (rowc hk8 (j := 0) rfl).1 (rowc hk8 (j := 0) rfl).2).mono ?_
          rintro ec uc wc ⟨rfl, rfl, hwc⟩
          have hc9 : wc.cell? ⟨w.heap.size, 0, none⟩ = some (.int .i64 2) := by rw [hwc]; exact pan_cell hk8 2
          have HB9 := Lib.hid (show Below w.heap.size w wc from by rw [hwc]; exact (((HBX.out.trans (HBZ.out.mono (by omega))).alloc (by omega) _).setCell (p := ⟨w.heap.size, 0, none⟩) (Nat.le_refl _) _))
          clear hwc hk8
          simp [Leaves, settle, results, Tryz.results16, go_sem, hc9]
          exact ⟨rfl, HB9.out⟩
        · have hRR : R = Except.ok (out ++ [((4 : Int), (⟨#[]⟩ : ByteArray))]) := by rw [← G3.out]; unfold addT; rw [if_neg (Nat.ne_of_lt (show out.length < 5000 from h5))]
          have hRR := Lib.hid hRR
          clear h5
          have HMZ := Lib.hid (show iOf wz xb = i from iOf_at hxz)
          have HXZ := Lib.hid (show LxAt wz xb s ⟨i, _, [], (out ++ [((4 : Int), (⟨#[]⟩ : ByteArray))])⟩ from hxz)
          have HSZ : Hid (StR s f R i (out ++ [((4 : Int), (⟨#[]⟩ : ByteArray))]) .nilFunc) := StR.done hRR.out
          clear hxz
          go_wp2
          exact ⟨⟨f, i, _, (out ++ [((4 : Int), (⟨#[]⟩ : ByteArray))]), HXZ.out, HBZ.out, HSZ.out⟩, by rw [HM.out, HMZ.out]; simp only [rankV]; omega⟩
    · have G3 := Lib.hid g3
      have hcom := com_ge s (s.size + 1) i (by omega)
      have hcom1 : i + 1 ≤ comF s (s.size + 1) i := by
        rw [comF, if_pos ⟨g0, by rw [gc]; decide⟩]
        exact (com_ge s s.size (i + 1) (by omega)).1
      have HCA := Lib.hid (comment_any xb s ⟨i, wd, [], out⟩ wr HX.out hs)
      unfold fnV
      clear g3 hr gc
      go_wp2_with fail
      refine HCA.out.mono ?_
      rintro e wz ⟨rfl, hxz, hbz⟩
      have HBZ := Lib.hid (HB.out.trans hbz)
      obtain ⟨ci, hci⟩ : ∃ ci, comF s (s.size + 1) i = ci := ⟨_, rfl⟩
      have hxz : LxAt wz xb s ⟨comF s (s.size + 1) i, wd, [], out⟩ := hxz
      have G4 := G3.out
      rw [hci] at hcom hcom1 hxz G4
      have G3 := Lib.hid G4
      clear hbz HCA hci G4
      have HMZ := Lib.hid (show iOf wz xb = ci from iOf_at hxz)
      have HXZ := Lib.hid (show LxAt wz xb s ⟨ci, _, [], out⟩ from hxz)
      have HSZ : Hid (StR s f R ci out (fnV 25)) := StR.between (by omega) g2 G3.out
      clear hxz
      go_wp2
      exact ⟨⟨f, ci, _, out, HXZ.out, HBZ.out, HSZ.out⟩, by rw [HM.out, HMZ.out]; simp only [rankV]; omega⟩
    · have G3 := Lib.hid g3
      have HCA := operator_any xb s ⟨i, wd, [], out⟩ wr HX.out hs g0 g2
      have hop := opT_gt s i g0
      obtain ⟨T, J, hT⟩ : ∃ T J, opT s i = (T, J) := ⟨_, _, rfl⟩
      have hT' : opT s (LxS.i ⟨i, wd, [], out⟩) = (T, J) := hT
      have G4 := g3
      rw [hT'] at HCA
      rw [hT] at hop G4
      simp only at HCA hop G4
      have HCA := Lib.hid HCA
      have G3 := Lib.hid G4
      unfold fnV
      clear g3 hr G4 hT hT'
      go_wp2_with fail
      refine HCA.out.mono ?_
      rintro e wz ⟨ha, hbz⟩
      have HBZ := Lib.hid (HB.out.trans hbz)
      clear hbz HCA
      rcases ha with ⟨h5, rfl⟩ | ⟨h5, rfl, hxz⟩
      · have hRR : Except.error 2 = R := by rw [← G3.out]; unfold addT; rw [if_pos (show out.length = 5000 from h5)]
        subst hRR
        clear h5
        have hle := HBZ.out.size
        have hlt8 : w.heap.size < wz.heap.size := by omega
        have hk8 : wz.heap[w.heap.size]? = some (.cells #[.int .i64 0] 29 (0, 0)) := (HBZ.out.block _ (by omega)).trans HE.out
        go_wp2
        refine leaves_cons (f := 24) (args := #[.pointer (some ⟨w.heap.size, 0, none⟩)]) (by simp) (by simp [go_sem]) ?_
        refine (caught_panicking ⟨w.heap.size, 0, none⟩ 0 _ [] _ hlt8 (rowc hk8 (j := 0) rfl).1 (rowc hk8 (j := 0) rfl).2).mono ?_
        rintro ec uc wc ⟨rfl, rfl, hwc⟩
        have hc9 : wc.cell? ⟨w.heap.size, 0, none⟩ = some (.int .i64 2) := by rw [hwc]; exact pan_cell hk8 2
        have HB9 := Lib.hid (show Below w.heap.size w wc from by rw [hwc]; exact (((HBX.out.trans (HBZ.out.mono (by omega))).alloc (by omega) _).setCell (p := ⟨w.heap.size, 0, none⟩) (Nat.le_refl _) _))
        clear hwc hk8
        simp [Leaves, settle, results, Tryz.results16, go_sem, hc9]
        exact ⟨rfl, HB9.out⟩
      · have hRR : lexF s f J (out ++ [(2, T)]) = R := by rw [← G3.out]; unfold addT; rw [if_neg (Nat.ne_of_lt (show out.length < 5000 from h5))]
        have hol : (out ++ [((2 : Int), T)]).length ≤ 5000 := by have : out.length < 5000 := h5; simp; omega
        have hRR := Lib.hid hRR
        clear h5
        have HMZ := Lib.hid (show iOf wz xb = J from iOf_at hxz)
        have HXZ := Lib.hid (show LxAt wz xb s ⟨J, _, [], (out ++ [(2, T)])⟩ from hxz)
        have HSZ : Hid (StR s f R J (out ++ [(2, T)]) (fnV 25)) := StR.between (by omega) hol hRR.out
        clear hxz
        go_wp2
        exact ⟨⟨f, J, _, (out ++ [(2, T)]), HXZ.out, HBZ.out, HSZ.out⟩, by rw [HM.out, HMZ.out]; simp only [rankV]; omega⟩
    · have HCA := lword_any xb s ⟨i, wd, [], out⟩ wr HX.out hs g0 gs rfl g2
      obtain ⟨rw_, hrw⟩ : ∃ r, wordF s (s.size + 1) i = r := ⟨_, rfl⟩
      rw [show wordF s (s.size + 1) (LxS.i ⟨i, wd, [], out⟩) = rw_ from hrw] at HCA
      have G4 := g3
      unfold wordR at G4
      rw [hrw] at G4
      have hwg : ∀ j, rw_ = .ok j → i + 1 ≤ j ∧ j ≤ s.size := fun j e => by
        have h1 := hrw.trans e
        rw [wordF, if_pos ⟨g0, gs⟩] at h1
        split at h1
        · cases h1
        · rename_i k hk
          have h2 := quo_ge s _ (with_ge s _) _ _ _ _ _ (by omega) hk
          have h3 := word_ge s _ _ _ h2.2 h1
          omega
      have HCA := Lib.hid HCA
      have G3 := Lib.hid G4
      have HWG := Lib.hid hwg
      unfold fnV
      clear g3 hr G4 hrw hwg gs
      go_wp2_with fail
      refine HCA.out.mono ?_
      rintro e wz ⟨ha, hbz⟩
      have HBZ := Lib.hid (HB.out.trans hbz)
      clear hbz HCA
      cases rw_ with
      | error n =>
        obtain rfl : e = .panicked (stopV n) := ha
        have hRR : Except.error n = R := G3.out
        subst hRR
        have hle := HBZ.out.size
        have hlt8 : w.heap.size < wz.heap.size := by omega
        have hk8 : wz.heap[w.heap.size]? = some (.cells #[.int .i64 0] 29 (0, 0)) := (HBZ.out.block _ (by omega)).trans HE.out
        go_wp2
        refine leaves_cons (f := 24) (args := #[.pointer (some ⟨w.heap.size, 0, none⟩)]) (by simp) (by simp [go_sem]) ?_
        refine (caught_panicking ⟨w.heap.size, 0, none⟩ 0 _ [] _ hlt8 (rowc hk8 (j := 0) rfl).1 (rowc hk8 (j := 0) rfl).2).mono ?_
        rintro ec uc wc ⟨rfl, rfl, hwc⟩
        have hc9 : wc.cell? ⟨w.heap.size, 0, none⟩ = some (.int .i64 n) := by rw [hwc]; exact pan_cell hk8 n
        have HB9 := Lib.hid (show Below w.heap.size w wc from by rw [hwc]; exact (((HBX.out.trans (HBZ.out.mono (by omega))).alloc (by omega) _).setCell (p := ⟨w.heap.size, 0, none⟩) (Nat.le_refl _) _))
        clear hwc hk8
        simp [Leaves, settle, results, Tryz.results16, go_sem, hc9]
        exact ⟨rfl, HB9.out⟩
      | ok J =>
        have hJ := HWG.out J rfl
        have ha' : out.length = 5000 ∧ e = .panicked (stopV 2) ∨ out.length < 5000 ∧ e = .returned (fnV 25) ∧ LxAt wz xb s ⟨J, sl s i J, [], out ++ [(1, mk (sl s i J))]⟩ := ha
        rcases ha' with ⟨h5, rfl⟩ | ⟨h5, rfl, hxz⟩
        · have hRR : Except.error 2 = R := by rw [← G3.out]; show _ = addT _ _ _; unfold addT; rw [if_pos h5]
          subst hRR
          clear h5
          have hle := HBZ.out.size
          have hlt8 : w.heap.size < wz.heap.size := by omega
          have hk8 : wz.heap[w.heap.size]? = some (.cells #[.int .i64 0] 29 (0, 0)) := (HBZ.out.block _ (by omega)).trans HE.out
          go_wp2
          refine leaves_cons (f := 24) (args := #[.pointer (some ⟨w.heap.size, 0, none⟩)]) (by simp) (by simp [go_sem]) ?_
          refine (caught_panicking ⟨w.heap.size, 0, none⟩ 0 _ [] _ hlt8 (rowc hk8 (j := 0) rfl).1 (rowc hk8 (j := 0) rfl).2).mono ?_
          rintro ec uc wc ⟨rfl, rfl, hwc⟩
          have hc9 : wc.cell? ⟨w.heap.size, 0, none⟩ = some (.int .i64 2) := by rw [hwc]; exact pan_cell hk8 2
          have HB9 := Lib.hid (show Below w.heap.size w wc from by rw [hwc]; exact (((HBX.out.trans (HBZ.out.mono (by omega))).alloc (by omega) _).setCell (p := ⟨w.heap.size, 0, none⟩) (Nat.le_refl _) _))
          clear hwc hk8
          simp [Leaves, settle, results, Tryz.results16, go_sem, hc9]
          exact ⟨rfl, HB9.out⟩
        · have hRR : lexF s f J (out ++ [(1, mk (sl s i J))]) = R := by rw [← G3.out]; show _ = addT _ _ _; unfold addT; rw [if_neg (Nat.ne_of_lt h5)]
          have hol : (out ++ [((1 : Int), mk (sl s i J))]).length ≤ 5000 := by simp; omega
          have hRR := Lib.hid hRR
          clear h5
          unfold fnV
          have HMZ := Lib.hid (show iOf wz xb = J from iOf_at hxz)
          have HXZ := Lib.hid (show LxAt wz xb s ⟨J, _, [], (out ++ [(1, mk (sl s i J))])⟩ from hxz)
          have HSZ : Hid (StR s f R J (out ++ [(1, mk (sl s i J))]) (fnV 25)) := StR.between (by omega) hol hRR.out
          clear hxz
          go_wp2
          exact ⟨⟨f, J, _, (out ++ [(1, mk (sl s i J))]), HXZ.out, HBZ.out, HSZ.out⟩, by rw [HM.out, HMZ.out]; simp only [rankV]; omega⟩
    · subst g0
      obtain ⟨hfz, vw, vo, vt, h1, h2, h3, h4, h5⟩ := HX.out
      obtain ⟨c0, c1, c2, c3, c4, f0, f1, f2, f3, f4⟩ := lx_row h1
      have hle := HB.out.size
      have hk8 : wr.heap[w.heap.size]? = some (.cells #[.int .i64 0] 29 (0, 0)) := (HB.out.block _ (by omega)).trans HE.out
      obtain ⟨e0, ef0⟩ := rowc hk8 (j := 0) (v := .int .i64 0) rfl
      have HO9 := Lib.hid (show OwnG (wr.setCell ⟨w.heap.size, 0, none⟩ (.int .i64 0)) w.heap.size 116 2 vt out.length (tokV out) from
        (h4.move fun k hk => Below.heap_setCell _ _ _ _ (by have := (h4.block_lt k hk).1; show k ≠ w.heap.size; omega)).lower (by omega))
      have HB9 := Lib.hid ((HBX.out.trans (HB.out.mono (by omega))).setCell (p := ⟨w.heap.size, 0, none⟩) (Nat.le_refl _) (.int .i64 0))
      have hcell : (wr.setCell ⟨w.heap.size, 0, none⟩ (.int .i64 0)).cell? ⟨w.heap.size, 0, none⟩ = some (.int .i64 0) := (rowc (heap_setCell_same _ _ 0 _ 29 (.int .i64 0) hk8) (j := 0) rfl).1
      clear h1 h2 h3 h4 h5 hfz hr hk8
      go_wp2
      refine leaves_cons (f := 24) (args := #[.pointer (some ⟨w.heap.size, 0, none⟩)]) (by simp) (by simp [go_sem]) ?_
      refine (caught_idle ⟨w.heap.size, 0, none⟩ _).mono ?_
      rintro ec uc wc ⟨rfl, rfl, rfl⟩
      simp [Leaves, settle, results, Tryz.results16, go_sem, hcell]
      exact ⟨⟨vt, rfl, HO9.out⟩, HB9.out⟩
end Go.Proofs.YtioddclglemlmaaGreatDoor
