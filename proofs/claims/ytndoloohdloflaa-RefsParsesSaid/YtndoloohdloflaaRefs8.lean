/- The part that stands within a reference, in package refs; condition: texts of at most a million bytes. -/
import Derived.Test.YtndoloohdloflaaRefs7
import Derived.Deep.MidRow
import Derived.Deep.RegionLaw
namespace Go.Proofs.Ytndoloohdloflaa
open Go.RowKit

def szOf : Value → Nat
  | .string r => r.size
  | _ => 0
def curF : Option Nat → ByteArray × Int × Int
  | none => (⟨#[]⟩, 0, 0)
  | some j => fAt j
def updK (s : ByteArray) (k : Nat) (b : Option Nat) : Bool := decide ((curF b).1.size < (fAt k).1.size) && (decide ((fAt k).1.size < s.size) && (Lib.hasPrefix s.data.toList (fAt k).1.data.toList && isB (s.get! (fAt k).1.size)))
def bestK (s : ByteArray) : Nat → Option Nat
  | 0 => none
  | k + 1 => if updK s k (bestK s k) then some k else bestK s k
theorem fAt_34 : (fAt 34).1.size = 0 := by kernel_rfl
theorem fAt_pos (k : Nat) (h : k < 34) : 0 < (fAt k).1.size := by
  have : ∀ k : Fin 34, 0 < (fAt k.1).1.size := by decide +kernel
  exact this ⟨k, h⟩
theorem fAt_le (k : Nat) : (fAt k).1.size ≤ 12 := by
  by_cases h : k < 35
  · have : ∀ k : Fin 35, (fAt k.1).1.size ≤ 12 := by decide +kernel
    exact this ⟨k, h⟩
  · have : fAt k = (⟨#[]⟩, 0, 0) := by
      unfold fAt
      rw [List.getD_eq_getElem?_getD, List.getElem?_eq_none (by have : (funL ++ [((⟨#[]⟩ : ByteArray), (0 : Int), (0 : Int))]).length = 35 := by kernel_rfl
                                                                omega)]
      rfl
    rw [this]; decide
def leftB (s : ByteArray) : ByteArray := mk (s.data.toList.dropWhile isB)
def partOf (s : ByteArray) : Option Nat → Int × ByteArray × ByteArray × List ByteArray
  | none => (2, s, ⟨#[]⟩, [])
  | some j => (3, ⟨#[]⟩, (fAt j).1, cutI (fAt j).2.2 (leftB (s.extract (fAt j).1.size s.size)))
/-- kind, text, name, arguments -/
def withinP (s : ByteArray) : Int × ByteArray × ByteArray × List ByteArray := partOf s (bestK s 35)
theorem cells3 {w : World} {b : Nat} {x y z : Value} {t : TypeId} (h : w.heap[b]? = some (.cells #[x, y, z] t (0, 0))) : w.cell? ⟨b, 0, none⟩ = some x ∧ w.cell? ⟨b, 1, none⟩ = some y ∧ w.cell? ⟨b, 2, none⟩ = some z ∧ w.frozen? ⟨b, 0, none⟩ = false ∧ w.frozen? ⟨b, 1, none⟩ = false ∧ w.frozen? ⟨b, 2, none⟩ = false := by
  simp [World.cell?, World.frozen?, h]

theorem set3 {w : World} {b : Nat} {x y z : Value} {t : TypeId} (h : w.heap[b]? = some (.cells #[x, y, z] t (0, 0))) (x' y' z' : Value) :
    (((w.setCell ⟨b, 0, none⟩ x').setCell ⟨b, 1, none⟩ y').setCell ⟨b, 2, none⟩ z').heap[b]? = some (.cells #[x', y', z'] t (0, 0)) := by
  have h1 := heap_setCell_same w b 0 _ t x' h
  have h2 := heap_setCell_same _ b 1 _ t y' h1
  have h3 := heap_setCell_same _ b 2 _ t z' h2
  simpa using h3
theorem set3_other {w : World} {b c : Nat} (h : c ≠ b) (x' y' z' : Value) :
    (((w.setCell ⟨b, 0, none⟩ x').setCell ⟨b, 1, none⟩ y').setCell ⟨b, 2, none⟩ z').heap[c]? = w.heap[c]? := by
  rw [Below.heap_setCell _ _ _ _ h, Below.heap_setCell _ _ _ _ h, Below.heap_setCell _ _ _ _ h]
theorem set3_below {B b : Nat} {w0 w : World} (h : Below B w0 w) (hb : B ≤ b) (x' y' z' : Value) :
    Below B w0 (((w.setCell ⟨b, 0, none⟩ x').setCell ⟨b, 1, none⟩ y').setCell ⟨b, 2, none⟩ z') :=
  ((h.setCell (p := ⟨b, 0, none⟩) hb _).setCell (p := ⟨b, 1, none⟩) hb _).setCell (p := ⟨b, 2, none⟩) hb _
theorem best_in (s : ByteArray) : ∀ k j, k ≤ 35 → bestK s k = some j → j < 34 ∧ (fAt j).1.size < s.size
  | 0, j, _, h => by cases h
  | k + 1, j, hk, h => by
    rw [bestK] at h
    split at h
    · rename_i hu
      cases h
      simp only [updK, Bool.and_eq_true, decide_eq_true_eq] at hu
      refine ⟨?_, hu.2.1⟩
      rcases Nat.lt_or_ge k 34 with h1 | h1
      · exact h1
      · have e : k = 34 := by omega
        subst e
        have := fAt_34; omega
    · exact best_in s k j (by omega) h
theorem left_step (s : ByteArray) (m : Nat) (h : m < s.size) : leftB (s.extract m s.size) = if isB (s.get! m) then leftB (s.extract (m + 1) s.size) else s.extract m s.size := by
  have e1 : (s.extract m s.size).data.toList = s[m] :: (s.extract (m + 1) s.size).data.toList := by
    rw [extract_list, extract_list, List.take_of_length_le (by simp), List.drop_eq_getElem_cons (by simpa using h), get_list' s m h]
  unfold leftB
  rw [e1, List.dropWhile_cons, bget s m h]
  split
  · rfl
  · rw [← bget s m h, ← e1]; rfl
theorem left0 (r : ByteArray) (h : 0 < r.size) : leftB r = if isB (r.get! 0) then leftB (r.extract 1 r.size) else r := by
  have e : r.extract 0 r.size = r := by apply ba_ext; rw [extract_list, List.drop_zero, List.take_of_length_le (by simp)]
  have := left_step r 0 h
  rw [e] at this
  exact this
theorem left_nil (r : ByteArray) (h : r.size = 0) : leftB r = r := by
  have e1 : r.data.toList = [] := List.eq_nil_of_length_eq_zero (by rw [Array.length_toList]; exact h)
  unfold leftB
  rw [e1]
  refine ba_ext ?_
  rw [e1]; rfl
theorem ne_empty {r : ByteArray} (h : 0 < r.size) : r.toList.isEmpty = false := by
  rw [ba_toList]
  cases h1 : r.data.toList with
  | nil => exfalso; have h2 : r.data.toList.length = 0 := (by rw [h1]; rfl); rw [Array.length_toList] at h2; have h3 : r.data.size = r.size := rfl; omega
  | cons _ _ => rfl
theorem left_end (s : ByteArray) : leftB (s.extract s.size s.size) = s.extract s.size s.size := by
  have e1 : (s.extract s.size s.size).data.toList = [] := by rw [extract_list]; simp
  unfold leftB
  rw [e1]
  refine ba_ext ?_
  rw [e1]; rfl

theorem load4 {W : World} {b : Nat} {x y z u : Value} (h : W.heap[b]? = some (.cells #[x, y, z, u] 44 (0, 0))) : (loadVar 44 ⟨b, 0, none⟩).run Try.prog W = .ok (.agg #[x, y, z, u]) W := by
  refine run_loadVar_mid W b 0 44 [x, y, z, u] _ (fun j v hv => ?_) Try.underlying44 rfl (by kernel_rfl)
  rw [Nat.zero_add, cell_of_row W b j _ 44 (0, 0) h]
  simpa using hv
theorem set4 {w : World} {b : Nat} {x y z u : Value} {t : TypeId} (h : w.heap[b]? = some (.cells #[x, y, z, u] t (0, 0))) (x' y' z' u' : Value) :
    ((((w.setCell ⟨b, 0, none⟩ x').setCell ⟨b, 1, none⟩ y').setCell ⟨b, 2, none⟩ z').setCell ⟨b, 3, none⟩ u').heap[b]? = some (.cells #[x', y', z', u'] t (0, 0)) := by
  have h1 := heap_setCell_same w b 0 _ t x' h
  have h2 := heap_setCell_same _ b 1 _ t y' h1
  have h3 := heap_setCell_same _ b 2 _ t z' h2
  have h4 := heap_setCell_same _ b 3 _ t u' h3
  simpa using h4
theorem set4_below {B b : Nat} {w0 w : World} (h : Below B w0 w) (hb : B ≤ b) (x' y' z' u' : Value) :
    Below B w0 ((((w.setCell ⟨b, 0, none⟩ x').setCell ⟨b, 1, none⟩ y').setCell ⟨b, 2, none⟩ z').setCell ⟨b, 3, none⟩ u') :=
  (((h.setCell (p := ⟨b, 0, none⟩) hb _).setCell (p := ⟨b, 1, none⟩) hb _).setCell (p := ⟨b, 2, none⟩) hb _).setCell (p := ⟨b, 3, none⟩) hb _
theorem frz4 {w : World} {b : Nat} {x y z u : Value} {t : TypeId} (hg : w.heap[b]? = some (.cells #[x, y, z, u] t (0, 0))) : w.cell? ⟨b, 0, none⟩ = some x ∧ w.cell? ⟨b, 1, none⟩ = some y ∧ w.cell? ⟨b, 2, none⟩ = some z ∧ w.cell? ⟨b, 3, none⟩ = some u ∧ w.frozen? ⟨b, 0, none⟩ = false ∧ w.frozen? ⟨b, 1, none⟩ = false ∧ w.frozen? ⟨b, 2, none⟩ = false ∧ w.frozen? ⟨b, 3, none⟩ = false := by
  simp [World.cell?, World.frozen?, hg]
theorem OwnG.aside4 {w : World} {b base : Nat} {v : Value} {n : Nat} {xs : List Value} {x y z u : Value} (h : OwnG w base 9 1 v n xs) (hg : w.heap[b]? = some (.cells #[x, y, z, u] 44 (0, 0))) (x' y' z' u' : Value) :
    OwnG ((((w.setCell ⟨b, 0, none⟩ x').setCell ⟨b, 1, none⟩ y').setCell ⟨b, 2, none⟩ z').setCell ⟨b, 3, none⟩ u') base 9 1 v n xs := by
  refine h.move fun k hk => ?_
  have hne : k ≠ b := by
    rintro rfl
    obtain ⟨c, fz, hc⟩ := h.typed k hk
    rw [hg] at hc; cases hc
  rw [Below.heap_setCell _ _ _ _ hne, Below.heap_setCell _ _ _ _ hne, Below.heap_setCell _ _ _ _ hne, Below.heap_setCell _ _ _ _ hne]
theorem within_none {s : ByteArray} (h : bestK s 35 = none) : withinP s = (2, s, ⟨#[]⟩, []) := by unfold withinP; rw [h, partOf]
theorem within_some {s : ByteArray} {j : Nat} (h : bestK s 35 = some j) : withinP s = (3, ⟨#[]⟩, (fAt j).1, cutI (fAt j).2.2 (leftB (s.extract (fAt j).1.size s.size))) := by unfold withinP; rw [h, partOf]

set_option maxRecDepth 100000 in
set_option maxHeartbeats 400000 in
theorem within_any (s : ByteArray) (w : World) (hs : s.size ≤ 1000000) :
    Calls Try.prog 84 #[.string s] w fun e W' => ∃ v, e = .returned (.agg #[.int .i64 (withinP s).1, .string (withinP s).2.1, .string (withinP s).2.2.1, v]) ∧ OwnG W' w.heap.size 9 1 v (withinP s).2.2.2.length ((withinP s).2.2.2.map Value.string) ∧ Below w.heap.size w W' := by
  have HF := Lib.hid fun w => functions_any w
  obtain ⟨FA, hFA⟩ : ∃ FA, funA = FA := ⟨_, rfl⟩
  rw [hFA] at HF
  have HIDX := Lib.hid fun (k : Nat) (h : k < 35) (w : World) => idx_any k h w
  rw [hFA] at HIDX
  clear hFA
  obtain ⟨R, hR⟩ : ∃ R, withinP s = R := ⟨_, rfl⟩
  rw [hR]
  have HR := Lib.hid hR
  clear hR
  go_enter Try.func84, Try.ntmps84
  go_wp2_with (go_at_call 87; refine (HF.out _).mono ?_; rintro e w1 ⟨rfl, hb1⟩)
  have hz1 : w1.heap[w.heap.size]? = some (.cells #[.int .i64 0, .string ⟨#[]⟩, .string ⟨#[]⟩, .slice none 0 0] 44 (0, 0)) := (hb1.block _ (by simp; omega)).trans ((Below.heap_alloc _ _ _ (by simp)).trans (World.alloc_heap_new w _))
  have hz2 : w1.heap[w.heap.size + 1]? = some (.cells #[.string ⟨#[]⟩, .int .i64 0, .int .i64 0] 80 (0, 0)) := (hb1.block _ (by simp)).trans (by have := World.alloc_heap_new (w.alloc (.cells #[.int .i64 0, .string ⟨#[]⟩, .string ⟨#[]⟩, .slice none 0 0] 44)) (.cells #[.string ⟨#[]⟩, .int .i64 0, .int .i64 0] 80); rwa [World.size_alloc] at this)
  have hB1 : Below w.heap.size w w1 := (((Below.refl _ w).alloc (Nat.le_refl _) _).alloc (by simp) _).trans (hb1.mono (by simp; omega))
  have HZ1 := Lib.hid hz1
  have HZ2 := Lib.hid hz2
  clear hb1 hz1 hz2
  go_loopw [5, 6, 9] (fun _ _ iv wi => ∃ k : Nat, iv = .int .i64 k ∧ k ≤ 35 ∧ wi.heap[w.heap.size]? = some (.cells #[.int .i64 0, .string ⟨#[]⟩, .string ⟨#[]⟩, .slice none 0 0] 44 (0, 0)) ∧ wi.heap[w.heap.size + 1]? = some (.cells #[.string (curF (bestK s k)).1, .int .i64 (curF (bestK s k)).2.1, .int .i64 (curF (bestK s k)).2.2] 80 (0, 0)) ∧ Below w.heap.size w wi) (fun _ _ iv _ => 35 - (intOf iv).toNat)
  case atStart => exact ⟨0, rfl, Nat.zero_le _, HZ1.out, HZ2.out, hB1⟩
  case round =>
    obtain ⟨k, rfl, hk, hg, hf, hbel⟩ := hrel
    by_cases hlt : k < 35
    · have q1 : (k : Int) < 35 := by omega
      have hidx := HIDX.out k hlt
      obtain ⟨c0, c1, c2, z0, z1, z2⟩ := cells3 hf
      have hl1 := lt_of_block hf
      have hfl := fAt_le k
      obtain ⟨cf, hcf⟩ : ∃ cf, curF (bestK s k) = cf := ⟨_, rfl⟩
      have hup : bestK s (k + 1) = if updK s k (bestK s k) then some k else bestK s k := rfl
      rw [hcf] at c0 c1 c2 hf
      obtain ⟨fk, hfk⟩ : ∃ fk, fAt k = fk := ⟨_, rfl⟩
      rw [hfk] at hidx hfl
      obtain ⟨cn, ca, cb⟩ := cf
      obtain ⟨fn, fa, fb⟩ := fk
      have HG := Lib.hid fun o => (Below.heap_alloc wr o _ (lt_of_block hg)).trans hg
      have HG0 := Lib.hid hg
      have HF2 := Lib.hid fun o => (Below.heap_alloc wr o _ hl1).trans hf
      have HCF := Lib.hid hcf
      have HFK := Lib.hid hfk
      have hupd : updK s k (bestK s k) = (decide (cn.size < fn.size) && (decide (fn.size < s.size) && (Lib.hasPrefix s.data.toList fn.data.toList && isB (s.get! fn.size)))) := by unfold updK; rw [hcf, hfk]
      rw [hupd] at hup
      have HPx := Lib.hid fun w => Try.strings_HasPrefix s fn w
      have hfl2 : fn.size ≤ 12 := hfl
      clear hcf hfk hupd hfl HF2 hg
      have HF2 : Hid (∀ o, (wr.alloc o).heap[w.heap.size + 1]? = some (.cells #[.string cn, .int .i64 ca, .int .i64 cb] 80 (0, 0))) := fun o => (Below.heap_alloc wr o _ hl1).trans hf
      by_cases t1 : cn.size < fn.size
      · have t1' : (cn.size : Int) < fn.size := by omega
        by_cases t2 : fn.size < s.size
        · have t2' : (fn.size : Int) < s.size := by omega
          cases t3 : Lib.hasPrefix s.data.toList fn.data.toList
          · have HSK : Hid (bestK s (k + 1) = bestK s k) := by unfold Hid; rw [hup, t3]; simp
            rw [t3] at HPx
            clear hup t3
            go_wp2_with (go_at_call 92; refine (HPx.out _).mono ?_; rintro e w' ⟨rfl, rfl⟩)
            exact ⟨⟨k + 1, by go_num, by omega, HG.out _, by rw [HSK.out, HCF.out]; exact HF2.out _, hbel.alloc hbel.size _⟩, by simp [intOf]; omega⟩
          · rw [t3] at HPx
            have HBl := Lib.hid fun w => blank_any (s[fn.size]) w
            have hbg := bget s fn.size t2
            cases t4 : isB (s.get! fn.size)
            · have HSK : Hid (bestK s (k + 1) = bestK s k) := by unfold Hid; rw [hup, t4]; simp
              rw [hbg, t4, ← hbg] at HBl
              clear hup t3 t4 hbg
              go_wp2_with (first | (go_at_call 92; refine (HPx.out _).mono ?_; rintro e w' ⟨rfl, rfl⟩) | (go_at_call 102; refine (HBl.out _).mono ?_; rintro e w' ⟨rfl, rfl⟩))
              exact ⟨⟨k + 1, by go_num, by omega, HG.out _, by rw [HSK.out, HCF.out]; exact HF2.out _, hbel.alloc hbel.size _⟩, by simp [intOf]; omega⟩
            · have HSK : Hid (bestK s (k + 1) = some k) := by unfold Hid; rw [hup, t3, t4]; simp [t1, t2]
              rw [hbg, t4, ← hbg] at HBl
              clear hup t3 t4 hbg
              go_wp2_with (first | (go_at_call 92; refine (HPx.out _).mono ?_; rintro e w' ⟨rfl, rfl⟩) | (go_at_call 102; refine (HBl.out _).mono ?_; rintro e w' ⟨rfl, rfl⟩))
              have hS1 := Lib.hid (set3 hf (.string fn) (.int .i64 fa) (.int .i64 fb))
              have hS0 := Lib.hid ((set3_other (w := wr) (b := w.heap.size + 1) (c := w.heap.size) (by omega) (.string fn) (.int .i64 fa) (.int .i64 fb)).trans HG0.out)
              have hSB := Lib.hid (set3_below hbel (b := w.heap.size + 1) (by omega) (.string fn) (.int .i64 fa) (.int .i64 fb))
              refine ⟨⟨k + 1, by go_num, by omega, (Below.heap_alloc _ _ _ (by simp; omega)).trans hS0.out, ?_, hSB.out.alloc hSB.out.size _⟩, by simp [intOf]; omega⟩
              rw [HSK.out]
              show _ = some (Obj.cells #[.string (fAt k).1, .int .i64 (fAt k).2.1, .int .i64 (fAt k).2.2] 80 (0, 0))
              rw [HFK.out]
              exact (Below.heap_alloc _ _ _ (by simp; omega)).trans hS1.out
        · have t2' : ¬ (fn.size : Int) < s.size := by omega
          have HSK : Hid (bestK s (k + 1) = bestK s k) := by unfold Hid; rw [hup]; simp [t2]
          clear hup
          go_wp2
          exact ⟨⟨k + 1, by go_num, by omega, HG.out _, by rw [HSK.out, HCF.out]; exact HF2.out _, hbel.alloc hbel.size _⟩, by simp [intOf]; omega⟩
      · have t1' : ¬ (cn.size : Int) < fn.size := by omega
        have HSK : Hid (bestK s (k + 1) = bestK s k) := by unfold Hid; rw [hup]; simp [t1]
        clear hup
        go_wp2
        exact ⟨⟨k + 1, by go_num, by omega, HG.out _, by rw [HSK.out, HCF.out]; exact HF2.out _, hbel.alloc hbel.size _⟩, by simp [intOf]; omega⟩
    · have hkk : k = 35 := by omega
      have q1 : ¬ (k : Int) < 35 := by omega
      rw [hkk] at hf
      clear hkk
      have hl1 := lt_of_block hf
      obtain ⟨c0, c1, c2, _, _, _⟩ := cells3 hf
      have hlg := lt_of_block hg
      obtain ⟨g0, g1, g2, g3, y0, y1, y2, y3⟩ : wr.cell? ⟨w.heap.size, 0, none⟩ = some (.int .i64 0) ∧ wr.cell? ⟨w.heap.size, 1, none⟩ = some (.string ⟨#[]⟩) ∧ wr.cell? ⟨w.heap.size, 2, none⟩ = some (.string ⟨#[]⟩) ∧ wr.cell? ⟨w.heap.size, 3, none⟩ = some (.slice none 0 0) ∧ wr.frozen? ⟨w.heap.size, 0, none⟩ = false ∧ wr.frozen? ⟨w.heap.size, 1, none⟩ = false ∧ wr.frozen? ⟨w.heap.size, 2, none⟩ = false ∧ wr.frozen? ⟨w.heap.size, 3, none⟩ = false := by simp [World.cell?, World.frozen?, hg]
      obtain ⟨bo, hbo⟩ : ∃ bo, bestK s 35 = bo := ⟨_, rfl⟩
      rw [hbo] at c0 c1 c2
      cases bo with
      | none =>
        have hRR : R = (2, s, ⟨#[]⟩, []) := by rw [← HR.out, within_none hbo]
        subst hRR
        change wr.cell? ⟨w.heap.size + 1, 0, none⟩ = some (.string ⟨#[]⟩) at c0
        have hS := Lib.hid (set4 hg (.int .i64 2) (.string s) (.string ⟨#[]⟩) (.slice none 0 0))
        have hSB := Lib.hid (set4_below hbel (b := w.heap.size) (Nat.le_refl _) (.int .i64 2) (.string s) (.string ⟨#[]⟩) (.slice none 0 0))
        clear hf hbo hg
        go_wp2
        exact bodyPost_ret (v := .agg #[.int .i64 2, .string s, .string ⟨#[]⟩, .slice none 0 0]) (results_cell (t := 2) (ty := 44) (a := ⟨w.heap.size, 0, none⟩) (by kernel_rfl) rfl (load4 hS.out)) rfl ⟨_, rfl, OwnG.nil _ _ _ _, hSB.out⟩
      | some j =>
        obtain ⟨hj, hjs⟩ := best_in s 35 j (Nat.le_refl _) hbo
        have hjp := fAt_pos j hj
        have hRR : R = (3, ⟨#[]⟩, (fAt j).1, cutI (fAt j).2.2 (leftB (s.extract (fAt j).1.size s.size))) := by rw [← HR.out, within_some hbo]
        change wr.cell? ⟨w.heap.size + 1, 0, none⟩ = some (.string (fAt j).1) at c0
        change wr.cell? ⟨w.heap.size + 1, 2, none⟩ = some (.int .i64 (fAt j).2.2) at c2
        obtain ⟨fn, hfn⟩ : ∃ fn, (fAt j).1 = fn := ⟨_, rfl⟩
        obtain ⟨fb, hfb⟩ : ∃ fb, (fAt j).2.2 = fb := ⟨_, rfl⟩
        rw [hfn, hfb] at hRR
        rw [hfn] at hjs hjp c0
        rw [hfb] at c2
        clear HR hf hbo hfn hfb c1
        have hne : fn.toList.isEmpty = false := by rw [ba_toList]; cases h : fn.data.toList with
          | nil => exfalso; have h2 : fn.data.toList.length = 0 := (by rw [h]; rfl); rw [Array.length_toList] at h2; have h3 : fn.data.size = fn.size := rfl; omega
          | cons _ _ => rfl
        have hne2 : (fn.toList == []) = false := by rw [beq_eq_false_iff_ne]; intro h; rw [h] at hne; cases hne
        have q3 : (fn.size : Int) ≤ s.size := by omega
        have HRR0 := Lib.hid hRR
        clear hRR
        go_wp2
        have hRR := HRR0.out
        clear HRR0
        obtain ⟨LB, hLB⟩ : ∃ LB, leftB (s.extract fn.size s.size) = LB := ⟨_, rfl⟩
        rw [hLB] at hRR
        have HRR := Lib.hid hRR
        have HLB := Lib.hid hLB
        clear hRR hLB
        go_loopw [7] (fun rv wi => ∃ r : ByteArray, rv = .string r ∧ r.size ≤ 1000000 ∧ Hid (leftB r = LB) ∧ wi = wr) (fun rv _ => szOf rv)
        case atStart => exact ⟨s.extract fn.size s.size, rfl, by simp; omega, HLB, rfl⟩
        case round =>
          obtain ⟨r, rfl, hrs, hlf, hwr⟩ := hrel
          subst hwr
          by_cases hgo : ∃ h : 0 < r.size, isB r[0] = true
          · obtain ⟨h0, hbl⟩ := hgo
            have e1 := left0 r h0
            rw [← bget r 0 h0, hbl, if_pos rfl, hlf.out] at e1
            have HL := Lib.hid e1.symm
            have HBl := Lib.hid fun w => blank_any (r[0]) w
            rw [hbl] at HBl
            have hre : r.toList.isEmpty = false := ne_empty h0
            have hre2 : (r.toList == []) = false := by rw [beq_eq_false_iff_ne]; intro h; rw [h] at hre; cases hre
            have q5 : (0 : Int) < r.size := by omega
            have q6 : (1 : Int) ≤ r.size := by omega
            clear e1 hbl hlf hk hlt
            go_wp2_with (go_at_call 102; refine (HBl.out _).mono ?_; rintro e w' ⟨rfl, rfl⟩)
            exact ⟨⟨r.extract 1 r.size, rfl, by simp; omega, HL, by trivial⟩, by simp [szOf]; omega⟩
          · have hLr : LB = r := by
              rw [← hlf.out]
              by_cases h0 : 0 < r.size
              · rw [left0 r h0, if_neg]
                intro h; exact hgo ⟨h0, by rw [bget r 0 h0]; exact h⟩
              · exact left_nil r (by omega)
            subst hLr
            have hor : LB.size = 0 ∨ ∃ h : 0 < LB.size, isB LB[0] = false := by
              by_cases h0 : 0 < LB.size
              · right; refine ⟨h0, ?_⟩; cases h : isB LB[0]; rfl; exact absurd ⟨h0, h⟩ hgo
              · left; omega
            clear hgo hlf
            have hsz1 : w.heap.size ≤ wr.drew.heap.size := hbel.size
            have HCut := Lib.hid fun W => cut_any LB fb W hrs
            rcases hor with h0 | ⟨h0, hbl⟩
            · have hre : LB.toList.isEmpty = true := by rw [ba_toList, List.eq_nil_of_length_eq_zero (l := LB.data.toList) (by rw [Array.length_toList]; exact h0)]; rfl
              have hre2 : (LB.toList == []) = true := by rw [ba_toList, List.eq_nil_of_length_eq_zero (l := LB.data.toList) (by rw [Array.length_toList]; exact h0)]; rfl
              go_wp2
              first | (go_region_law (first
                | (go_simp; go_at_call 103; refine (HCut.out _).mono ?_; rintro e w2 ⟨v, rfl, hv, hb⟩; obtain ⟨Av, cv, rfl, _, _⟩ := hv.form; have hg2 : w2.heap[w.heap.size]? = some (.cells #[.int .i64 0, .string ⟨#[]⟩, .string ⟨#[]⟩, .slice none 0 0] 44 (0, 0)) := (hb.block w.heap.size hlg).trans hg; have hb2 : Below w.heap.size w w2 := (hbel.drew).trans (hb.mono hsz1); have k0 : w2.cell? ⟨w.heap.size + 1, 0, none⟩ = some (.string fn) := (by rw [hb.cell (p := ⟨w.heap.size + 1, 0, none⟩) hl1]; exact c0); have hfa := frz4 hg2; obtain ⟨x0, x1, x2, x3, x4, x5, x6, x7⟩ := hfa)
                | fail)) | fail
              all_goals
                have hS := Lib.hid (set4 hg2 (.int .i64 3) (.string ⟨#[]⟩) (.string fn) (.slice Av (cutI fb LB).length cv))
                have hSB := Lib.hid (set4_below hb2 (b := w.heap.size) (Nat.le_refl _) (.int .i64 3) (.string ⟨#[]⟩) (.string fn) (.slice Av (cutI fb LB).length cv))
                have hV := Lib.hid ((hv.lower hsz1).aside4 hg2 (.int .i64 3) (.string ⟨#[]⟩) (.string fn) (.slice Av (cutI fb LB).length cv))
                clear hg2 hv hb2 hb
                go_wp2
                have hRR := HRR.out
                subst hRR
                exact bodyPost_ret (v := .agg #[.int .i64 3, .string ⟨#[]⟩, .string fn, .slice Av (cutI fb LB).length cv]) (results_cell (t := 2) (ty := 44) (a := ⟨w.heap.size, 0, none⟩) (by kernel_rfl) rfl (load4 hS.out)) rfl ⟨_, rfl, hV.out, hSB.out⟩
            · have HBl := Lib.hid fun w => blank_any (LB[0]) w
              rw [hbl] at HBl
              have hre : LB.toList.isEmpty = false := ne_empty h0
              have hre2 : (LB.toList == []) = false := by rw [beq_eq_false_iff_ne]; intro h; rw [h] at hre; cases hre
              have q5 : (0 : Int) < LB.size := by omega
              clear hbl
              go_wp2_with (go_at_call 102; refine (HBl.out _).mono ?_; rintro e w' ⟨rfl, rfl⟩)
              first | (go_region_law (first
                | (go_simp; go_at_call 103; refine (HCut.out _).mono ?_; rintro e w2 ⟨v, rfl, hv, hb⟩; obtain ⟨Av, cv, rfl, _, _⟩ := hv.form; have hg2 : w2.heap[w.heap.size]? = some (.cells #[.int .i64 0, .string ⟨#[]⟩, .string ⟨#[]⟩, .slice none 0 0] 44 (0, 0)) := (hb.block w.heap.size hlg).trans hg; have hb2 : Below w.heap.size w w2 := (hbel.drew).trans (hb.mono hsz1); have k0 : w2.cell? ⟨w.heap.size + 1, 0, none⟩ = some (.string fn) := (by rw [hb.cell (p := ⟨w.heap.size + 1, 0, none⟩) hl1]; exact c0); have hfa := frz4 hg2; obtain ⟨x0, x1, x2, x3, x4, x5, x6, x7⟩ := hfa)
                | fail)) | fail
              all_goals
                have hS := Lib.hid (set4 hg2 (.int .i64 3) (.string ⟨#[]⟩) (.string fn) (.slice Av (cutI fb LB).length cv))
                have hSB := Lib.hid (set4_below hb2 (b := w.heap.size) (Nat.le_refl _) (.int .i64 3) (.string ⟨#[]⟩) (.string fn) (.slice Av (cutI fb LB).length cv))
                have hV := Lib.hid ((hv.lower hsz1).aside4 hg2 (.int .i64 3) (.string ⟨#[]⟩) (.string fn) (.slice Av (cutI fb LB).length cv))
                clear hg2 hv hb2 hb
                go_wp2
                have hRR := HRR.out
                subst hRR
                exact bodyPost_ret (v := .agg #[.int .i64 3, .string ⟨#[]⟩, .string fn, .slice Av (cutI fb LB).length cv]) (results_cell (t := 2) (ty := 44) (a := ⟨w.heap.size, 0, none⟩) (by kernel_rfl) rfl (load4 hS.out)) rfl ⟨_, rfl, hV.out, hSB.out⟩
end Go.Proofs.Ytndoloohdloflaa
