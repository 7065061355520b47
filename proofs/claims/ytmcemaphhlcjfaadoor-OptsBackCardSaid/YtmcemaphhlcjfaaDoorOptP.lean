/- Parse: the options of the flags' words and of the arguments; conditions: lists and texts that lie in memory, the library's one number and one type in their cells. -/
import Derived.Test.YtmcemaphhlcjfaaDoorOptJ
namespace Go.Proofs.YtmcemaphhlcjfaaDoor
open Go.RowKit Go.Maps

def ErrT : Value := .iface 138 (.agg #[.pointer (some ⟨4, 65, none⟩)])
structure PsM (w wi : World) (S : Nat → Prop) (x : Opx) : Prop where
  below : Below w.heap.size w wi
  op : OpAt wi (w.heap.size + 1) S x
  row : wi.heap[w.heap.size]? = some (.cells (opRow 0 (fun _ => false) false (.slice none 0 0) (.slice none 0 0) (.slice none 0 0)) 47 (0, 0))
  ge : ∀ k, S k → w.heap.size + 1 ≤ k
  lt : ∀ k, S k → k < wi.heap.size
theorem PsM.next {w wi w2 : World} {S : Nat → Prop} {x : Opx} (h : PsM w wi S x) (hb : Below wi.heap.size wi w2) : PsM w w2 S x :=
  ⟨h.below.trans (hb.mono h.below.size), h.op.below hb, (hb.block _ (lt_of_block h.row)).trans h.row, h.ge, fun k hk => Nat.lt_of_lt_of_le (h.lt k hk) hb.size⟩
theorem PsM.also {w wi w2 : World} {S S2 : Nat → Prop} {x x2 : Opx} (h : PsM w wi S x) (ho : OpAt w2 (w.heap.size + 1) S2 x2) (hn : Nx wi S w2 S2) : PsM w w2 (fun k => S2 k ∧ k < w2.heap.size) x2 := by
  have hr := lt_of_block h.row
  refine ⟨h.below.trans (hn.below (fun k hk => Nat.le_of_succ_le (h.ge k hk)) (Nat.le_of_lt hr)), ho.trim, (hn.block _ hr (fun hs => by have := h.ge _ hs; omega)).trans h.row, fun k hk => ?_, fun k hk => hk.2⟩
  rcases hn.grow k hk.1 with h1 | h1
  · exact h.ge k h1
  · omega
theorem PsM.setO {w wi : World} {x : Opx} (h : PsM w wi (fun k => k = w.heap.size + 1) x) (g o : Nat) (hg : w.heap.size + 2 ≤ g) (v : Value) : PsM w (wi.setCell ⟨g, o, none⟩ v) (fun k => k = w.heap.size + 1) x := by
  refine ⟨h.below.setCell (p := ⟨g, o, none⟩) (Nat.le_trans (Nat.le_add_right _ 2) hg) v, ?_, ?_, h.ge, fun k hk => by rw [World.size_setCell]; exact h.lt k hk⟩
  · obtain ⟨vf, vg, vv, h1, h2, h3, h4, h5, h6, h7, h8, h9, h10, h11⟩ := h.op
    have nb : ∀ {u : Value} {n : Nat} {xs : List Value}, OwnG wi 0 9 1 u n xs → (∀ k, u.ownBlock = some k → k = w.heap.size + 1) → OwnG (wi.setCell ⟨g, o, none⟩ v) 0 9 1 u n xs := fun h hs => h.move fun k hk => Below.heap_setCell _ _ _ _ (by have := hs k hk; show k ≠ g; omega)
    exact ⟨vf, vg, vv, by rw [Below.heap_setCell _ _ _ _ (by show _ ≠ g; omega)]; exact h1, nb h2 h9, nb h3 h10, nb h4 h11, h5, h6, h7, h8, h9, h10, h11⟩
  · rw [Below.heap_setCell _ _ _ _ (by show _ ≠ g; omega)]; exact h.row
theorem ps_start (w : World) : PsM w ((w.alloc (.cells (opRow 0 (fun _ => false) false (.slice none 0 0) (.slice none 0 0) (.slice none 0 0)) 47)).alloc (.cells (opRow 1 (fun _ => false) false (.slice none 0 0) (.slice none 0 0) (.slice none 0 0)) 47)) (fun k => k = w.heap.size + 1) x0 := by
  have hr := heap_alloc_last (w.alloc (.cells (opRow 0 (fun _ => false) false (.slice none 0 0) (.slice none 0 0) (.slice none 0 0)) 47)) (.cells (opRow 1 (fun _ => false) false (.slice none 0 0) (.slice none 0 0) (.slice none 0 0)) 47)
  rw [World.size_alloc] at hr
  refine ⟨((Below.refl _ w).alloc (Nat.le_refl _) _).alloc (by simp) _, opAt_new hr rfl, ?_, fun k hk => Nat.le_of_eq hk.symm, fun k hk => by simp; omega⟩
  rw [Below.heap_alloc _ _ _ (by simp)]
  exact heap_alloc_last w _
theorem own_head {w : World} {base : Nat} {A : Option Addr} {n c : Nat} {x : ByteArray} {xs : List ByteArray} (h : OwnG w base 9 1 (.slice A n c) n (strV (x :: xs))) :
    ∃ g, A = some ⟨g, 0, none⟩ ∧ base ≤ g ∧ g < w.heap.size ∧ w.cell? ⟨g, 0, none⟩ = some (.string x) ∧ w.frozen? ⟨g, 0, none⟩ = false := by
  rcases h.2 with ⟨_, h2⟩ | ⟨g, cap, cur, h3, hb, hg, _⟩
  · have := h.1; rw [h2] at this; simp [strV] at this
  · cases h3
    exact ⟨g, rfl, hb, (h.block_lt g rfl).2, h.cells 0 _ rfl, frozen_of_row _ _ 0 _ _ hg⟩
theorem OwnG.strs {w : World} {base : Nat} {A : Option Addr} {n c : Nat} {xs : List ByteArray} (h : OwnG w base 9 1 (.slice A n c) n (strV xs)) : StrsAt w A xs := by
  intro j x hj
  rcases h.2 with ⟨_, h2⟩ | ⟨g, cap, cur, h3, hb, hg, _⟩
  · have := h.1; rw [h2] at this
    have : xs = [] := by simpa [strV] using this
    rw [this] at hj; cases hj
  · cases h3
    exact ⟨g, 0, rfl, by rw [Nat.zero_add]; exact h.cells j _ (by unfold strV; rw [List.getElem?_map, hj]; rfl)⟩
theorem strs_set {w : World} {g : Nat} {x y : ByteArray} {xs : List ByteArray} (h : StrsAt w (some ⟨g, 0, none⟩) (x :: xs)) (hc : w.cell? ⟨g, 0, none⟩ = some (.string x)) : StrsAt (w.setCell ⟨g, 0, none⟩ (.string y)) (some ⟨g, 0, none⟩) (y :: xs) := by
  intro j z hj
  refine ⟨g, 0, rfl, ?_⟩
  cases j with
  | zero => cases hj; exact World.cell?_setCell_same _ _ _ hc
  | succ j =>
    obtain ⟨b, o, hA, hz⟩ := h (j + 1) z hj
    cases hA
    rw [World.cell?_setCell_other]
    · exact hz
    · intro e; have := congrArg Addr.off e; simp at this
theorem fixL_cons {h : ByteArray} {tl : List ByteArray} : fixL (h :: tl) = dashB h :: tl := rfl
theorem fixL_len (l : List ByteArray) : (fixL l).length = l.length := by cases l <;> rfl
theorem fixL_size {l : List ByteArray} {n : Nat} (h : ∀ v ∈ l, v.size ≤ n) : ∀ v ∈ fixL l, v.size ≤ n + 1 := by
  cases l with
  | nil => intro v hv; cases hv
  | cons a tl =>
    intro v hv
    rw [fixL_cons] at hv
    rcases List.mem_cons.1 hv with rfl | hv
    · have := h a (List.mem_cons_self ..)
      unfold dashB
      split
      · rw [ByteArray.size_append]; show 1 + a.size ≤ _; omega
      · omega
    · exact Nat.le_trans (h v (List.mem_cons_of_mem _ hv)) (Nat.le_succ n)
theorem own_in {w : World} {base : Nat} {A : Option Addr} {n c : Nat} {xs : List Value} (h : OwnG w base 9 1 (.slice A n c) n xs) : ∀ g off, A = some ⟨g, off, none⟩ → base ≤ g ∧ g < w.heap.size := by
  intro g off e
  subst e
  exact h.block_lt g rfl
/-- the flags' words, before and behind the dash -/
def PsD (w : World) (l : List ByteArray) (s7 s29 : Value) (wi : World) : Prop := ∃ A c, s7 = .slice A l.length c ∧ l.length ≤ c ∧ PsM w wi (fun k => k = w.heap.size + 1) x0 ∧ OwnG wi (w.heap.size + 2) 9 1 s7 l.length (strV l) ∧
  ((s29 = .bool false ∧ fixL l = l) ∨ (s29 = .bool true ∧ ∃ h tl, l = h :: tl ∧ fixL l = (⟨#[45]⟩ ++ h) :: tl))
def PsE (w : World) (l : List ByteArray) (s7 : Value) (wi : World) : Prop := ∃ A c, s7 = .slice A l.length c ∧ l.length ≤ c ∧ PsM w wi (fun k => k = w.heap.size + 1) x0 ∧ StrsAt wi A l ∧ ∀ g off, A = some ⟨g, off, none⟩ → w.heap.size + 2 ≤ g ∧ g < wi.heap.size
def PsG (w : World) (r : Option Opx) (s8 s39 : Value) (wi : World) : Prop := s39 = .bool r.isSome ∧ match r with
  | none => ∃ word S x, s8 = optV word 60 ∧ PsM w wi S x
  | some x => s8 = .nilIface ∧ ∃ S, PsM w wi S x
def PsF (w : World) (r : Option Opx) (s8 : Value) (wi : World) : Prop := match r with
  | none => ∃ word S x, s8 = optV word 60 ∧ PsM w wi S x
  | some x => s8 = .nilIface ∧ ∃ S, PsM w wi S x
theorem ps_words {w wi : World} {S : Nat → Prop} {x : Opx} (h : PsM w wi S x) (A : Option Addr) (ca : Nat) (l : List ByteArray) (own : Bool) (N : Nat) (hA : StrsAt wi A l) (hAS : ∀ g off, A = some ⟨g, off, none⟩ → ¬ S g ∧ g < wi.heap.size)
    (hca : l.length ≤ ca) (hN : N + l.length ≤ 900000) (hz : ∀ v ∈ l, v.size ≤ 1000000) (hfit : fitB N x) (hw : 1 < w.heap.size) (m : Int) (hm : w.cell? ⟨1, 0, none⟩ = some (.int .i64 m)) :
    Calls Tryd.prog 57 #[.pointer (some ⟨w.heap.size + 1, 0, none⟩), .slice A l.length ca, .bool own] wi fun e w' => ∃ s8, e = .returned s8 ∧ PsF w (wordsF own l (l.length + 1) 0 false x) s8 w' := by
  refine (opwords_any (w.heap.size + 1) S x A ca l own N wi h.op h.lt (fun hs => by have := h.ge 1 hs; omega) hA hAS hca hN hz hfit m ((h.below.cell (p := ⟨1, 0, none⟩) hw).trans hm)).mono fun e w' hd => ?_
  cases hr : wordsF own l (l.length + 1) 0 false x with
  | none =>
    rw [hr] at hd
    obtain ⟨word, he, S', x', ho, hn⟩ := hd
    exact ⟨_, he, word, _, x', rfl, h.also ho hn⟩
  | some x' =>
    rw [hr] at hd
    obtain ⟨he, S', ho, hn⟩ := hd
    exact ⟨_, he, rfl, _, h.also ho hn⟩
theorem PsM.heap2 {w wi : World} {S : Nat → Prop} {x : Opx} (h : PsM w wi S x) : w.heap.size + 2 ≤ wi.heap.size := by have := h.op.lt; omega

set_option maxRecDepth 100000 in
set_option maxHeartbeats 16000000 in
theorem Parse_any (A : Option Addr) (ca : Nat) (args : List ByteArray) (f : ByteArray) (w : World) (hA : StrsAt w A args) (hAb : ∀ g off, A = some ⟨g, off, none⟩ → g < w.heap.size) (hca : args.length ≤ ca) (hn : args.length ≤ 1000) (hz : ∀ v ∈ args, v.size ≤ 1000000) (hf : f.size ≤ 400000)
    (hw : 1 < w.heap.size) (m : Int) (hm : w.cell? ⟨1, 0, none⟩ = some (.int .i64 m)) (hg : w.cell? ⟨0, 0, none⟩ = some ErrT) :
    Calls Tryd.prog 28 #[.slice A args.length ca, .string f] w fun e w' => PsA w (parseF args f) e w' := by
  obtain ⟨L, hL⟩ : ∃ L, wordsB f = L := ⟨_, rfl⟩
  have hLn := wordsB_len f
  have hLz := words_sz f
  have hLe := words_ne f
  have hSP := fun w => Split_any f (by omega) w
  have hPF : parseF args f = match wordsF false (fixL L) ((fixL L).length + 1) 0 false x0 with
    | none => none
    | some x => wordsF true args (args.length + 1) 0 false x := by rw [← hL]; rfl
  rw [hL] at hLn hLz hLe hSP
  have HLZ := Lib.hid hLz
  have hl : (fixL L).length ≤ 400001 := by rw [fixL_len]; omega
  have HC1 := Lib.hid fun (wi : World) (A1 : Option Addr) (c1 : Nat) (hp : PsM w wi (fun k => k = w.heap.size + 1) x0) (h1 : StrsAt wi A1 (fixL L)) (h2 : ∀ g off, A1 = some ⟨g, off, none⟩ → w.heap.size + 2 ≤ g ∧ g < wi.heap.size) (h3 : (fixL L).length ≤ c1) =>
    ps_words hp A1 c1 (fixL L) false 0 h1 (fun g off e => ⟨fun e2 => by have := (h2 g off e).1; omega, (h2 g off e).2⟩) h3 (by omega) (fun v hv => Nat.le_trans (fixL_size (n := 400000) (fun v hv => Nat.le_trans (hLz v hv) hf) v hv) (by omega)) ⟨Nat.le_refl _, Nat.le_refl _, Nat.le_refl _⟩ hw m hm
  obtain ⟨r1, hr1⟩ : ∃ r1, wordsF false (fixL L) ((fixL L).length + 1) 0 false x0 = r1 := ⟨_, rfl⟩
  have HC2 := Lib.hid fun (wi : World) (S : Nat → Prop) (x : Opx) (hx : r1 = some x) (hp : PsM w wi S x) =>
    ps_words hp A ca args true ((fixL L).length + 1) (fun j z hj => by
      obtain ⟨b, o, hA2, hz2⟩ := hA j z hj
      exact ⟨b, o, hA2, (hp.below.cell (p := ⟨b, o + j, none⟩) (hAb b o hA2)).trans hz2⟩)
      (fun g off e => ⟨fun hs => by have h1 := hp.ge g hs; have h2 := hAb g off e; omega, Nat.lt_of_lt_of_le (hAb g off e) hp.below.size⟩) hca (by omega) hz
      (by have := wordsF_fit false (fixL L) _ 0 false x0 x 0 (hr1.trans hx) ⟨Nat.le_refl _, Nat.le_refl _, Nat.le_refl _⟩; rwa [Nat.zero_add] at this) hw m hm
  rw [hr1] at HC1 hPF
  obtain ⟨R, hR⟩ : ∃ R, parseF args f = R := ⟨_, rfl⟩
  rw [hR] at hPF ⊢
  have HPF := Lib.hid hPF
  have HSP := Lib.hid hSP
  have HLE := Lib.hid hLe
  have HG := Lib.hid hg
  obtain ⟨N, hN⟩ : ∃ N, L.length = N := ⟨_, rfl⟩
  have HN := Lib.hid hN
  have hNl : N ≤ 400001 := by omega
  rw [hN] at HSP
  clear hPF hSP hLe hg hR hr1 hm hA hAb hca hz hL hLn hLz hN hl
  go_enter Tryd.func28, Tryd.ntmps28
  go_wp2_with fail
  refine (HSP.out _).mono ?_
  rintro e w1 ⟨v, rfl, ho, hb⟩
  obtain ⟨A1, c1, rfl, hnc, hc1⟩ := ho.form
  have HO := Lib.hid (show OwnG w1 (w.heap.size + 2) 9 1 (.slice A1 N c1) N (strV L) from ho.lower (by simp))
  have HP1 := Lib.hid ((ps_start w).next hb)
  clear ho hb HSP
  go_upto_region 3 with fail
  go_cut [7, 29] from 10 (fun s7 s29 wi => Hid (PsD w L s7 s29 wi))
  case first =>
    cases L with
    | nil =>
      have hN0 : N = 0 := by have := HN.out; simpa using this.symm
      subst hN0
      go_wp2
      go_meet
      case rel => exact ⟨A1, c1, rfl, Nat.zero_le _, HP1.out, HO.out, .inl ⟨rfl, rfl⟩⟩
    | cons h tl =>
      have hNp : 0 < N := by have := HN.out; rw [List.length_cons] at this; omega
      obtain ⟨g, rfl, hg1, hg2, hcell, hfz⟩ := own_head HO.out
      have hh : 1 ≤ h.size := HLE.out h (List.mem_cons_self ..)
      have hb := bget h 0 hh
      obtain ⟨c, hc⟩ : ∃ c, h[0] = c := ⟨_, rfl⟩
      rw [hc] at hb
      have HFIN : Hid (∀ s29, ((s29 = .bool false ∧ fixL (h :: tl) = h :: tl) ∨ (s29 = .bool true ∧ ∃ h2 tl2, h :: tl = h2 :: tl2 ∧ fixL (h :: tl) = (⟨#[45]⟩ ++ h2) :: tl2)) → Hid (PsD w (h :: tl) (.slice (some ⟨g, 0, none⟩) N c1) s29 w1)) := fun s29 h29 =>
        ⟨some ⟨g, 0, none⟩, c1, by rw [HN.out], by rw [HN.out]; exact hnc, HP1.out, by rw [HN.out]; exact HO.out, h29⟩
      by_cases hd : h.get! 0 = 45
      · have n0 : ((c.toNat : Int) == 45) = true := by rw [hb, hd]; rfl
        have n0b : ((c.toNat : Int) != 45) = false := by rw [bne, n0]; rfl
        have HX := Lib.hid (HFIN.out (.bool false) (.inl ⟨rfl, by rw [fixL_cons]; unfold dashB; rw [if_neg (fun h => h.1 hd)]⟩))
        clear hd hb HFIN hfz
        go_wp2
        go_meet
        case rel => exact HX.out
      have hd2 : c ≠ 45 := by rw [hb]; exact hd
      have n0 : ((c.toNat : Int) == 45) = false := beq_eq_false_iff_ne.2 (fun e => hd2 (UInt8.toNat_inj.1 (by show _ = 45; omega)))
      have n0b : ((c.toNat : Int) != 45) = true := by rw [bne, n0]; rfl
      have HCt := Lib.hid (Tryd.strings_Contains_one h 61 w1)
      by_cases hq : 0 ≤ Lib.indexByte h.data.toList 61
      · rw [decide_eq_true hq] at HCt
        have HX := Lib.hid (HFIN.out (.bool false) (.inl ⟨rfl, by rw [fixL_cons]; unfold dashB; rw [if_neg (fun h => h.2 hq)]⟩))
        clear hd hd2 hb HFIN hfz hq
        go_wp2_with fail
        refine HCt.out.mono ?_
        rintro e w' ⟨rfl, hw'⟩
        obtain rfl := hw'.symm
        go_wp2
        go_meet
        case rel => exact HX.out
      · rw [decide_eq_false hq] at HCt
        have HX := Lib.hid (HFIN.out (.bool true) (.inr ⟨rfl, h, tl, rfl, by rw [fixL_cons]; unfold dashB; rw [if_pos ⟨hd, hq⟩]⟩))
        clear hd hd2 hb HFIN hfz hq
        go_wp2_with fail
        refine HCt.out.mono ?_
        rintro e w' ⟨rfl, hw'⟩
        obtain rfl := hw'.symm
        go_wp2
        go_meet
        case rel => exact HX.out
  case rest =>
    obtain ⟨A2, c2, h7, hc2, hp2, ho2, h29⟩ := hcut.out
    have HO2 := Lib.hid ho2
    rw [HN.out] at h7 hc2
    subst h7
    have HP2 := Lib.hid hp2
    clear hcut HP1 HO ho2 hp2
    go_upto_if 29 with fail
    go_cut [7] from 10 (fun s7 wi => Hid (PsE w (fixL L) s7 wi))
    case first =>
      rcases h29 with ⟨rfl, hfx⟩ | ⟨rfl, h, tl, rfl, hfx⟩
      · have HX : Hid (PsE w (fixL L) (.slice A2 N c2) wc) := by
          unfold Hid; rw [hfx]
          have ho := HO2.out
          rw [HN.out] at ho
          exact ⟨A2, c2, by rw [HN.out], by rw [HN.out]; exact hc2, HP2.out, ho.strs, own_in ho⟩
        clear hfx
        go_wp2
        go_meet
        case rel => exact HX
      · have ho := HO2.out
        rw [HN.out] at ho
        obtain ⟨g, rfl, hg1, hg2, hcell, hfz⟩ := own_head ho
        have hNp : 0 < N := by have := HN.out; rw [List.length_cons] at this; omega
        have hz1 : h.size ≤ 400000 := Nat.le_trans (HLZ.out h (List.mem_cons_self ..)) hf
        have k45 : (⟨#[45]⟩ : ByteArray).size = 1 := rfl
        obtain ⟨h', hh'⟩ : ∃ h', (⟨#[45]⟩ : ByteArray) ++ h = h' := ⟨_, rfl⟩
        have HX : Hid (PsE w (fixL (h :: tl)) (.slice (some ⟨g, 0, none⟩) N c2) (wc.setCell ⟨g, 0, none⟩ (.string h'))) := by
          unfold Hid; rw [hfx, hh']
          exact ⟨_, c2, by rw [← HN.out]; rfl, by have := HN.out; rw [List.length_cons] at this ⊢; omega, HP2.out.setO g 0 hg1 _, strs_set ho.strs hcell, fun g2 off e => by cases e; exact ⟨hg1, by rw [World.size_setCell]; exact hg2⟩⟩
        clear hfx ho hg1 hg2 HO2
        go_wp2
        go_meet
        case rel => exact HX
    case rest =>
      obtain ⟨A3, c3, h7, hc3, hp3, hs3, hb3⟩ := hcut.out
      have HX := Lib.hid (HC1.out wc A3 c3 hp3 hs3 hb3 hc3)
      rw [fixL_len, HN.out] at HX h7
      subst h7
      clear hcut HC1 h29 HO2 HP2 hc3 hp3 hs3 hb3
      go_wp2_with fail
      refine HX.out.mono ?_
      rintro e w3 ⟨s8, rfl, h8⟩
      have H8 := Lib.hid h8
      clear h8 HX
      go_upto_region 6 with fail
      go_cut [8, 39] from 10 (fun s8 s39 wi => Hid (PsG w r1 s8 s39 wi))
      case first =>
        cases r1 with
        | none =>
          obtain ⟨word, S, x, rfl, hp⟩ := H8.out
          have HX : Hid (PsG w none (optV word 60) (.bool false) w3) := ⟨rfl, word, S, x, rfl, hp⟩
          clear hp H8
          unfold optV at HX ⊢
          go_wp2
          go_meet
          case rel => exact HX
        | some x =>
          obtain ⟨rfl, S, hp⟩ := H8.out
          have HX : Hid (PsG w (some x) .nilIface (.bool true) w3) := ⟨rfl, rfl, S, hp⟩
          clear hp H8
          go_wp2
          go_meet
          case rel => exact HX
      case rest =>
        go_upto_if 39 with fail
        go_cut [8] from 10 (fun s8 wi => Hid (PsF w R s8 wi))
        case first =>
          cases r1 with
          | none =>
            obtain ⟨rfl, word, S, x, rfl, hp⟩ := hcut.out
            have hR : R = none := HPF.out
            subst hR
            have HX : Hid (PsF w none (optV word 60) wc) := ⟨word, S, x, rfl, hp⟩
            clear hp H8 hcut
            unfold optV at HX ⊢
            go_wp2
            go_meet
            case rel => exact HX
          | some x =>
            obtain ⟨rfl, rfl, S, hp⟩ := hcut.out
            have hR : R = wordsF true args (args.length + 1) 0 false x := HPF.out
            have HX := Lib.hid (HC2.out wc S x rfl hp)
            rw [← hR] at HX
            clear hp H8 hcut hR HPF
            go_wp2_with fail
            refine HX.out.mono ?_
            rintro e w4 ⟨s8, rfl, h8⟩
            have H8 := Lib.hid h8
            clear h8 HX
            go_wp2
            go_meet
            case rel => exact H8
        case rest =>
          cases R with
          | none =>
            obtain ⟨word, S, x, rfl, hp⟩ := hcut.out
            have HPZ := Lib.hid hp
            have htn := heap_alloc_last wc (.cells #[.int .i64 0] 30)
            have hbn : Below wc.heap.size wc (wc.alloc (.cells #[.int .i64 0] 30)) := (Below.refl _ wc).alloc (Nat.le_refl _) _
            have hA := Lib.hid (as_hit word 60 ⟨wc.heap.size, 0, none⟩ (.int .i64 0) (wc.alloc (.cells #[.int .i64 0] 30)) ((hbn.cell (p := ⟨0, 0, none⟩) (Nat.lt_of_lt_of_le (Nat.lt_of_succ_lt hw) hp.below.size)).trans ((hp.below.cell (p := ⟨0, 0, none⟩) (Nat.lt_of_succ_lt hw)).trans HG.out)) (rowo htn (j := 0) rfl).1 (rowo htn (j := 0) (v := .int .i64 0) rfl).2)
            have HTN := Lib.hid htn
            clear hp hcut htn hbn H8 HPF
            unfold optV at hA ⊢
            go_wp2_with fail
            refine hA.out.mono ?_
            rintro e w4 ⟨rfl, w5, hb5, hw4⟩
            have hpz := HPZ.out.next ((Below.refl _ wc).alloc (Nat.le_refl _) (.cells #[.int .i64 0] 30))
            have hpy := hpz.next hb5
            have hc5 := (rowo ((hb5.block _ (lt_of_block HTN.out)).trans HTN.out) (j := 0) (v := .int .i64 0) rfl).1
            have hlt := lt_of_block HPZ.out.row
            have hrow4 : w4.heap[w.heap.size]? = some (.cells (opRow 0 (fun _ => false) false (.slice none 0 0) (.slice none 0 0) (.slice none 0 0)) 47 (0, 0)) := by
              rw [hw4, Below.heap_setCell _ _ _ _ (by show w.heap.size ≠ wc.heap.size; omega)]; exact hpy.row
            have ct : w4.cell? ⟨wc.heap.size, 0, none⟩ = some (.int .i64 60) := by rw [hw4]; exact World.cell?_setCell_same _ _ _ hc5
            have hbel : Below w.heap.size w w4 := by rw [hw4]; exact hpy.below.setCell (p := ⟨wc.heap.size, 0, none⟩) (by show w.heap.size ≤ wc.heap.size; omega) _
            have hne : w.heap.size ≠ wc.heap.size := by omega
            obtain ⟨tb, htb⟩ : ∃ tb, wc.heap.size = tb := ⟨_, rfl⟩
            obtain ⟨b0, hb0⟩ : ∃ b0, w.heap.size = b0 := ⟨_, rfl⟩
            have HB0 := Lib.hid hb0
            have HBEL := Lib.hid hbel
            rw [htb] at ct hne ⊢
            rw [hb0] at hrow4 hne ⊢
            clear hw4 hb5 hpz hpy hc5 hlt htb hb0 hbel HPZ HTN hA
            have p0 := rowo hrow4 (j := 0) rfl
            obtain ⟨p0, q0⟩ := p0
            have p1 := rowo hrow4 (j := 1) rfl
            obtain ⟨p1, q1⟩ := p1
            have p2 := rowo hrow4 (j := 2) rfl
            obtain ⟨p2, q2⟩ := p2
            have p3 := rowo hrow4 (j := 3) rfl
            obtain ⟨p3, q3⟩ := p3
            have p4 := rowo hrow4 (j := 4) rfl
            obtain ⟨p4, q4⟩ := p4
            have p5 := rowo hrow4 (j := 5) rfl
            obtain ⟨p5, q5⟩ := p5
            have p6 := rowo hrow4 (j := 6) rfl
            obtain ⟨p6, q6⟩ := p6
            have p7 := rowo hrow4 (j := 7) rfl
            obtain ⟨p7, q7⟩ := p7
            have p8 := rowo hrow4 (j := 8) rfl
            obtain ⟨p8, q8⟩ := p8
            have p9 := rowo hrow4 (j := 9) rfl
            obtain ⟨p9, q9⟩ := p9
            have p10 := rowo hrow4 (j := 10) rfl
            obtain ⟨p10, q10⟩ := p10
            have p11 := rowo hrow4 (j := 11) rfl
            obtain ⟨p11, q11⟩ := p11
            have p12 := rowo hrow4 (j := 12) rfl
            obtain ⟨p12, q12⟩ := p12
            have p13 := rowo hrow4 (j := 13) rfl
            obtain ⟨p13, q13⟩ := p13
            have HR4 := Lib.hid hrow4
            clear hrow4
            have HFIN : Hid (∃ W6, W6 = put14 w4 b0 (.int .i64 0) (.bool false) (.bool false) (.bool false) (.bool false) (.bool false) (.bool false) (.bool false) (.bool false) (.bool false) (.bool false) (.slice none 0 0) (.slice none 0 0) (.slice none 0 0) ∧ (loadVar 47 ⟨b0, 0, none⟩).run Tryd.prog W6.drew = .ok zeroO W6.drew ∧ Below w.heap.size w W6.drew) := by
              have hs := set14 HR4.out (.int .i64 0) (.bool false) (.bool false) (.bool false) (.bool false) (.bool false) (.bool false) (.bool false) (.bool false) (.bool false) (.bool false) (.slice none 0 0) (.slice none 0 0) (.slice none 0 0)
              have hb := put14_below HBEL.out (Nat.le_of_eq HB0.out) (.int .i64 0) (.bool false) (.bool false) (.bool false) (.bool false) (.bool false) (.bool false) (.bool false) (.bool false) (.bool false) (.bool false) (.slice none 0 0) (.slice none 0 0) (.slice none 0 0)
              obtain ⟨W6, h⟩ : ∃ W, W = put14 w4 b0 (.int .i64 0) (.bool false) (.bool false) (.bool false) (.bool false) (.bool false) (.bool false) (.bool false) (.bool false) (.bool false) (.bool false) (.slice none 0 0) (.slice none 0 0) (.slice none 0 0) := ⟨_, rfl⟩
              rw [← h] at hs hb
              exact ⟨W6, h, load14 (W := W6.drew) hs, hb.drew⟩
            go_upto_region 10 with fail
            go_region
            all_goals go_wp2
            all_goals
              obtain ⟨W6, hW6, hl6, hb6⟩ := HFIN.out
              unfold put14 at hW6
              rw [← hW6]
              exact bodyPost_ret (results_c2 (t := 4) (i := 5) (by kernel_rfl) rfl hl6 rfl) rfl ⟨hb6, rfl⟩
          | some x =>
            obtain ⟨rfl, S, hp⟩ := hcut.out
            obtain ⟨vf, vg, vv, h1, h2, h3, h4, _, _, _, _, s1, s2, s3⟩ := hp.op
            obtain ⟨F1, d1, rfl, _, _⟩ := h2.form
            obtain ⟨F2, d2, rfl, _, _⟩ := h3.form
            obtain ⟨F3, d3, rfl, _, _⟩ := h4.form
            have hbn : Below wc.heap.size wc (wc.alloc (.cells #[.int .i64 0] 30)) := (Below.refl _ wc).alloc (Nat.le_refl _) _
            have hrow4 := (hbn.block _ (lt_of_block hp.row)).trans hp.row
            have ho4 := (hbn.block _ (lt_of_block h1)).trans h1
            have hmv : ∀ (v : Value) (n : Nat) (xs : List Value), OwnG wc 0 9 1 v n xs → (∀ k, v.ownBlock = some k → S k) → ∀ W : World, (∀ k, k ≠ w.heap.size → W.heap[k]? = (wc.alloc (.cells #[.int .i64 0] 30)).heap[k]?) → OwnG W 0 9 1 v n xs := fun v n xs h hs W hW => h.move fun k hk => by
              rw [hW k (by have := hp.ge k (hs k hk); omega)]; exact hbn.block k (h.block_lt k hk).2
            have HM1 := Lib.hid (hmv _ _ _ h2 s1)
            have HM2 := Lib.hid (hmv _ _ _ h3 s2)
            have HM3 := Lib.hid (hmv _ _ _ h4 s3)
            have HBEL := Lib.hid (hp.below.trans (hbn.mono hp.below.size))
            have hA := Lib.hid (as_nil (.iface 86 (.pointer (some ⟨wc.heap.size, 0, none⟩))) (wc.alloc (.cells #[.int .i64 0] 30)))
            obtain ⟨w4, hw4⟩ : ∃ w4, wc.alloc (.cells #[.int .i64 0] 30) = w4 := ⟨_, rfl⟩
            rw [hw4] at hrow4 ho4 HM1 HM2 HM3 HBEL hA
            clear hp hcut hbn h1 h2 h3 h4 s1 s2 s3 hmv H8 HPF
            go_wp2_with fail
            try rw [hw4]
            clear hw4
            refine hA.out.mono ?_
            rintro e w5 ⟨rfl, hw5⟩
            obtain rfl := hw5.symm
            have o0 := (rowo ho4 (j := 0) (v := .int .i64 x.j) rfl).1
            have o1 := (rowo ho4 (j := 1) (v := .bool (x.bs 1)) rfl).1
            have o2 := (rowo ho4 (j := 2) (v := .bool (x.bs 2)) rfl).1
            have o3 := (rowo ho4 (j := 3) (v := .bool (x.bs 3)) rfl).1
            have o4 := (rowo ho4 (j := 4) (v := .bool (x.bs 4)) rfl).1
            have o5 := (rowo ho4 (j := 5) (v := .bool (x.bs 5)) rfl).1
            have o6 := (rowo ho4 (j := 6) (v := .bool (x.bs 6)) rfl).1
            have o7 := (rowo ho4 (j := 7) (v := .bool (x.bs 7)) rfl).1
            have o8 := (rowo ho4 (j := 8) (v := .bool (x.bs 8)) rfl).1
            have o9 := (rowo ho4 (j := 9) (v := .bool (x.bs 9)) rfl).1
            have o10 := (rowo ho4 (j := 10) (v := .bool x.nv) rfl).1
            have o11 := (rowo ho4 (j := 11) (v := .slice F1 x.fs.length d1) rfl).1
            have o12 := (rowo ho4 (j := 12) (v := .slice F2 x.gs.length d2) rfl).1
            have o13 := (rowo ho4 (j := 13) (v := .slice F3 x.vs.length d3) rfl).1
            obtain ⟨b0, hb0⟩ : ∃ b0, w.heap.size = b0 := ⟨_, rfl⟩
            have HB0 := Lib.hid hb0
            rw [hb0] at hrow4 HM1 HM2 HM3 o0 o1 o2 o3 o4 o5 o6 o7 o8 o9 o10 o11 o12 o13 ⊢
            clear hb0 ho4
            have p0 := rowo hrow4 (j := 0) rfl
            obtain ⟨p0, q0⟩ := p0
            have p1 := rowo hrow4 (j := 1) rfl
            obtain ⟨p1, q1⟩ := p1
            have p2 := rowo hrow4 (j := 2) rfl
            obtain ⟨p2, q2⟩ := p2
            have p3 := rowo hrow4 (j := 3) rfl
            obtain ⟨p3, q3⟩ := p3
            have p4 := rowo hrow4 (j := 4) rfl
            obtain ⟨p4, q4⟩ := p4
            have p5 := rowo hrow4 (j := 5) rfl
            obtain ⟨p5, q5⟩ := p5
            have p6 := rowo hrow4 (j := 6) rfl
            obtain ⟨p6, q6⟩ := p6
            have p7 := rowo hrow4 (j := 7) rfl
            obtain ⟨p7, q7⟩ := p7
            have p8 := rowo hrow4 (j := 8) rfl
            obtain ⟨p8, q8⟩ := p8
            have p9 := rowo hrow4 (j := 9) rfl
            obtain ⟨p9, q9⟩ := p9
            have p10 := rowo hrow4 (j := 10) rfl
            obtain ⟨p10, q10⟩ := p10
            have p11 := rowo hrow4 (j := 11) rfl
            obtain ⟨p11, q11⟩ := p11
            have p12 := rowo hrow4 (j := 12) rfl
            obtain ⟨p12, q12⟩ := p12
            have p13 := rowo hrow4 (j := 13) rfl
            obtain ⟨p13, q13⟩ := p13
            have HR4 := Lib.hid hrow4
            clear hrow4
            have HFIN : Hid (∃ W6, W6 = put14 w4 b0 (.int .i64 x.j) (.bool (x.bs 1)) (.bool (x.bs 2)) (.bool (x.bs 3)) (.bool (x.bs 4)) (.bool (x.bs 5)) (.bool (x.bs 6)) (.bool (x.bs 7)) (.bool (x.bs 8)) (.bool (x.bs 9)) (.bool x.nv) (.slice F1 x.fs.length d1) (.slice F2 x.gs.length d2) (.slice F3 x.vs.length d3) ∧ (loadVar 47 ⟨b0, 0, none⟩).run Tryd.prog W6 = .ok (.agg (opRow x.j x.bs x.nv (.slice F1 x.fs.length d1) (.slice F2 x.gs.length d2) (.slice F3 x.vs.length d3))) W6 ∧ Below w.heap.size w W6 ∧ OpsIn W6 x (.agg (opRow x.j x.bs x.nv (.slice F1 x.fs.length d1) (.slice F2 x.gs.length d2) (.slice F3 x.vs.length d3)))) := by
              have ho : ∀ k, k ≠ b0 → (put14 w4 b0 (.int .i64 x.j) (.bool (x.bs 1)) (.bool (x.bs 2)) (.bool (x.bs 3)) (.bool (x.bs 4)) (.bool (x.bs 5)) (.bool (x.bs 6)) (.bool (x.bs 7)) (.bool (x.bs 8)) (.bool (x.bs 9)) (.bool x.nv) (.slice F1 x.fs.length d1) (.slice F2 x.gs.length d2) (.slice F3 x.vs.length d3)).heap[k]? = w4.heap[k]? := fun k hk => put14_other hk (.int .i64 x.j) (.bool (x.bs 1)) (.bool (x.bs 2)) (.bool (x.bs 3)) (.bool (x.bs 4)) (.bool (x.bs 5)) (.bool (x.bs 6)) (.bool (x.bs 7)) (.bool (x.bs 8)) (.bool (x.bs 9)) (.bool x.nv) (.slice F1 x.fs.length d1) (.slice F2 x.gs.length d2) (.slice F3 x.vs.length d3)
              have hs := set14 HR4.out (.int .i64 x.j) (.bool (x.bs 1)) (.bool (x.bs 2)) (.bool (x.bs 3)) (.bool (x.bs 4)) (.bool (x.bs 5)) (.bool (x.bs 6)) (.bool (x.bs 7)) (.bool (x.bs 8)) (.bool (x.bs 9)) (.bool x.nv) (.slice F1 x.fs.length d1) (.slice F2 x.gs.length d2) (.slice F3 x.vs.length d3)
              have hb := put14_below HBEL.out (Nat.le_of_eq HB0.out) (.int .i64 x.j) (.bool (x.bs 1)) (.bool (x.bs 2)) (.bool (x.bs 3)) (.bool (x.bs 4)) (.bool (x.bs 5)) (.bool (x.bs 6)) (.bool (x.bs 7)) (.bool (x.bs 8)) (.bool (x.bs 9)) (.bool x.nv) (.slice F1 x.fs.length d1) (.slice F2 x.gs.length d2) (.slice F3 x.vs.length d3)
              obtain ⟨W6, h⟩ : ∃ W, W = put14 w4 b0 (.int .i64 x.j) (.bool (x.bs 1)) (.bool (x.bs 2)) (.bool (x.bs 3)) (.bool (x.bs 4)) (.bool (x.bs 5)) (.bool (x.bs 6)) (.bool (x.bs 7)) (.bool (x.bs 8)) (.bool (x.bs 9)) (.bool x.nv) (.slice F1 x.fs.length d1) (.slice F2 x.gs.length d2) (.slice F3 x.vs.length d3) := ⟨_, rfl⟩
              rw [← h] at hs hb ho
              exact ⟨W6, h, load14 (W := W6) hs, hb, _, _, _, rfl, HM1.out _ ho, HM2.out _ ho, HM3.out _ ho⟩
            clear HM1 HM2 HM3
            go_wp2
            obtain ⟨W6, hW6, hl6, hb6, ho6⟩ := HFIN.out
            unfold put14 at hW6
            rw [← hW6]
            exact bodyPost_ret (results_c2 (t := 4) (i := 5) (by kernel_rfl) rfl hl6 rfl) rfl ⟨hb6, _, rfl, ho6⟩
end Go.Proofs.YtmcemaphhlcjfaaDoor
