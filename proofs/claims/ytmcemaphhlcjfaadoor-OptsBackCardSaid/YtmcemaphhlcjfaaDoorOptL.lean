/- A word of letters, as package opts does it; conditions: lists and texts that lie in memory. -/
import Derived.Test.YtmcemaphhlcjfaaDoorOptN
namespace Go.Proofs.YtmcemaphhlcjfaaDoor
open Go.RowKit

/-- what a letter with a value does -/
def doP (c : UInt8) (v : ByteArray) (x : Opx) : Option Opx := if c = 106 then (jobsP v).map (fun n => { x with j := n }) else some { x with fs := x.fs ++ [v] }
def letF (W : ByteArray) (l : List ByteArray) : Nat → Nat → Nat → Opx → Option (Opx × Nat)
  | 0, _, p, x => some (x, p)
  | f + 1, i, p, x => if i < W.size then
      (if W.get! i = 106 ∨ W.get! i = 102 then
        (if (W.extract (i + 1) W.size).data.toList = [] then (match l[p]? with
          | none => none
          | some v => (doP (W.get! i) v x).map fun x => (x, p + 1))
        else (doP (W.get! i) (W.extract (i + 1) W.size) x).map fun x => (x, p))
      else if plN (W.get! i) ≠ 0 then letF W l f (i + 1) p { x with bs := upd x.bs (plN (W.get! i)) } else none)
    else some (x, p)
def Uc (S : Nat → Prop) (cb : Nat) : Nat → Prop := fun k => S k ∨ k = cb
theorem Nx.weak {W W' : World} {S S' : Nat → Prop} (h : Nx W S W' S') (cb : Nat) : Nx W (Uc S cb) W' (Uc S' cb) :=
  ⟨h.os, h.tape, h.output, h.size, fun k hk hn => h.block k hk (fun q => hn (.inl q)), fun k hk => hk.elim (fun q => (h.grow k q).elim (fun a => .inl (.inl a)) .inr) (fun q => .inl (.inr q))⟩
theorem Nx.ctr {W : World} (S : Nat → Prop) (cb j : Nat) (u : Value) : Nx W (Uc S cb) (W.setCell ⟨cb, j, none⟩ u) (Uc S cb) :=
  ⟨rfl, rfl, rfl, by simp [World.setCell], fun k _ hn => Below.heap_setCell _ _ _ _ (fun e => hn (.inr e)), fun _ h => .inl h⟩
theorem op_other {W : World} {ob : Nat} {S : Nat → Prop} {x : Opx} (h : OpAt W ob S x) {b : Nat} (hb : ¬ S b) (j : Nat) (u : Value) : OpAt (W.setCell ⟨b, j, none⟩ u) ob S x := by
  obtain ⟨vf, vg, vv, h1, h2, h3, h4, h5, h6, h7, hS, r1, r2, r3⟩ := h
  have mv : ∀ {v : Value} {n : Nat} {xs : List Value}, OwnG W 0 9 1 v n xs → (∀ k, v.ownBlock = some k → S k) → OwnG (W.setCell ⟨b, j, none⟩ u) 0 9 1 v n xs := fun h r => h.move fun k hk => Below.heap_setCell _ _ _ _ (fun e => hb (by have := r k hk; rwa [e] at this))
  exact ⟨vf, vg, vv, by rw [Below.heap_setCell _ _ _ _ (fun e => hb (by have := hS; rwa [e] at this))]; exact h1, mv h2 r1, mv h3 r2, mv h4 r3, h5, h6, h7, hS, r1, r2, r3⟩
/-- how the letters end -/
def LtA (ob cb : Nat) (S : Nat → Prop) (w : World) (r : Option (Opx × Nat)) (e : Ending) (W' : World) : Prop := match r with
  | none => e = .returned (.bool false) ∧ ∃ S' x' p', OpAt W' ob S' x' ∧ Nx w (Uc S cb) W' (Uc S' cb) ∧ W'.heap[cb]? = some (.cells #[.int .i64 (p' : Nat)] 3 (0, 0)) ∧ ¬ S' cb
  | some (x', p') => e = .returned (.bool true) ∧ ∃ S', OpAt W' ob S' x' ∧ Nx w (Uc S cb) W' (Uc S' cb) ∧ W'.heap[cb]? = some (.cells #[.int .i64 p'] 3 (0, 0)) ∧ ¬ S' cb
theorem do_any (ob : Nat) (S : Nat → Prop) (x : Opx) (c : UInt8) (hc : c = 106 ∨ c = 102) (v : ByteArray) (w : World) (h : OpAt w ob S x) (hv : v.size ≤ 140737488351232) (hl : x.fs.length ≤ 1000000) :
    Calls Tryd.prog (if c = 106 then 107 else 108) #[.pointer (some ⟨ob, 0, none⟩), .string v] w fun e w' => JbA ob S x w (doP c v x) e w' := by
  rcases hc with rfl | rfl
  · exact jobs_any ob S x v w h hv
  · exact file_any ob S x v w h hl

set_option maxRecDepth 100000 in
set_option maxHeartbeats 4000000 in
theorem letters_any (ob cb lb : Nat) (S : Nat → Prop) (x : Opx) (W : ByteArray) (A : Option Addr) (ca : Nat) (l : List ByteArray) (p : Nat) (w : World) (h : OpAt w ob S x) (hSc : ¬ S cb) (_ : CtAt w cb lb A ca l p) (hkeep : ∀ w', Nx w S w' S → CtAt w' cb lb A ca l p)
    (hW : W.size ≤ 140737488351232) (hW1 : 1 ≤ W.size) (hz : ∀ v ∈ l, v.size ≤ 140737488351232) (hxl : x.fs.length ≤ 1000000) :
    Calls Tryd.prog 88 #[.pointer (some ⟨ob, 0, none⟩), .string W, .func (.func 86) #[] #[.pointer (some ⟨cb, 0, none⟩), .pointer (some ⟨lb, 0, none⟩)]] w fun e w' => LtA ob cb S w (letF W l (W.size + 1) 1 p x) e w' := by
  obtain ⟨R, hR⟩ : ∃ R, letF W l (W.size + 1) 1 p x = R := ⟨_, rfl⟩
  rw [hR]
  have HR := Lib.hid hR
  have HX := Lib.hid h
  have HZ := Lib.hid hz
  have HK := Lib.hid hkeep
  have hSc := hSc
  clear hR h hz hkeep
  go_enter Tryd.func88, Tryd.ntmps88
  go_wp2
  go_loopw [7, 8, 9, 10] (fun iv _ _ _ wi => ∃ (i f : Nat) (y : Opx), iv = .int .i64 i ∧ 1 ≤ i ∧ i ≤ W.size ∧ W.size < f + i ∧ y.fs.length ≤ 1000000 ∧ Hid (OpAt wi ob S y) ∧ Hid (Nx w S wi S) ∧ Hid (letF W l f i p y = R)) (fun iv _ _ _ _ => W.size - (intOf iv).toNat)
  case atStart => exact ⟨1, W.size + 1, x, rfl, Nat.le_refl _, hW1, by omega, hxl, HX, Nx.refl _ _, HR⟩
  case round =>
    obtain ⟨i, f, y, rfl, hi1, hi2, hf, hyl, HY, HNx, hr⟩ := hrel
    have HC := Lib.hid (HK.out wr HNx.out)
    obtain ⟨f, rfl⟩ : ∃ g, f = g + 1 := ⟨f - 1, by omega⟩
    have hst := hr.out
    rw [letF] at hst
    clear hr
    by_cases hlt : i < W.size
    · rw [if_pos hlt] at hst
      have hb := bget W i hlt
      obtain ⟨c, hc⟩ : ∃ c, W[i] = c := ⟨_, rfl⟩
      rw [hc] at hb
      have qi : (i : Int) < W.size := by omega
      have wi1 : IntKind.i64.wrap ((i : Int) + 1) = ((i + 1 : Nat) : Int) := by rw [IntWalk.i64_in _ (by omega)]; omega
      have qi1 : ((i + 1 : Nat) : Int) ≤ W.size := by omega
      by_cases h106 : W.get! i = 106
      · have n106 : ((c.toNat : Int) == 106) = true := by rw [hb, h106]; rfl
        have hst2 := hst
        rw [if_pos (by rw [h106]; decide)] at hst2
        have hgk : W.get! i = 106 := h106
        rw [hgk] at hst2
        by_cases hem : (W.extract (i + 1) W.size).data.toList = []
        · rw [if_pos hem] at hst2
          have he2 : ((W.extract (i + 1) W.size).toList == []) = true := by rw [ba_toList, hem]; rfl
          cases hlp : l[p]? with
          | none =>
            rw [hlp] at hst2
            have HN := Lib.hid (next_end cb lb A ca l p wr HC.out (by intro hh; rw [List.getElem?_eq_getElem hh] at hlp; cases hlp))
            subst hst2
            clear hst hlp hem hgk hb h106
            go_wp2_with fail
            refine HN.out.mono ?_
            rintro e w1 ⟨rfl, hw1⟩
            obtain rfl := hw1.symm
            go_wp2
            go_ret
            exact ⟨rfl, S, y, p, HY.out, HNx.out.weak cb, HC.out.ctr, hSc⟩
          | some v =>
            rw [hlp] at hst2
            have HN := Lib.hid (next_one cb lb A ca l p wr HC.out v hlp)
            have hvz : v.size ≤ 140737488351232 := HZ.out v (List.mem_of_getElem? hlp)
            obtain ⟨rr, hrr⟩ : ∃ rr, doP 106 v y = rr := ⟨_, rfl⟩
            simp only [hrr] at hst2
            have HRR := Lib.hid hst2
            clear hst hlp hem hgk hst2 hb h106
            go_wp2_with fail
            refine HN.out.mono ?_
            rintro e w1 ⟨rfl, hw1⟩
            have hy1 : OpAt w1 ob S y := by rw [hw1]; exact op_other HY.out hSc 0 _
            have hcr : w1.heap[cb]? = some (.cells #[.int .i64 ((p + 1 : Nat) : Int)] 3 (0, 0)) := by
              rw [hw1]
              have := heap_setCell_same wr cb 0 _ 3 (.int .i64 ((p : Int) + 1)) HC.out.ctr
              simpa using this
            have hnx1 : Nx w (Uc S cb) w1 (Uc S cb) := by rw [hw1]; exact (HNx.out.weak cb).trans (Nx.ctr S cb 0 _)
            have HCR := Lib.hid hcr
            have HNX := Lib.hid hnx1
            have HD := Lib.hid (do_any ob S y 106 (by decide) v w1 hy1 hvz hyl)
            rw [hrr] at HD
            rw [show (if (106 : UInt8) = 106 then (107 : Nat) else 108) = 107 from rfl] at HD
            clear hw1 hy1 hcr hnx1 hrr
            go_wp2_with fail
            refine HD.out.mono ?_
            rintro e wz ha
            cases rr with
            | none =>
              obtain ⟨rfl, S', x', hx', hn'⟩ : e = .returned (.bool false) ∧ ∃ S' x', OpAt wz ob S' x' ∧ Nx _ S wz S' := ha
              have hRR : none = R := HRR.out
              subst hRR
              have hcb' := (hn'.block cb (by have := lt_of_block HCR.out; exact this) hSc).trans HCR.out
              have hSc' : ¬ S' cb := fun q => (hn'.grow cb q).elim hSc (fun z => by have := lt_of_block HCR.out; omega)
              have HF := Lib.hid (And.intro hx' (And.intro (HNX.out.trans (hn'.weak cb)) (And.intro hcb' hSc')))
              clear hx' hn' hcb' hSc'
              go_wp2
              go_ret
              exact ⟨rfl, S', x', (p + 1), HF.out.1, HF.out.2.1, HF.out.2.2⟩
            | some x' =>
              obtain ⟨rfl, S', hx', hn'⟩ : e = .returned (.bool true) ∧ ∃ S', OpAt wz ob S' x' ∧ Nx _ S wz S' := ha
              have hRR : some (x', (p + 1)) = R := HRR.out
              subst hRR
              have hcb' := (hn'.block cb (by have := lt_of_block HCR.out; exact this) hSc).trans HCR.out
              have hSc' : ¬ S' cb := fun q => (hn'.grow cb q).elim hSc (fun z => by have := lt_of_block HCR.out; omega)
              have HF := Lib.hid (And.intro hx' (And.intro (HNX.out.trans (hn'.weak cb)) (And.intro hcb' hSc')))
              clear hx' hn' hcb' hSc'
              go_wp2
              go_ret
              exact ⟨rfl, S', HF.out.1, HF.out.2.1, HF.out.2.2⟩
        · rw [if_neg hem] at hst2
          have he2 : ((W.extract (i + 1) W.size).toList == []) = false := by rw [ba_toList, beq_eq_false_iff_ne]; exact hem
          obtain ⟨rest, hrest⟩ : ∃ rest, W.extract (i + 1) W.size = rest := ⟨_, rfl⟩
          have hrz : rest.size ≤ 140737488351232 := by rw [← hrest]; simp; omega
          rw [hrest] at hst2 he2
          obtain ⟨rr, hrr⟩ : ∃ rr, doP 106 rest y = rr := ⟨_, rfl⟩
          rw [hrr] at hst2
          have HRR := Lib.hid hst2
          have HD := Lib.hid (do_any ob S y 106 (by decide) rest wr HY.out hrz hyl)
          rw [hrr] at HD
          rw [show (if (106 : UInt8) = 106 then (107 : Nat) else 108) = 107 from rfl] at HD
          clear hst hem hgk hst2 hrr hb h106
          go_wp2_with fail
          refine HD.out.mono ?_
          rintro e wz ha
          cases rr with
          | none =>
            obtain ⟨rfl, S', x', hx', hn'⟩ : e = .returned (.bool false) ∧ ∃ S' x', OpAt wz ob S' x' ∧ Nx _ S wz S' := ha
            have hRR : none = R := HRR.out
            subst hRR
            have hcb' := (hn'.block cb (by have := lt_of_block HC.out.ctr; exact this) hSc).trans HC.out.ctr
            have hSc' : ¬ S' cb := fun q => (hn'.grow cb q).elim hSc (fun z => by have := lt_of_block HC.out.ctr; omega)
            have HF := Lib.hid (And.intro hx' (And.intro ((HNx.out.weak cb).trans (hn'.weak cb)) (And.intro hcb' hSc')))
            clear hx' hn' hcb' hSc'
            go_wp2
            go_ret
            exact ⟨rfl, S', x', p, HF.out.1, HF.out.2.1, HF.out.2.2⟩
          | some x' =>
            obtain ⟨rfl, S', hx', hn'⟩ : e = .returned (.bool true) ∧ ∃ S', OpAt wz ob S' x' ∧ Nx _ S wz S' := ha
            have hRR : some (x', p) = R := HRR.out
            subst hRR
            have hcb' := (hn'.block cb (by have := lt_of_block HC.out.ctr; exact this) hSc).trans HC.out.ctr
            have hSc' : ¬ S' cb := fun q => (hn'.grow cb q).elim hSc (fun z => by have := lt_of_block HC.out.ctr; omega)
            have HF := Lib.hid (And.intro hx' (And.intro ((HNx.out.weak cb).trans (hn'.weak cb)) (And.intro hcb' hSc')))
            clear hx' hn' hcb' hSc'
            go_wp2
            go_ret
            exact ⟨rfl, S', HF.out.1, HF.out.2.1, HF.out.2.2⟩
      by_cases h102 : W.get! i = 102
      · have n106 : ((c.toNat : Int) == 106) = false := by rw [hb, h102]; rfl
        have n102 : ((c.toNat : Int) == 102) = true := by rw [hb, h102]; rfl
        have hst2 := hst
        rw [if_pos (by rw [h102]; decide)] at hst2
        have hgk : W.get! i = 102 := h102
        rw [hgk] at hst2
        by_cases hem : (W.extract (i + 1) W.size).data.toList = []
        · rw [if_pos hem] at hst2
          have he2 : ((W.extract (i + 1) W.size).toList == []) = true := by rw [ba_toList, hem]; rfl
          cases hlp : l[p]? with
          | none =>
            rw [hlp] at hst2
            have HN := Lib.hid (next_end cb lb A ca l p wr HC.out (by intro hh; rw [List.getElem?_eq_getElem hh] at hlp; cases hlp))
            subst hst2
            clear hst hlp hem hgk hb h106 h102
            go_wp2_with fail
            refine HN.out.mono ?_
            rintro e w1 ⟨rfl, hw1⟩
            obtain rfl := hw1.symm
            go_wp2
            go_ret
            exact ⟨rfl, S, y, p, HY.out, HNx.out.weak cb, HC.out.ctr, hSc⟩
          | some v =>
            rw [hlp] at hst2
            have HN := Lib.hid (next_one cb lb A ca l p wr HC.out v hlp)
            have hvz : v.size ≤ 140737488351232 := HZ.out v (List.mem_of_getElem? hlp)
            obtain ⟨rr, hrr⟩ : ∃ rr, doP 102 v y = rr := ⟨_, rfl⟩
            simp only [hrr] at hst2
            have HRR := Lib.hid hst2
            clear hst hlp hem hgk hst2 hb h106 h102
            go_wp2_with fail
            refine HN.out.mono ?_
            rintro e w1 ⟨rfl, hw1⟩
            have hy1 : OpAt w1 ob S y := by rw [hw1]; exact op_other HY.out hSc 0 _
            have hcr : w1.heap[cb]? = some (.cells #[.int .i64 ((p + 1 : Nat) : Int)] 3 (0, 0)) := by
              rw [hw1]
              have := heap_setCell_same wr cb 0 _ 3 (.int .i64 ((p : Int) + 1)) HC.out.ctr
              simpa using this
            have hnx1 : Nx w (Uc S cb) w1 (Uc S cb) := by rw [hw1]; exact (HNx.out.weak cb).trans (Nx.ctr S cb 0 _)
            have HCR := Lib.hid hcr
            have HNX := Lib.hid hnx1
            have HD := Lib.hid (do_any ob S y 102 (by decide) v w1 hy1 hvz hyl)
            rw [hrr] at HD
            rw [show (if (102 : UInt8) = 106 then (107 : Nat) else 108) = 108 from rfl] at HD
            clear hw1 hy1 hcr hnx1 hrr
            go_wp2_with fail
            refine HD.out.mono ?_
            rintro e wz ha
            cases rr with
            | none =>
              obtain ⟨rfl, S', x', hx', hn'⟩ : e = .returned (.bool false) ∧ ∃ S' x', OpAt wz ob S' x' ∧ Nx _ S wz S' := ha
              have hRR : none = R := HRR.out
              subst hRR
              have hcb' := (hn'.block cb (by have := lt_of_block HCR.out; exact this) hSc).trans HCR.out
              have hSc' : ¬ S' cb := fun q => (hn'.grow cb q).elim hSc (fun z => by have := lt_of_block HCR.out; omega)
              have HF := Lib.hid (And.intro hx' (And.intro (HNX.out.trans (hn'.weak cb)) (And.intro hcb' hSc')))
              clear hx' hn' hcb' hSc'
              go_wp2
              go_ret
              exact ⟨rfl, S', x', (p + 1), HF.out.1, HF.out.2.1, HF.out.2.2⟩
            | some x' =>
              obtain ⟨rfl, S', hx', hn'⟩ : e = .returned (.bool true) ∧ ∃ S', OpAt wz ob S' x' ∧ Nx _ S wz S' := ha
              have hRR : some (x', (p + 1)) = R := HRR.out
              subst hRR
              have hcb' := (hn'.block cb (by have := lt_of_block HCR.out; exact this) hSc).trans HCR.out
              have hSc' : ¬ S' cb := fun q => (hn'.grow cb q).elim hSc (fun z => by have := lt_of_block HCR.out; omega)
              have HF := Lib.hid (And.intro hx' (And.intro (HNX.out.trans (hn'.weak cb)) (And.intro hcb' hSc')))
              clear hx' hn' hcb' hSc'
              go_wp2
              go_ret
              exact ⟨rfl, S', HF.out.1, HF.out.2.1, HF.out.2.2⟩
        · rw [if_neg hem] at hst2
          have he2 : ((W.extract (i + 1) W.size).toList == []) = false := by rw [ba_toList, beq_eq_false_iff_ne]; exact hem
          obtain ⟨rest, hrest⟩ : ∃ rest, W.extract (i + 1) W.size = rest := ⟨_, rfl⟩
          have hrz : rest.size ≤ 140737488351232 := by rw [← hrest]; simp; omega
          rw [hrest] at hst2 he2
          obtain ⟨rr, hrr⟩ : ∃ rr, doP 102 rest y = rr := ⟨_, rfl⟩
          rw [hrr] at hst2
          have HRR := Lib.hid hst2
          have HD := Lib.hid (do_any ob S y 102 (by decide) rest wr HY.out hrz hyl)
          rw [hrr] at HD
          rw [show (if (102 : UInt8) = 106 then (107 : Nat) else 108) = 108 from rfl] at HD
          clear hst hem hgk hst2 hrr hb h106 h102
          go_wp2_with fail
          refine HD.out.mono ?_
          rintro e wz ha
          cases rr with
          | none =>
            obtain ⟨rfl, S', x', hx', hn'⟩ : e = .returned (.bool false) ∧ ∃ S' x', OpAt wz ob S' x' ∧ Nx _ S wz S' := ha
            have hRR : none = R := HRR.out
            subst hRR
            have hcb' := (hn'.block cb (by have := lt_of_block HC.out.ctr; exact this) hSc).trans HC.out.ctr
            have hSc' : ¬ S' cb := fun q => (hn'.grow cb q).elim hSc (fun z => by have := lt_of_block HC.out.ctr; omega)
            have HF := Lib.hid (And.intro hx' (And.intro ((HNx.out.weak cb).trans (hn'.weak cb)) (And.intro hcb' hSc')))
            clear hx' hn' hcb' hSc'
            go_wp2
            go_ret
            exact ⟨rfl, S', x', p, HF.out.1, HF.out.2.1, HF.out.2.2⟩
          | some x' =>
            obtain ⟨rfl, S', hx', hn'⟩ : e = .returned (.bool true) ∧ ∃ S', OpAt wz ob S' x' ∧ Nx _ S wz S' := ha
            have hRR : some (x', p) = R := HRR.out
            subst hRR
            have hcb' := (hn'.block cb (by have := lt_of_block HC.out.ctr; exact this) hSc).trans HC.out.ctr
            have hSc' : ¬ S' cb := fun q => (hn'.grow cb q).elim hSc (fun z => by have := lt_of_block HC.out.ctr; omega)
            have HF := Lib.hid (And.intro hx' (And.intro ((HNx.out.weak cb).trans (hn'.weak cb)) (And.intro hcb' hSc')))
            clear hx' hn' hcb' hSc'
            go_wp2
            go_ret
            exact ⟨rfl, S', HF.out.1, HF.out.2.1, HF.out.2.2⟩
      have hne : ¬ (W.get! i = 106 ∨ W.get! i = 102) := fun h => h.elim h106 h102
      rw [if_neg hne] at hst
      rw [← hb] at hst h106 h102
      have n106 : ((c.toNat : Int) == 106) = false := beq_eq_false_iff_ne.2 (fun e => h106 (UInt8.toNat_inj.1 (by show _ = 106; omega)))
      have n102 : ((c.toNat : Int) == 102) = false := beq_eq_false_iff_ne.2 (fun e => h102 (UInt8.toNat_inj.1 (by show _ = 102; omega)))
      have HS := Lib.hid (set_any ob S y c wr HY.out)
      obtain ⟨n, hn⟩ : ∃ n, plN c = n := ⟨_, rfl⟩
      rw [hn] at hst HS
      clear hne h106 h102 hb hn
      by_cases h0 : n = 0
      · subst h0
        rw [if_neg (by decide)] at hst
        subst hst
        rw [if_neg (by decide)] at HS
        go_wp2_with fail
        refine HS.out.mono ?_
        rintro e w1 ⟨rfl, hy1, hn1⟩
        have HF := Lib.hid (And.intro hy1 (HNx.out.trans hn1))
        have HC1 := Lib.hid (HK.out w1 (HNx.out.trans hn1)).ctr
        clear hy1 hn1
        go_wp2
        go_ret
        exact ⟨rfl, S, y, p, HF.out.1, HF.out.2.weak cb, HC1.out, hSc⟩
      · rw [if_pos h0] at hst
        rw [decide_eq_true h0, if_pos h0] at HS
        have HST := Lib.hid hst
        clear hst
        go_wp2_with fail
        refine HS.out.mono ?_
        rintro e w1 ⟨rfl, hy1, hn1⟩
        have HY1 := Lib.hid hy1
        have HN1 := Lib.hid (HNx.out.trans hn1)
        clear hy1 hn1
        go_wp2
        exact ⟨⟨i + 1, f, { y with bs := upd y.bs n }, by go_num, by omega, by omega, by omega, hyl, HY1, HN1, HST⟩, by simp [intOf]; omega⟩
    · rw [if_neg hlt] at hst
      subst hst
      have HCC := Lib.hid HC.out.ctr
      obtain rfl : i = W.size := by omega
      go_wp2
      go_ret
      exact ⟨rfl, S, HY.out, HNx.out.weak cb, HCC.out, hSc⟩
end Go.Proofs.YtmcemaphhlcjfaaDoor
