/- The words of a list, as package opts does them; conditions: lists and texts that lie in memory, the library's one number in its cell. -/
import Derived.Test.YtmcemaphhlcjfaaDoorOptU
import Derived.Lib.Bytes2
namespace Go.Proofs.YtmcemaphhlcjfaaDoor
open Go.RowKit Go.Maps

theorem eq_of_toList (W : ByteArray) (L : List UInt8) (b : Bool) (h : decide (W.data.toList = L) = b) : (W.toList == L) = b := by
  rw [ba_toList, ← h]
  by_cases q : W.data.toList = L
  · rw [decide_eq_true q, beq_iff_eq]; exact q
  · rw [decide_eq_false q, beq_eq_false_iff_ne]; exact q
theorem WsAt.max {w : World} {S0 : Nat → Prop} {ob cb lb mb : Nat} {Bx : Nat → Nat} {A : Option Addr} {ca : Nat} {l : List ByteArray} {wi : World} {S : Nat → Prop} {x : Opx} {p : Nat} (h : WsAt w S0 ob cb lb mb Bx A ca l wi S x p) {m : Int}
    (hm : w.cell? ⟨1, 0, none⟩ = some (.int .i64 m)) (hS : ¬ S0 1) : wi.cell? ⟨1, 0, none⟩ = some (.int .i64 m) := by
  rw [← hm]; exact World.cell?_of_block (h.nx.block 1 (World.block_lt_of_cell? _ _ hm) hS)
theorem WsAt.next {w : World} {S0 : Nat → Prop} {ob cb lb mb : Nat} {Bx : Nat → Nat} {A : Option Addr} {ca : Nat} {l : List ByteArray} {wi : World} {S : Nat → Prop} {x : Opx} {p : Nat} (h : WsAt w S0 ob cb lb mb Bx A ca l wi S x p) (ap : Apart cb lb mb Bx A) :
    WsAt w S0 ob cb lb mb Bx A ca l (wi.setCell ⟨cb, 0, none⟩ (.int .i64 ((p : Int) + 1))) S x (p + 1) := by
  have hcr : (wi.setCell ⟨cb, 0, none⟩ (.int .i64 ((p : Int) + 1))).heap[cb]? = some (.cells #[.int .i64 ((p + 1 : Nat) : Int)] 3 (0, 0)) := by
    have := heap_setCell_same wi cb 0 _ 3 (.int .i64 ((p : Int) + 1)) h.ct.ctr
    simpa using this
  exact h.step ap (op_other h.op h.far.c 0 _) (Nx.ctr S cb 0 _) hcr h.far.c
theorem WsAt.below {w : World} {S0 : Nat → Prop} {ob cb lb mb : Nat} {Bx : Nat → Nat} {A : Option Addr} {ca : Nat} {l : List ByteArray} {wi : World} {S : Nat → Prop} {x : Opx} {p : Nat} (h : WsAt w S0 ob cb lb mb Bx A ca l wi S x p) (ap : Apart cb lb mb Bx A)
    {w2 : World} (hb : Below wi.heap.size wi w2) : WsAt w S0 ob cb lb mb Bx A ca l w2 S x p :=
  h.step ap (h.op.below hb) (Nx.of_below _ hb) ((hb.block _ (lt_of_block h.ct.ctr)).trans h.ct.ctr) h.far.c
theorem WsAt.also {w : World} {S0 : Nat → Prop} {ob cb lb mb : Nat} {Bx : Nat → Nat} {A : Option Addr} {ca : Nat} {l : List ByteArray} {wi : World} {S : Nat → Prop} {x : Opx} {p : Nat} (h : WsAt w S0 ob cb lb mb Bx A ca l wi S x p) (ap : Apart cb lb mb Bx A)
    {w2 : World} {S2 : Nat → Prop} {x2 : Opx} (ho : OpAt w2 ob S2 x2) (hn : Nx wi S w2 S2) : WsAt w S0 ob cb lb mb Bx A ca l w2 S2 x2 p :=
  h.step ap ho (hn.weak cb) ((hn.block _ (lt_of_block h.ct.ctr) h.far.c).trans h.ct.ctr) (fun q => (hn.grow cb q).elim h.far.c (fun z => by have := lt_of_block h.ct.ctr; omega))
theorem fld24i (k : Int) (a b c d : ByteArray) (e : Int) (f g : Bool) (w : World) : (Instr.field 24 (.agg #[.int .i64 k, .string a, .string b, .string c, .string d, .int .i64 e, .bool f, .bool g]) 0).run Tryd.prog w = .ok (.int .i64 k) w := by
  kernel_rfl
theorem WsAt.ctk {w : World} {S0 : Nat → Prop} {ob cb lb mb : Nat} {Bx : Nat → Nat} {A : Option Addr} {ca : Nat} {l : List ByteArray} {wi : World} {S : Nat → Prop} {x : Opx} {p : Nat} (h : WsAt w S0 ob cb lb mb Bx A ca l wi S x p) {w2 : World} {S2 : Nat → Prop} (hn : Nx wi S w2 S2) : CtAt w2 cb lb A ca l p := by
  have hcell : ∀ b o v, wi.cell? ⟨b, o, none⟩ = some v → ¬ S b → w2.cell? ⟨b, o, none⟩ = some v := fun b o v hv h1 => by
    rw [← hv]; exact World.cell?_of_block (hn.block b (World.block_lt_of_cell? _ _ hv) h1)
  refine ⟨(hn.block _ (lt_of_block h.ct.ctr) h.far.c).trans h.ct.ctr, hcell lb 0 _ h.ct.box h.far.l, fun j y hj => ?_, h.ct.ne, h.ct.ne2, h.ct.cap, h.ct.len⟩
  obtain ⟨g, off, hA, hv⟩ := h.ct.at_ j y hj
  exact ⟨g, off, hA, hcell g _ _ hv (h.far.a g off hA)⟩
theorem store_nilF (W : World) (a : Addr) (old : Value) (hc : W.cell? a = some old) (hf : W.frozen? a = false) : (store a .nilFunc).run Tryd.prog W = .ok () (W.setCell a .nilFunc) := by
  rw [run_store Tryd.prog W a _ _ (by rfl)]
  simp [hc, hf]
theorem ws_drew (wi : World) (n : Nat) : Below wi.heap.size wi (wi.drewN n) := below_drewN (Below.refl _ _) n

set_option maxRecDepth 100000 in
set_option maxHeartbeats 16000000 in
theorem opwords_any (ob : Nat) (S : Nat → Prop) (x : Opx) (A : Option Addr) (ca : Nat) (l : List ByteArray) (own : Bool) (N : Nat) (w : World) (h : OpAt w ob S x) (hSlt : ∀ k, S k → k < w.heap.size) (hS1 : ¬ S 1) (hA : StrsAt w A l) (hAS : ∀ g off, A = some ⟨g, off, none⟩ → ¬ S g ∧ g < w.heap.size)
    (hca : l.length ≤ ca) (hN : N + l.length ≤ 900000) (hz : ∀ v ∈ l, v.size ≤ 1000000) (hfit : fitB N x) (m : Int) (hm : w.cell? ⟨1, 0, none⟩ = some (.int .i64 m)) :
    Calls Tryd.prog 57 #[.pointer (some ⟨ob, 0, none⟩), .slice A l.length ca, .bool own] w fun e w' => WdA ob S w (wordsF own l (l.length + 1) 0 false x) e w' := by
  obtain ⟨R, hR⟩ : ∃ R, wordsF own l (l.length + 1) 0 false x = R := ⟨_, rfl⟩
  rw [hR]
  have HR := Lib.hid hR
  have HZ := Lib.hid hz
  have HM := Lib.hid hm
  have HL := Lib.hid (long_any (w.alloc (.cells #[.slice A l.length ca] 27)))
  have HST := Lib.hid fun (w1 : World) (mb : Nat) (Bx : Nat → Nat) hg => ws_start (mb := mb) (w1 := w1) (Bx := Bx) h hSlt hA hAS hca (show l.length ≤ 900000 by omega) hg
  have hmf : ∀ (fn : Fn) (first cap : Array Value) (w : World), (Instr.makeFunc fn first cap).run Tryd.prog w = .ok (.func fn first cap) w := fun _ _ _ _ => rfl
  have HFIT := Lib.hid hfit
  have HS1 := Lib.hid hS1
  clear hR h hz hm hA hAS hSlt hfit hS1
  go_enter Tryd.func57, Tryd.ntmps57
  go_wp2_with fail
  refine HL.out.mono ?_
  rintro e w1 ⟨mb, Bx, rfl, hg⟩
  have HG := Lib.hid (HST.out w1 mb Bx hg)
  clear hg HL HST
  go_wp2
  have HWS := Lib.hid HG.out.1
  have HAP := Lib.hid HG.out.2
  clear HG
  obtain ⟨w3, hw3⟩ : ∃ w3, w1.alloc (.cells #[.int .i64 (0 : Nat)] 3) = w3 := ⟨_, rfl⟩
  rw [hw3] at HWS
  rw [show (w1.alloc (.cells #[.int .i64 0] 3)) = w3 from hw3]
  obtain ⟨cb, hcb⟩ : ∃ cb, w1.heap.size = cb := ⟨_, rfl⟩
  obtain ⟨lb, hlb⟩ : ∃ lb, w.heap.size = lb := ⟨_, rfl⟩
  rw [hcb] at HWS HAP ⊢
  rw [hlb] at HWS HAP ⊢
  clear hw3 hcb hlb hmf
  go_loopw [8, 11, 12, 13, 14, 15, 16, 17] (fun pl _ _ _ _ _ _ _ wi => Hid (WRel own R N w S ob cb lb mb Bx A ca l pl wi)) (fun _ _ _ _ _ _ _ _ wi => l.length - ctOf wi cb)
  case atStart => exact ⟨false, 0, l.length + 1, x, S, rfl, Nat.zero_le _, by omega, HFIT.out, HWS.out, HR.out⟩
  case round =>
    obtain ⟨plain, p, f, y, S', rfl, hp, hf, hfy, hws, hr⟩ := hrel.out
    clear hrel HWS HFIT
    have HW0 := Lib.hid hws
    obtain ⟨f, rfl⟩ : ∃ g, f = g + 1 := ⟨f - 1, by omega⟩
    cases hlp : l[p]? with
    | none =>
      have hst := hr
      rw [wordsF_none hlp] at hst
      clear hr
      have HN := Lib.hid (next_end cb lb A ca l p wr HW0.out.ct (by intro hh; rw [List.getElem?_eq_getElem hh] at hlp; cases hlp))
      subst hst
      clear hlp hws hfy
      go_wp2_with fail
      refine HN.out.mono ?_
      rintro e w1 ⟨rfl, hw1⟩
      obtain rfl := hw1.symm
      go_wp2
      go_ret
      exact ⟨rfl, S', HW0.out.op, HW0.out.nx⟩
    | some W =>
      have hst := hr
      rw [wordsF_some hlp] at hst
      clear hr
      have HN := Lib.hid (next_one cb lb A ca l p wr HW0.out.ct W hlp)
      have hpl : p < l.length := (List.getElem?_eq_some_iff.1 hlp).1
      have hWz : W.size ≤ 1000000 := HZ.out W (List.mem_of_getElem? hlp)
      have HF0 := Lib.hid hfy
      obtain ⟨st, hstp⟩ : ∃ st, wstep own plain l W (p + 1) y = st := ⟨_, rfl⟩
      have HE := Lib.hid (show wgo own l f st = R by rw [← hstp]; exact hst)
      clear hst hlp hws hfy hp
      go_wp2_with fail
      refine HN.out.mono ?_
      rintro e w1 ⟨rfl, hw1⟩
      have HW1 := Lib.hid (show WsAt w S ob cb lb mb Bx A ca l w1 S' y (p + 1) by rw [hw1]; exact HW0.out.next HAP.out)
      clear hw1 HN
      unfold wstep at hstp
      by_cases hA1 : W.data.toList = []
      · rw [if_pos (.inl hA1)] at hstp
        subst hstp
        have e1 := eq_of_toList W [] true (decide_eq_true hA1)
        have HC := Lib.hid (WRel.mk' HW0.out hpl HW1.out (by omega) (by omega) (by omega) (HF0.out.up (Nat.le_succ _)) HE.out)
        clear hA1
        go_wp2
        exact ⟨HC.out.1, HC.out.2⟩
      have e1 := eq_of_toList W [] false (decide_eq_false hA1)
      have hW1 : 1 ≤ W.size := by
        have : W.data.toList.length ≠ 0 := fun h => hA1 (List.eq_nil_of_length_eq_zero h)
        have q : W.data.toList.length = W.size := Array.length_toList ..
        omega
      by_cases hA2 : W.data.toList = [45]
      · rw [if_pos (.inr hA2)] at hstp
        subst hstp
        have e2 := eq_of_toList W [45] true (decide_eq_true hA2)
        have HC := Lib.hid (WRel.mk' HW0.out hpl HW1.out (by omega) (by omega) (by omega) (HF0.out.up (Nat.le_succ _)) HE.out)
        clear hA1 hA2
        go_wp2
        exact ⟨HC.out.1, HC.out.2⟩
      have e2 := eq_of_toList W [45] false (decide_eq_false hA2)
      rw [if_neg (fun h => h.elim hA1 hA2)] at hstp
      cases plain
      · by_cases hB : W.data.toList = [45, 45]
        · rw [if_pos ⟨rfl, hB⟩] at hstp
          subst hstp
          have e3 := eq_of_toList W [45, 45] true (decide_eq_true hB)
          have HC := Lib.hid (WRel.mk' HW0.out hpl HW1.out (by omega) (by omega) (by omega) (HF0.out.up (Nat.le_succ _)) HE.out)
          clear hA1 hA2 hB
          go_wp2
          exact ⟨HC.out.1, HC.out.2⟩
        have e3 := eq_of_toList W [45, 45] false (decide_eq_false hB)
        rw [if_neg (fun h => hB h.2)] at hstp
        by_cases hC : Lib.hasPrefix W.data.toList [45, 45] = true
        · rw [if_pos ⟨rfl, hC⟩] at hstp
          have HP : Hid (Calls Tryd.prog 34 #[.string W, .string ⟨#[45, 45]⟩] w1 fun e w' => e = .returned (.bool true) ∧ w' = w1) := by
            have := Tryd.strings_HasPrefix W ⟨#[45, 45]⟩ w1
            rwa [show Lib.hasPrefix W.data.toList (⟨#[45, 45]⟩ : ByteArray).data.toList = true from hC] at this
          have h2 : 2 ≤ W.size := by
            have := Lib.hasPrefix_le hC
            have q : W.data.toList.length = W.size := Array.length_toList ..
            rw [q] at this; exact this
          obtain ⟨nm, hnm⟩ : ∃ nm, (cutP W).1 = nm := ⟨_, rfl⟩
          obtain ⟨vv, hvv⟩ : ∃ vv, (cutP W).2.1 = vv := ⟨_, rfl⟩
          obtain ⟨gv, hg⟩ : ∃ gv, (cutP W).2.2 = gv := ⟨_, rfl⟩
          obtain ⟨rest, hrest⟩ : ∃ rest, W.extract 2 W.size = rest := ⟨_, rfl⟩
          have HCu : Hid (Calls Tryd.prog 87 #[.string rest, .string ⟨#[61]⟩] w1 fun e w' => e = .returned (.tuple #[.string nm, .string vv, .bool gv]) ∧ ∃ n, w' = w1.drewN n) := by
            rw [← hnm, ← hvv, ← hg, ← hrest]
            exact Tryd.strings_Cut (W.extract 2 W.size) ⟨#[61]⟩ m w1 (by rw [ByteArray.size_extract]; omega) (HW1.out.max HM.out HS1.out)
          have hnz : nm.size ≤ 1000000 := by rw [← hnm]; exact Nat.le_trans (cutP_size W).1 hWz
          have hvz : vv.size ≤ 140737488351232 := by rw [← hvv]; exact Nat.le_trans (cutP_size W).2 (by omega)
          rw [hnm, hvv, hg] at hstp
          clear hnm hvv hg hC hA1 hA2 hB
          go_wp2_with fail
          refine HP.out.mono ?_
          rintro e w' ⟨rfl, hw'⟩
          obtain rfl := hw'.symm
          go_wp2_with fail
          refine HCu.out.mono ?_
          rintro e w2 ⟨rfl, nq, hw2⟩
          have HW2 := Lib.hid (show WsAt w S ob cb lb mb Bx A ca l w2 S' y (p + 1) by rw [hw2]; exact HW1.out.below HAP.out (ws_drew _ _))
          clear hw2 HP HCu hrest
          have HLG := Lib.hid HW2.out.lg
          rcases tab_look Bx nm (.held optZ) with ⟨k, ht, hk, hat, hha⟩ | ⟨ht, hat, hha⟩
          · have HAT := Lib.hid hat
            have HHA := Lib.hid hha
            clear hat hha
            by_cases hk0 : k = 0
            · subst hk0
              cases gv
              · have hl : longP nm vv false y = none := by unfold longP; rw [ht]; rfl
                rw [hl] at hstp
                have hn : none = st := hstp
                subst hn
                have hR : none = R := HE.out
                subst hR
                clear hstp hl ht hk
                have hst := store_fn (w2.alloc (.cells #[.int .u8 106, .bool true, .nilFunc] 119)) ⟨w2.heap.size, 2, none⟩ .nilFunc (.func 107) #[] #[]
                  (by have := heap_alloc_last w2 (.cells #[.int .u8 106, .bool true, .nilFunc] 119); exact (rowo this (j := 2) rfl).1)
                  (by have := heap_alloc_last w2 (.cells #[.int .u8 106, .bool true, .nilFunc] 119); exact (rowo this (j := 2) (v := .nilFunc) rfl).2)
                have HF := Lib.hid (HW2.out.below HAP.out ((Below.refl _ _).alloc (Nat.le_refl _) (.cells #[.int .u8 106, .bool true, .func (.func 107) #[] #[]] 119)))
                go_wp2_with (first | (at_lookup; refine wpList_lk _ rfl _ _ rfl mb 13 _ HLG.out.map nm rfl rfl (by unfold maxLen; omega) (.agg #[.int .u8 106, .bool true, .func (.func 107) #[] #[]]) true HAT.out HHA.out ?_) | fail)
                go_ret
                exact ⟨W, rfl, S', y, HF.out.op, HF.out.nx⟩
              · have hl : longP nm vv true y = (jobsP vv).map (fun n => { y with j := n }) := by unfold longP; rw [ht]; rfl
                rw [hl] at hstp
                have HD := Lib.hid fun w3 h3 => jobs_any ob S' y vv w3 h3 hvz
                have HFT : Hid (∀ x2, longP nm vv true y = some x2 → fitB (N + p + 1) x2) := fun x2 h => longP_fit h HF0.out
                rw [hl] at HFT
                obtain ⟨rr, hrr⟩ : ∃ rr, (jobsP vv).map (fun n => { y with j := n }) = rr := ⟨_, rfl⟩
                rw [hrr] at HD hstp HFT
                clear hl ht hk hrr
                have hst := store_fn (w2.alloc (.cells #[.int .u8 106, .bool true, .nilFunc] 119)) ⟨w2.heap.size, 2, none⟩ .nilFunc (.func 107) #[] #[]
                  (by have := heap_alloc_last w2 (.cells #[.int .u8 106, .bool true, .nilFunc] 119); exact (rowo this (j := 2) rfl).1)
                  (by have := heap_alloc_last w2 (.cells #[.int .u8 106, .bool true, .nilFunc] 119); exact (rowo this (j := 2) (v := .nilFunc) rfl).2)
                go_wp2_with (first | (at_lookup; refine wpList_lk _ rfl _ _ rfl mb 13 _ HLG.out.map nm rfl rfl (by unfold maxLen; omega) (.agg #[.int .u8 106, .bool true, .func (.func 107) #[] #[]]) true HAT.out HHA.out ?_) | fail)
                have HW3 := Lib.hid (HW2.out.below HAP.out ((Below.refl _ _).alloc (Nat.le_refl _) (.cells #[.int .u8 106, .bool true, .func (.func 107) #[] #[]] 119)))
                refine (HD.out _ HW3.out.op).mono ?_
                rintro e w4 ha
                cases rr with
                | none =>
                  obtain ⟨rfl, S2, x2, ho2, hn2⟩ : e = .returned (.bool false) ∧ ∃ S2 x2, OpAt w4 ob S2 x2 ∧ Nx _ S' w4 S2 := ha
                  have HF := Lib.hid (HW3.out.also HAP.out ho2 hn2)
                  have hn : none = st := hstp
                  subst hn
                  have hR : none = R := HE.out
                  subst hR
                  clear ho2 hn2 hstp hst
                  go_wp2
                  go_ret
                  exact ⟨W, rfl, S2, x2, HF.out.op, HF.out.nx⟩
                | some x2 =>
                  obtain ⟨rfl, S2, ho2, hn2⟩ : e = .returned (.bool true) ∧ ∃ S2, OpAt w4 ob S2 x2 ∧ Nx _ S' w4 S2 := ha
                  have HF := Lib.hid (HW3.out.also HAP.out ho2 hn2)
                  have hn : some (false, x2, p + 1) = st := hstp
                  subst hn
                  have HC := Lib.hid (WRel.mk' HW0.out hpl HF.out (by omega) (by omega) (by omega) (HFT.out x2 rfl) HE.out)
                  clear ho2 hn2 hstp hst
                  go_wp2
                  exact ⟨HC.out.1, HC.out.2⟩
            by_cases hk1 : k = 1
            · subst hk1
              cases gv
              · have hl : longP nm vv false y = none := by unfold longP; rw [ht]; rfl
                rw [hl] at hstp
                have hn : none = st := hstp
                subst hn
                have hR : none = R := HE.out
                subst hR
                clear hstp hl ht hk
                have hst := store_fn (w2.alloc (.cells #[.int .u8 102, .bool true, .nilFunc] 119)) ⟨w2.heap.size, 2, none⟩ .nilFunc (.func 108) #[] #[]
                  (by have := heap_alloc_last w2 (.cells #[.int .u8 102, .bool true, .nilFunc] 119); exact (rowo this (j := 2) rfl).1)
                  (by have := heap_alloc_last w2 (.cells #[.int .u8 102, .bool true, .nilFunc] 119); exact (rowo this (j := 2) (v := .nilFunc) rfl).2)
                have HF := Lib.hid (HW2.out.below HAP.out ((Below.refl _ _).alloc (Nat.le_refl _) (.cells #[.int .u8 102, .bool true, .func (.func 108) #[] #[]] 119)))
                go_wp2_with (first | (at_lookup; refine wpList_lk _ rfl _ _ rfl mb 13 _ HLG.out.map nm rfl rfl (by unfold maxLen; omega) (.agg #[.int .u8 102, .bool true, .func (.func 108) #[] #[]]) true HAT.out HHA.out ?_) | fail)
                go_ret
                exact ⟨W, rfl, S', y, HF.out.op, HF.out.nx⟩
              · have hl : longP nm vv true y = some { y with fs := y.fs ++ [vv] } := by unfold longP; rw [ht]; rfl
                rw [hl] at hstp
                have hfl : y.fs.length ≤ 1000000 := Nat.le_trans HF0.out.1 (by omega)
                have HD := Lib.hid fun w3 h3 => file_any ob S' y vv w3 h3 hfl
                have HFT : Hid (∀ x2, longP nm vv true y = some x2 → fitB (N + p + 1) x2) := fun x2 h => longP_fit h HF0.out
                rw [hl] at HFT
                obtain ⟨rr, hrr⟩ : ∃ rr, some { y with fs := y.fs ++ [vv] } = rr := ⟨_, rfl⟩
                rw [hrr] at HD hstp HFT
                clear hl ht hk hrr
                have hst := store_fn (w2.alloc (.cells #[.int .u8 102, .bool true, .nilFunc] 119)) ⟨w2.heap.size, 2, none⟩ .nilFunc (.func 108) #[] #[]
                  (by have := heap_alloc_last w2 (.cells #[.int .u8 102, .bool true, .nilFunc] 119); exact (rowo this (j := 2) rfl).1)
                  (by have := heap_alloc_last w2 (.cells #[.int .u8 102, .bool true, .nilFunc] 119); exact (rowo this (j := 2) (v := .nilFunc) rfl).2)
                go_wp2_with (first | (at_lookup; refine wpList_lk _ rfl _ _ rfl mb 13 _ HLG.out.map nm rfl rfl (by unfold maxLen; omega) (.agg #[.int .u8 102, .bool true, .func (.func 108) #[] #[]]) true HAT.out HHA.out ?_) | fail)
                have HW3 := Lib.hid (HW2.out.below HAP.out ((Below.refl _ _).alloc (Nat.le_refl _) (.cells #[.int .u8 102, .bool true, .func (.func 108) #[] #[]] 119)))
                refine (HD.out _ HW3.out.op).mono ?_
                rintro e w4 ha
                cases rr with
                | none =>
                  obtain ⟨rfl, S2, x2, ho2, hn2⟩ : e = .returned (.bool false) ∧ ∃ S2 x2, OpAt w4 ob S2 x2 ∧ Nx _ S' w4 S2 := ha
                  have HF := Lib.hid (HW3.out.also HAP.out ho2 hn2)
                  have hn : none = st := hstp
                  subst hn
                  have hR : none = R := HE.out
                  subst hR
                  clear ho2 hn2 hstp hst
                  go_wp2
                  go_ret
                  exact ⟨W, rfl, S2, x2, HF.out.op, HF.out.nx⟩
                | some x2 =>
                  obtain ⟨rfl, S2, ho2, hn2⟩ : e = .returned (.bool true) ∧ ∃ S2, OpAt w4 ob S2 x2 ∧ Nx _ S' w4 S2 := ha
                  have HF := Lib.hid (HW3.out.also HAP.out ho2 hn2)
                  have hn : some (false, x2, p + 1) = st := hstp
                  subst hn
                  have HC := Lib.hid (WRel.mk' HW0.out hpl HF.out (by omega) (by omega) (by omega) (HFT.out x2 rfl) HE.out)
                  clear ho2 hn2 hstp hst
                  go_wp2
                  exact ⟨HC.out.1, HC.out.2⟩
            have hpc : plN (tabC k) ≠ 0 := by
              have : k = 2 ∨ k = 3 ∨ k = 4 ∨ k = 5 ∨ k = 6 ∨ k = 7 ∨ k = 8 ∨ k = 9 ∨ k = 10 ∨ k = 11 ∨ k = 12 := by omega
              rcases this with rfl | rfl | rfl | rfl | rfl | rfl | rfl | rfl | rfl | rfl | rfl <;> decide
            have hvt : valT Bx k = flagV (tabC k) (Bx k) := by unfold valT; rw [if_neg hk0, if_neg hk1]
            have HBX := Lib.hid (HLG.out.box k (by omega) hk)
            rw [hvt] at HAT
            have hlg : longP nm vv gv y = if gv then none else some { y with bs := upd y.bs (plN (tabC k)) } := by
              unfold longP; rw [ht]
              show (if k = 0 then _ else if k = 1 then _ else (if gv = true then none else if plN (tabC k) ≠ 0 then some { y with bs := upd y.bs (plN (tabC k)) } else none)) = _
              rw [if_neg hk0, if_neg hk1, if_pos hpc]
            rw [hlg] at hstp
            have HD := Lib.hid fun w3 h3 hb3 => flag_do ob (Bx k) S' y (tabC k) vv w3 h3 hb3
            rw [if_pos hpc, decide_eq_true hpc] at HD
            obtain ⟨c, hc⟩ : ∃ c, tabC k = c := ⟨_, rfl⟩
            obtain ⟨bx, hbx⟩ : ∃ bx, Bx k = bx := ⟨_, rfl⟩
            rw [hc, hbx] at HAT HBX HD
            rw [hc] at hstp
            clear hvt hpc hlg hk0 hk1 hk ht hc hbx
            unfold flagV at HAT
            cases gv
            · rw [if_neg (fun h => Bool.noConfusion h)] at hstp
              have hn : some (false, { y with bs := upd y.bs (plN c) }, p + 1) = st := hstp
              subst hn
              have hst := store_fn (w2.alloc (.cells #[.int .u8 c.toNat, .bool false, .nilFunc] 119)) ⟨w2.heap.size, 2, none⟩ .nilFunc (.func 105) #[] #[.pointer (some ⟨bx, 0, none⟩)]
                (by have := heap_alloc_last w2 (.cells #[.int .u8 c.toNat, .bool false, .nilFunc] 119); exact (rowo this (j := 2) rfl).1)
                (by have := heap_alloc_last w2 (.cells #[.int .u8 c.toNat, .bool false, .nilFunc] 119); exact (rowo this (j := 2) (v := .nilFunc) rfl).2)
              go_wp2_with (first | (at_lookup; refine wpList_lk _ rfl _ _ rfl mb 13 _ HLG.out.map nm rfl rfl (by unfold maxLen; omega) (.agg #[.int .u8 c.toNat, .bool false, .func (.func 105) #[] #[.pointer (some ⟨bx, 0, none⟩)]]) true HAT.out HHA.out ?_) | fail)
              have HW3 := Lib.hid (HW2.out.below HAP.out ((Below.refl _ _).alloc (Nat.le_refl _) (.cells #[.int .u8 c.toNat, .bool false, .func (.func 105) #[] #[.pointer (some ⟨bx, 0, none⟩)]] 119)))
              refine (HD.out _ HW3.out.op (by rw [Below.heap_alloc _ _ _ (lt_of_block HBX.out)]; exact HBX.out)).mono ?_
              rintro e w4 ⟨rfl, ho4, hn4⟩
              have HC := Lib.hid (WRel.mk' HW0.out hpl (HW3.out.also HAP.out ho4 hn4) (by omega) (by omega) (by omega) (HF0.out.up (Nat.le_succ _)) HE.out)
              clear ho4 hn4 hst hstp
              go_wp2
              exact ⟨HC.out.1, HC.out.2⟩
            · rw [if_pos rfl] at hstp
              have hn : none = st := hstp
              subst hn
              have hR : none = R := HE.out
              subst hR
              clear hstp
              have hst := store_fn (w2.alloc (.cells #[.int .u8 c.toNat, .bool false, .nilFunc] 119)) ⟨w2.heap.size, 2, none⟩ .nilFunc (.func 105) #[] #[.pointer (some ⟨bx, 0, none⟩)]
                (by have := heap_alloc_last w2 (.cells #[.int .u8 c.toNat, .bool false, .nilFunc] 119); exact (rowo this (j := 2) rfl).1)
                (by have := heap_alloc_last w2 (.cells #[.int .u8 c.toNat, .bool false, .nilFunc] 119); exact (rowo this (j := 2) (v := .nilFunc) rfl).2)
              have HF := Lib.hid (HW2.out.below HAP.out ((Below.refl _ _).alloc (Nat.le_refl _) (.cells #[.int .u8 c.toNat, .bool false, .func (.func 105) #[] #[.pointer (some ⟨bx, 0, none⟩)]] 119)))
              go_wp2_with (first | (at_lookup; refine wpList_lk _ rfl _ _ rfl mb 13 _ HLG.out.map nm rfl rfl (by unfold maxLen; omega) (.agg #[.int .u8 c.toNat, .bool false, .func (.func 105) #[] #[.pointer (some ⟨bx, 0, none⟩)]]) true HAT.out HHA.out ?_) | fail)
              go_ret
              exact ⟨W, rfl, S', y, HF.out.op, HF.out.nx⟩
          · have hl : longP nm vv gv y = none := by unfold longP; rw [ht]
            rw [hl] at hstp
            have hn : none = st := hstp
            subst hn
            have hR : none = R := HE.out
            subst hR
            have HAT := Lib.hid hat
            have HHA := Lib.hid hha
            clear hstp hl ht hat hha
            have hsn := store_nilF (w2.alloc (.cells #[.int .u8 0, .bool false, .nilFunc] 119)) ⟨w2.heap.size, 2, none⟩ .nilFunc
              (by have := heap_alloc_last w2 (.cells #[.int .u8 0, .bool false, .nilFunc] 119); exact (rowo this (j := 2) rfl).1)
              (by have := heap_alloc_last w2 (.cells #[.int .u8 0, .bool false, .nilFunc] 119); exact (rowo this (j := 2) (v := .nilFunc) rfl).2)
            have HF := Lib.hid (HW2.out.below HAP.out ((Below.refl _ _).alloc (Nat.le_refl _) (.cells #[.int .u8 0, .bool false, .nilFunc] 119)))
            go_wp2_with (first | (at_lookup; refine wpList_lk _ rfl _ _ rfl mb 13 _ HLG.out.map nm rfl rfl (by unfold maxLen; omega) (.agg #[.int .u8 0, .bool false, .nilFunc]) false HAT.out HHA.out ?_) | fail)
            go_ret
            exact ⟨W, rfl, S', y, HF.out.op, HF.out.nx⟩
        have HP : Hid (Calls Tryd.prog 34 #[.string W, .string ⟨#[45, 45]⟩] w1 fun e w' => e = .returned (.bool false) ∧ w' = w1) := by
          have := Tryd.strings_HasPrefix W ⟨#[45, 45]⟩ w1
          rwa [show Lib.hasPrefix W.data.toList (⟨#[45, 45]⟩ : ByteArray).data.toList = false from (Bool.not_eq_true _).mp hC] at this
        rw [if_neg (fun h => hC h.2)] at hstp
        have hb := bget W 0 hW1
        obtain ⟨c, hc⟩ : ∃ c, W[0] = c := ⟨_, rfl⟩
        rw [hc] at hb
        by_cases hD : W.get! 0 = 45
        · rw [if_pos ⟨rfl, hD⟩] at hstp
          have n0 : ((c.toNat : Int) == 45) = true := by rw [hb, hD]; rfl
          obtain ⟨r, hr⟩ : ∃ r, letF W l (W.size + 1) 1 (p + 1) y = r := ⟨_, rfl⟩
          have HL := Lib.hid (letters_any ob cb lb S' y W A ca l (p + 1) w1 HW1.out.op HW1.out.far.c HW1.out.ct (fun w' hn => HW1.out.ctk hn) (by omega) hW1 (fun v hv => Nat.le_trans (HZ.out v hv) (by omega)) (Nat.le_trans HF0.out.1 (by omega)))
          have HFT : Hid (∀ x2 p2, r = some (x2, p2) → fitB (N + p + 1) x2 ∧ p + 1 ≤ p2 ∧ (p + 1 ≤ l.length → p2 ≤ l.length)) := fun x2 p2 h => letF_fit W l _ 1 (p + 1) y x2 p2 (N + p) (hr.trans h) HF0.out
          rw [hr] at hstp HL
          clear hr hC hD hb hA1 hA2 hB
          go_wp2_with fail
          refine HP.out.mono ?_
          rintro e w' ⟨rfl, hw'⟩
          obtain rfl := hw'.symm
          go_wp2_with fail
          refine HL.out.mono ?_
          rintro e w2 ha
          cases r with
          | none =>
            obtain ⟨rfl, S2, x2, p2, ho2, hn2, hc2, hS2⟩ : e = .returned (.bool false) ∧ ∃ S2 x2 p2, OpAt w2 ob S2 x2 ∧ Nx w1 (Uc S' cb) w2 (Uc S2 cb) ∧ w2.heap[cb]? = some (.cells #[.int .i64 (p2 : Nat)] 3 (0, 0)) ∧ ¬ S2 cb := ha
            have HF := Lib.hid (HW1.out.step HAP.out ho2 hn2 hc2 hS2)
            have hn : none = st := hstp
            subst hn
            have hR : none = R := HE.out
            subst hR
            clear ho2 hn2 hc2 hS2 hstp
            go_wp2
            go_ret
            exact ⟨W, rfl, S2, x2, HF.out.op, HF.out.nx⟩
          | some q =>
            obtain ⟨x2, p2⟩ := q
            obtain ⟨rfl, S2, ho2, hn2, hc2, hS2⟩ : e = .returned (.bool true) ∧ ∃ S2, OpAt w2 ob S2 x2 ∧ Nx w1 (Uc S' cb) w2 (Uc S2 cb) ∧ w2.heap[cb]? = some (.cells #[.int .i64 (p2 : Nat)] 3 (0, 0)) ∧ ¬ S2 cb := ha
            have HF := Lib.hid (HW1.out.step HAP.out ho2 hn2 hc2 hS2)
            obtain ⟨ft1, ft2, ft3⟩ := HFT.out x2 p2 rfl
            have hn : some (false, x2, p2) = st := hstp
            subst hn
            have HC := Lib.hid (WRel.mk' HW0.out hpl HF.out (by omega) (ft3 (by omega)) (by omega) ft1 HE.out)
            clear ho2 hn2 hc2 hS2 hstp ft1 ft2 ft3
            go_wp2
            exact ⟨HC.out.1, HC.out.2⟩
        rw [if_neg (fun h => hD h.2)] at hstp
        rw [← hb] at hD
        have n0 : ((c.toNat : Int) == 45) = false := beq_eq_false_iff_ne.2 (fun e => hD (UInt8.toNat_inj.1 (by show _ = 45; omega)))
        have HT := Lib.hid (Take_any W w1 (by omega))
        obtain ⟨K, hK⟩ : ∃ K, takeP W = K := ⟨_, rfl⟩
        rw [hK] at hstp HT
        obtain ⟨k, hk⟩ : ∃ k, K.k = k := ⟨_, rfl⟩
        unfold headV at HT
        rw [hk] at hstp HT
        clear hK hk hC hD hb hA1 hA2 hB
        go_wp2_with fail
        refine HP.out.mono ?_
        rintro e w' ⟨rfl, hw'⟩
        obtain rfl := hw'.symm
        go_wp2_with fail
        refine HT.out.mono ?_
        rintro e w2 ⟨rfl, hb2⟩
        have HW2 := Lib.hid (HW1.out.below HAP.out hb2)
        clear hb2 HT
        have hfl := fld24i
        by_cases hk1 : k = 1
        · rw [if_pos hk1] at hstp
          subst hstp
          have n1 : ((k : Int) == 1) = true := by rw [hk1]; rfl
          obtain ⟨vf, vg, vv, h1, h2, h3, h4, h5, h6, h7, hS, r1, r2, r3⟩ := HW2.out.op
          obtain ⟨Av, cv, rfl, _, _⟩ := h4.form
          obtain ⟨c13, f13⟩ := (rowo h1 (j := 13) (v := .slice Av y.vs.length cv) rfl)
          have hlt := lt_of_block h1
          obtain ⟨i0, hi, hz0, hz1, hz2⟩ := info_parts Tryd.info9
          have H1 := Lib.hid h1
          have H4 := Lib.hid h4
          have hvl := HF0.out.2.2
          have HX := Lib.hid fun (w3 : World) (v' : Value) (hg : GrX w2 w3 (.slice Av y.vs.length cv) v') (h8 : OwnG w3 0 9 1 v' (y.vs.length + 1) (strV y.vs ++ [.string W])) => op_vs h1 h2 h3 h4 h5 h6 h7 hS r1 r2 r3 W hg h8
          clear h1 h2 h3 h4 h5 h6 h7 r1 r2 r3 hS hk1
          go_wp2_with (at_builtin; refine wpList_append_G _ rfl _ _ 27 rfl 0 9 i0 (.string ⟨#[]⟩) 1 16 Tryd.underlying27 hi hz0 hz1 hz2 rfl (.slice Av y.vs.length cv) y.vs.length (strV y.vs) rfl (H4.out.below ((Below.refl _ _).alloc (Nat.le_refl _) _)) ⟨_, 0, none⟩ 1 1 [.string W] rfl rfl (cell_one_new _ _ _) (by simp [Value.oneCell']) (by decide) (by unfold maxLen; omega) (by omega) (Nat.zero_le _) ?_; intro g cap w3 hown hgrow hnew hglt; have HG := Lib.hid (GrX.of (n := y.vs.length + 1) (cap := cap) hgrow hnew); have hc3 := (HG.out.block ob hlt (own_ne H4.out H1.out (by decide))).trans H1.out; have hk3 := (rowo hc3 (j := 13) (v := .slice Av y.vs.length cv) rfl).1; have hf3 := frozen_of_row w3 _ 13 _ _ hc3; have HO := Lib.hid hown; clear hown hgrow hnew hc3)
          obtain ⟨S2, ho2, hn2⟩ := HX.out w3 _ HG.out HO.out
          have HC := WRel.mk' HW0.out hpl (HW2.out.also HAP.out ho2 hn2) (by omega) (by omega) (by omega) (by refine ⟨Nat.le_trans HF0.out.1 (Nat.le_succ _), Nat.le_trans HF0.out.2.1 (Nat.le_succ _), ?_⟩; show (y.vs ++ [W]).length ≤ _; rw [List.length_append]; have := HF0.out.2.2; simpa using this) HE.out
          exact ⟨HC.1, HC.2⟩
        rw [if_neg hk1] at hstp
        have n1 : ((k : Int) == 1) = false := beq_eq_false_iff_ne.2 hk1
        cases own
        · rw [if_neg (fun h => Bool.noConfusion h)] at hstp
          subst hstp
          have HC := Lib.hid (WRel.mk' HW0.out hpl HW2.out (by omega) (by omega) (by omega) (HF0.out.up (Nat.le_succ _)) HE.out)
          clear hk1
          go_wp2
          exact ⟨HC.out.1, HC.out.2⟩
        rw [if_pos rfl] at hstp
        have HNm := Lib.hid fun w => Name_any W w (by omega)
        obtain ⟨NM, hNM⟩ : ∃ NM, nameB W = NM := ⟨_, rfl⟩
        rw [hNM] at HNm hstp
        subst hstp
        obtain ⟨vf, vg, vv, h1, h2, h3, h4, h5, h6, h7, hS, r1, r2, r3⟩ := HW2.out.op
        obtain ⟨Av, cv, rfl, _, _⟩ := h3.form
        obtain ⟨c12, f12⟩ := (rowo h1 (j := 12) (v := .slice Av y.gs.length cv) rfl)
        have hlt := lt_of_block h1
        obtain ⟨i0, hi, hz0, hz1, hz2⟩ := info_parts Tryd.info9
        have H1 := Lib.hid h1
        have H3 := Lib.hid h3
        have hvl := HF0.out.2.1
        have HX := Lib.hid fun (w3 : World) (v' : Value) (hg : GrX w2 w3 (.slice Av y.gs.length cv) v') (h8 : OwnG w3 0 9 1 v' (y.gs.length + 1) (strV y.gs ++ [.string NM])) => op_gs h1 h2 h3 h4 h5 h6 h7 hS r1 r2 r3 NM hg h8
        clear h1 h2 h3 h4 h5 h6 h7 r1 r2 r3 hS hk1 hNM
        go_wp2
        first | (go_region_law (first
          | (refine step_app_o rfl _ _ 27 rfl 0 9 i0 (.string ⟨#[]⟩) 1 16 Tryd.underlying27 hi hz0 hz1 hz2 rfl (.slice Av y.gs.length cv) y.gs.length (strV y.gs) rfl (H3.out.move fun k hk => Below.heap_alloc _ _ _ (H3.out.block_lt k hk).2) ⟨_, 0, none⟩ 1 1 [.string NM] rfl rfl (cell_one_new _ _ _) (by simp [Value.oneCell']) (by decide) (by unfold maxLen; omega) (by omega) (Nat.zero_le _) ?_; intro g cap w3 hown hgrow hnew hglt; have HG : Hid (GrX w2 w3 (.slice Av y.gs.length cv) (.slice (some ⟨g, 0, none⟩) (y.gs.length + 1) cap)) := (by first | exact GrX.ofd hgrow hnew | exact GrX.ofd (k := 1) hgrow hnew); have hc3 := (HG.out.block ob hlt (own_ne H3.out H1.out (by decide))).trans H1.out; have hk3 := (rowo hc3 (j := 12) (v := .slice Av y.gs.length cv) rfl).1; have hf3 := frozen_of_row w3 _ 12 _ _ hc3; have HO := Lib.hid hown; clear hown hgrow hnew hc3)
          | (go_simp; go_at_call 20; refine (HNm.out _).mono ?_; rintro e w4 ⟨rfl, hw4⟩; obtain rfl := hw4.symm)
          | fail)) | fail
        all_goals try go_wp2
        all_goals
          obtain ⟨S2, ho2, hn2⟩ := HX.out w3 _ HG.out HO.out
          have HC := WRel.mk' HW0.out hpl (HW2.out.also HAP.out ho2 hn2) (by omega) (by omega) (by omega) (by refine ⟨Nat.le_trans HF0.out.1 (Nat.le_succ _), ?_, Nat.le_trans HF0.out.2.2 (Nat.le_succ _)⟩; show (y.gs ++ [NM]).length ≤ _; rw [List.length_append]; have := HF0.out.2.1; simpa using this) HE.out
          exact ⟨HC.1, HC.2⟩

      rw [if_neg (fun h => Bool.noConfusion h.1), if_neg (fun h => Bool.noConfusion h.1), if_neg (fun h => Bool.noConfusion h.1)] at hstp

      have HT := Lib.hid (Take_any W w1 (by omega))
      obtain ⟨K, hK⟩ : ∃ K, takeP W = K := ⟨_, rfl⟩
      rw [hK] at hstp HT
      obtain ⟨k, hk⟩ : ∃ k, K.k = k := ⟨_, rfl⟩
      unfold headV at HT
      rw [hk] at hstp HT
      clear hK hk hA1 hA2
      go_wp2_with fail
      refine HT.out.mono ?_
      rintro e w2 ⟨rfl, hb2⟩
      have HW2 := Lib.hid (HW1.out.below HAP.out hb2)
      clear hb2 HT
      have hfl := fld24i
      by_cases hk1 : k = 1
      · rw [if_pos hk1] at hstp
        subst hstp
        have n1 : ((k : Int) == 1) = true := by rw [hk1]; rfl
        obtain ⟨vf, vg, vv, h1, h2, h3, h4, h5, h6, h7, hS, r1, r2, r3⟩ := HW2.out.op
        obtain ⟨Av, cv, rfl, _, _⟩ := h4.form
        obtain ⟨c13, f13⟩ := (rowo h1 (j := 13) (v := .slice Av y.vs.length cv) rfl)
        have hlt := lt_of_block h1
        obtain ⟨i0, hi, hz0, hz1, hz2⟩ := info_parts Tryd.info9
        have H1 := Lib.hid h1
        have H4 := Lib.hid h4
        have hvl := HF0.out.2.2
        have HX := Lib.hid fun (w3 : World) (v' : Value) (hg : GrX w2 w3 (.slice Av y.vs.length cv) v') (h8 : OwnG w3 0 9 1 v' (y.vs.length + 1) (strV y.vs ++ [.string W])) => op_vs h1 h2 h3 h4 h5 h6 h7 hS r1 r2 r3 W hg h8
        clear h1 h2 h3 h4 h5 h6 h7 r1 r2 r3 hS hk1
        go_wp2_with (at_builtin; refine wpList_append_G _ rfl _ _ 27 rfl 0 9 i0 (.string ⟨#[]⟩) 1 16 Tryd.underlying27 hi hz0 hz1 hz2 rfl (.slice Av y.vs.length cv) y.vs.length (strV y.vs) rfl (H4.out.below ((Below.refl _ _).alloc (Nat.le_refl _) _)) ⟨_, 0, none⟩ 1 1 [.string W] rfl rfl (cell_one_new _ _ _) (by simp [Value.oneCell']) (by decide) (by unfold maxLen; omega) (by omega) (Nat.zero_le _) ?_; intro g cap w3 hown hgrow hnew hglt; have HG := Lib.hid (GrX.of (n := y.vs.length + 1) (cap := cap) hgrow hnew); have hc3 := (HG.out.block ob hlt (own_ne H4.out H1.out (by decide))).trans H1.out; have hk3 := (rowo hc3 (j := 13) (v := .slice Av y.vs.length cv) rfl).1; have hf3 := frozen_of_row w3 _ 13 _ _ hc3; have HO := Lib.hid hown; clear hown hgrow hnew hc3)
        obtain ⟨S2, ho2, hn2⟩ := HX.out w3 _ HG.out HO.out
        have HC := WRel.mk' HW0.out hpl (HW2.out.also HAP.out ho2 hn2) (by omega) (by omega) (by omega) (by refine ⟨Nat.le_trans HF0.out.1 (Nat.le_succ _), Nat.le_trans HF0.out.2.1 (Nat.le_succ _), ?_⟩; show (y.vs ++ [W]).length ≤ _; rw [List.length_append]; have := HF0.out.2.2; simpa using this) HE.out
        exact ⟨HC.1, HC.2⟩
      rw [if_neg hk1] at hstp
      have n1 : ((k : Int) == 1) = false := beq_eq_false_iff_ne.2 hk1
      cases own
      · rw [if_neg (fun h => Bool.noConfusion h)] at hstp
        subst hstp
        have HC := Lib.hid (WRel.mk' HW0.out hpl HW2.out (by omega) (by omega) (by omega) (HF0.out.up (Nat.le_succ _)) HE.out)
        clear hk1
        go_wp2
        exact ⟨HC.out.1, HC.out.2⟩
      rw [if_pos rfl] at hstp
      have HNm := Lib.hid fun w => Name_any W w (by omega)
      obtain ⟨NM, hNM⟩ : ∃ NM, nameB W = NM := ⟨_, rfl⟩
      rw [hNM] at HNm hstp
      subst hstp
      obtain ⟨vf, vg, vv, h1, h2, h3, h4, h5, h6, h7, hS, r1, r2, r3⟩ := HW2.out.op
      obtain ⟨Av, cv, rfl, _, _⟩ := h3.form
      obtain ⟨c12, f12⟩ := (rowo h1 (j := 12) (v := .slice Av y.gs.length cv) rfl)
      have hlt := lt_of_block h1
      obtain ⟨i0, hi, hz0, hz1, hz2⟩ := info_parts Tryd.info9
      have H1 := Lib.hid h1
      have H3 := Lib.hid h3
      have hvl := HF0.out.2.1
      have HX := Lib.hid fun (w3 : World) (v' : Value) (hg : GrX w2 w3 (.slice Av y.gs.length cv) v') (h8 : OwnG w3 0 9 1 v' (y.gs.length + 1) (strV y.gs ++ [.string NM])) => op_gs h1 h2 h3 h4 h5 h6 h7 hS r1 r2 r3 NM hg h8
      clear h1 h2 h3 h4 h5 h6 h7 r1 r2 r3 hS hk1 hNM
      go_wp2
      first | (go_region_law (first
        | (refine step_app_o rfl _ _ 27 rfl 0 9 i0 (.string ⟨#[]⟩) 1 16 Tryd.underlying27 hi hz0 hz1 hz2 rfl (.slice Av y.gs.length cv) y.gs.length (strV y.gs) rfl (H3.out.move fun k hk => Below.heap_alloc _ _ _ (H3.out.block_lt k hk).2) ⟨_, 0, none⟩ 1 1 [.string NM] rfl rfl (cell_one_new _ _ _) (by simp [Value.oneCell']) (by decide) (by unfold maxLen; omega) (by omega) (Nat.zero_le _) ?_; intro g cap w3 hown hgrow hnew hglt; have HG : Hid (GrX w2 w3 (.slice Av y.gs.length cv) (.slice (some ⟨g, 0, none⟩) (y.gs.length + 1) cap)) := (by first | exact GrX.ofd hgrow hnew | exact GrX.ofd (k := 1) hgrow hnew); have hc3 := (HG.out.block ob hlt (own_ne H3.out H1.out (by decide))).trans H1.out; have hk3 := (rowo hc3 (j := 12) (v := .slice Av y.gs.length cv) rfl).1; have hf3 := frozen_of_row w3 _ 12 _ _ hc3; have HO := Lib.hid hown; clear hown hgrow hnew hc3)
        | (go_simp; go_at_call 20; refine (HNm.out _).mono ?_; rintro e w4 ⟨rfl, hw4⟩; obtain rfl := hw4.symm)
        | fail)) | fail
      all_goals try go_wp2
      all_goals
        obtain ⟨S2, ho2, hn2⟩ := HX.out w3 _ HG.out HO.out
        have HC := WRel.mk' HW0.out hpl (HW2.out.also HAP.out ho2 hn2) (by omega) (by omega) (by omega) (by refine ⟨Nat.le_trans HF0.out.1 (Nat.le_succ _), ?_, Nat.le_trans HF0.out.2.2 (Nat.le_succ _)⟩; show (y.gs ++ [NM]).length ≤ _; rw [List.length_append]; have := HF0.out.2.1; simpa using this) HE.out
        exact ⟨HC.1, HC.2⟩
end Go.Proofs.YtmcemaphhlcjfaaDoor
