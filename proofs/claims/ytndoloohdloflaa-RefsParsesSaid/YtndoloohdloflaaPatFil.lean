/- What package pat's Filter answers; conditions: lists that lie in memory. -/
import Derived.Test.YtndoloohdloflaaLent
import Derived.Test.YtndoloohdloflaaPatLaws
namespace Go.Proofs.Ytndoloohdloflaa
open Go.RowKit Go.Shelf
attribute [local go_sem] Oper.semAt_some

def hitB (ps : List ByteArray) (x : ByteArray) : Bool := ps.any fun p => Mok p x
def filtB (ps xs : List ByteArray) (out : Bool) : List ByteArray := xs.filter fun x => hitB ps x != out
def patV (p : ByteArray) : Value := .func (.func 70) #[.agg #[.string (phead p), .string (ptail p), .bool (popen p)]] #[]

theorem hit_drop (ps : List ByteArray) (k : Nat) (p x : ByteArray) (h : ps[k]? = some p) : hitB (ps.drop k) x = (Mok p x || hitB (ps.drop (k + 1)) x) := by
  have hlt := (List.getElem?_eq_some_iff.1 h).1
  rw [List.drop_eq_getElem_cons hlt, (List.getElem?_eq_some_iff.1 h).2]; rfl

set_option maxRecDepth 100000 in
set_option maxHeartbeats 1000000 in
theorem so_any (mb ob : Nat) (v : Value) (N : Nat) (ps : List ByteArray) (out : Bool) (x : ByteArray) (w : World) (base : Nat) (hN : ps.length = N) (hps : ∀ p ∈ ps, p.size ≤ 140737488351232) (hx : x.size ≤ 140737488351232) (hl : N ≤ 20000)
    (hm : Boxed w mb 68 v) (ho : Boxed w ob 4 (.bool out)) (hown : OwnG w base 67 1 v N (ps.map patV)) :
    Calls Try.prog 72 #[.string x, .pointer (some ⟨mb, 0, none⟩), .pointer (some ⟨ob, 0, none⟩)] w fun e w' => e = .returned (.bool (hitB ps x != out)) ∧ Below w.heap.size w w' := by
  obtain ⟨A, c, rfl, hc, _⟩ := hown.form
  have hcm := hm.cell
  have hco := ho.cell
  have hmb := hm.lt
  have hob := ho.lt
  obtain ⟨R, hR⟩ : ∃ R, hitB ps x = R := ⟨_, rfl⟩
  rw [hR]
  have HR := Lib.hid hR
  clear hR
  have HN := Lib.hid hN
  clear hN
  have HP := Lib.hid hps
  clear hps
  have hcs : Hid (∀ k p, ps[k]? = some p → ∃ b o, A = some ⟨b, o, none⟩ ∧ w.cell? ⟨b, o + k, none⟩ = some (patV p)) := by
    intro k p hk
    have hg := hown
    rcases hown.2 with ⟨e, h0⟩ | ⟨g, cap, cur, e, hb, _⟩
    · have hl := (List.getElem?_eq_some_iff.1 hk).1
      have := HN.out; omega
    · cases e
      exact ⟨g, 0, rfl, by rw [Nat.zero_add]; exact hg.cells k _ (by simp [hk])⟩
  clear hown hm ho
  go_enter Try.func72, Try.ntmps72
  go_wp2
  go_loopw [11] (fun i wi => ∃ k : Nat, i = .int .i64 k ∧ k ≤ N ∧ Hid (hitB (ps.drop k) x = R) ∧ Below w.heap.size w wi) (fun i _ => N - (intOf i).toNat)
  case atStart => exact ⟨0, rfl, Nat.zero_le _, HR, Below.refl _ w⟩
  case round =>
    obtain ⟨k, rfl, hk, hrel, hbel⟩ := hrel
    by_cases hlt : k < N
    · obtain ⟨p, hp1⟩ : ∃ p, ps[k]? = some p := ⟨_, List.getElem?_eq_getElem (by rw [HN.out]; exact hlt)⟩
      obtain ⟨b, o, rfl, hcx0⟩ := hcs.out k p hp1
      have hcx : wr.cell? ⟨b, o + k, none⟩ = some (patV p) := by rw [hbel.cell (p := ⟨b, o + k, none⟩) (World.block_lt_of_cell? _ _ hcx0)]; exact hcx0
      have hps := HP.out p (List.mem_of_getElem? hp1)
      have q1 : (k : Int) < N := by omega
      have hst := hit_drop ps k p x hp1
      have h1 := phead_le p
      have h2 := ptail_le p
      have HM := Lib.hid (match_any (phead p) (ptail p) (popen p) x wr hx (by omega) (by omega))
      have hrl := hrel.out
      rw [hst] at hrl
      unfold Mok at hrl
      unfold patV at hcx
      generalize phead p = ph at *
      generalize ptail p = pt at *
      generalize popen p = po at *
      clear hp1 hst hps hcx0
      cases hq : mok ph pt po x
      · rw [hq] at HM hrl
        have HD : Hid (hitB (ps.drop (k + 1)) x = R) := by simpa [Hid] using hrl
        clear hq hrl hrel
        go_wp2_with (go_at_call 70; refine HM.out.mono ?_; rintro e w' ⟨rfl, hb⟩)
        exact ⟨⟨k + 1, by go_num, by omega, HD, hbel.trans (hb.mono hbel.size)⟩, by simp [intOf]; omega⟩
      · rw [hq] at HM hrl
        have e : R = true := by simpa using hrl.symm
        clear hq hrl hrel
        subst e
        go_wp2_with (go_at_call 70; refine HM.out.mono ?_; rintro e w' ⟨rfl, hb⟩; have hb2 := hbel.trans (hb.mono hbel.size); have hco2 : w'.cell? ⟨ob, 0, none⟩ = some (.bool out) := by rw [hb2.cell (p := ⟨ob, 0, none⟩) hob]; exact hco)
        go_ret
        exact ⟨ret_bool (by cases out <;> rfl), hb2⟩
    · have e : R = false := by
        have := hrel.out
        rw [List.drop_eq_nil_of_le (by have := HN.out; omega)] at this
        exact this.symm
      subst e
      have hco2 : wr.cell? ⟨ob, 0, none⟩ = some (.bool out) := by rw [hbel.cell (p := ⟨ob, 0, none⟩) hob]; exact hco
      go_wp2
      go_ret
      exact ⟨ret_bool (by cases out <;> rfl), hbel⟩

theorem filt_step (f : ByteArray → Bool) (xs : List ByteArray) (k : Nat) (x : ByteArray) (pre : List ByteArray) (hk : xs[k]? = some x) (h : xs.filter f = pre ++ (xs.drop k).filter f) :
    xs.filter f = (if f x then pre ++ [x] else pre) ++ (xs.drop (k + 1)).filter f := by
  have hlt := (List.getElem?_eq_some_iff.1 hk).1
  rw [h, List.drop_eq_getElem_cons hlt, (List.getElem?_eq_some_iff.1 hk).2, List.filter_cons]
  split <;> simp

/-- all that stands below c, but for block bl, is as it was -/
def KeepAll (bl c : Nat) (W W' : World) : Prop := W.heap.size ≤ W'.heap.size ∧ ∀ k, k < c → k ≠ bl → W'.heap[k]? = W.heap[k]?
theorem KeepAll.trans {bl c : Nat} {A B C : World} (h : KeepAll bl c A B) (k : KeepAll bl c B C) : KeepAll bl c A C := ⟨Nat.le_trans h.1 k.1, fun j a b => (k.2 j a b).trans (h.2 j a b)⟩
theorem KeepAll.of_below {bl c : Nat} {A B : World} (h : Below A.heap.size A B) (hc : c ≤ A.heap.size) : KeepAll bl c A B := ⟨h.size, fun k hk _ => h.block k (Nat.lt_of_lt_of_le hk hc)⟩

set_option maxRecDepth 100000 in
set_option maxHeartbeats 2000000 in
theorem chosen1_in (l bl c wb sb M : Nat) (mb ob : Nat) (xs : List ByteArray) (B : Option Addr) (cb : Nat) (f : ByteArray → Bool) (W0 : World) (hM : xs.length = M) (hl2 : M ≤ 20000)
    (HF : ∀ W, KeepAll bl c W0 W → W.cell? ⟨wb, 0, none⟩ = some (.slice B M cb) ∧ W.cell? ⟨sb, 0, none⟩ = some (.func (.func 72) #[] #[.pointer (some ⟨mb, 0, none⟩), .pointer (some ⟨ob, 0, none⟩)]) ∧ StrsAt W B xs ∧
      ∀ x ∈ xs, Calls Try.prog 72 #[.string x, .pointer (some ⟨mb, 0, none⟩), .pointer (some ⟨ob, 0, none⟩)] W fun e w' => e = .returned (.bool (f x)) ∧ Below W.heap.size W w')
    (J Jx : List ByteArray → World → Prop) (hJ : ∀ s W W', J s W → Below W.heap.size W W' → J s W')
    (hY : ∀ pre x W, J pre W → pre.length < M + 1 → YieldAt Fence.wide 10 Try.prog l #[.string x] W fun e W' =>
      (e = .returned (.bool true) ∧ J (pre ++ [x]) W' ∧ KeepAll bl c W W') ∨ (e = .returned (.bool false) ∧ Jx (pre ++ [x]) W'))
    (W : World) (hW : KeepAll bl c W0 W) (hc : c ≤ W0.heap.size) (h0 : J [] W) :
    CallsIn Fence.wide 11 Try.prog 95 #[.func (.yield l) #[] #[], .pointer (some ⟨wb, 0, none⟩), .pointer (some ⟨sb, 0, none⟩)] W fun e W' => (∃ v, e = .returned v) ∧
      ((∃ ys, ys = xs.filter f ∧ J ys W') ∨ (∃ pre, True ∧ Jx pre W')) := by
  obtain ⟨hwb0, hsb0, hst0, _⟩ := HF W hW
  have HX := Lib.hid hst0
  clear hst0
  have HFF := Lib.hid HF
  clear HF
  have HM := Lib.hid hM
  clear hM
  refine callsIn_of_wp Try.func95 rfl trivial ?_ rfl
  simp only [Try.ntmps95, List.size_toArray, List.length_cons, List.length_nil, Nat.reduceAdd, Nat.reduceSub, Array.replicate_succ, Array.replicate_zero, List.push_toArray, List.append_toArray, List.nil_append, List.cons_append]
  gi_wp2
  gi_loopw [8] (fun i wr => ∃ (k : Nat) (pre : List ByteArray), i = .int .i64 k ∧ k ≤ M ∧ pre.length ≤ k ∧ KeepAll bl c W0 wr ∧ J pre wr ∧ Hid (xs.filter f = pre ++ (xs.drop k).filter f))
    (fun i _ => M - (intOf i).toNat)
  case atStart => exact ⟨0, [], rfl, Nat.zero_le _, by simp, hW, h0, by simp [Hid]⟩
  case round =>
    obtain ⟨k, pre, rfl, hk, hpk, hK, hJJ, hw⟩ := hrel
    obtain ⟨hwb, hsb, hst, hso⟩ := HFF.out wr hK
    by_cases hlt : k < M
    · obtain ⟨x, hx1⟩ : ∃ x, xs[k]? = some x := ⟨_, List.getElem?_eq_getElem (by rw [HM.out]; exact hlt)⟩
      have hstep := filt_step f xs k x pre hx1 hw.out
      obtain ⟨b, o, rfl, hcx⟩ := hst k x hx1
      have q1 : (k : Int) < M := by omega
      have HS := Lib.hid (hso x (List.mem_of_getElem? hx1))
      clear hso hx1 hst
      cases hq : f x
      · rw [hq] at HS hstep
        have HST : Hid (xs.filter f = pre ++ (xs.drop (k + 1)).filter f) := by unfold Hid; rw [hstep]; simp
        clear hq hstep hw
        gi_wp2_with (refine ⟨trivial, ?_⟩; gi_at_call 72; refine (callsIn_wide.2 HS.out).mono ?_; rintro e w' ⟨rfl, hb⟩)
        refine ⟨fun f h => (by cases h), ?_⟩
        gi_wp2
        have hK2 := hK.trans (KeepAll.of_below hb (Nat.le_trans hc hK.1))
        exact ⟨⟨k + 1, pre, by go_num, by omega, by omega, hK2, hJ _ _ _ hJJ hb, HST⟩, by simp [intOf]; omega⟩
      · rw [hq] at HS hstep
        have HST : Hid (xs.filter f = (pre ++ [x]) ++ (xs.drop (k + 1)).filter f) := by unfold Hid; rw [hstep]; simp
        clear hq hstep hw
        gi_wp2_with (first | (refine ⟨trivial, ?_⟩; gi_at_call 72; refine (callsIn_wide.2 HS.out).mono ?_; rintro e w' ⟨rfl, hb⟩; have hJ2 := hJ _ _ _ hJJ hb; obtain ⟨fn, tmps, assign, body, hy, hR⟩ := hY pre x w' hJ2 (by omega)))
        have hc2 : c ≤ w'.heap.size := Nat.le_trans (Nat.le_trans hc hK.1) hb.size
        have hK2 := hK.trans (KeepAll.of_below hb (Nat.le_trans hc hK.1))
        refine hR.mono ?_
        rintro e W3 (⟨rfl, hJ3, hk3⟩ | ⟨rfl, hJx3⟩)
        · gi_wp2
          exact ⟨⟨k + 1, pre ++ [x], by go_num, by omega, by simp; omega, hK2.trans hk3, hJ3, HST⟩, by simp [intOf]; omega⟩
        · gi_wp2
          refine bodyPost_ret (results_none rfl _ _ _) rfl ?_
          exact ⟨⟨_, rfl⟩, .inr ⟨_, trivial, hJx3⟩⟩
    · have HW : Hid (xs.filter f = pre) := by
        unfold Hid; rw [hw.out, List.drop_eq_nil_of_le (by have := HM.out; omega)]; simp
      gi_wp2
      go_end0
      exact ⟨⟨_, rfl⟩, .inl ⟨pre, HW.out.symm, hJJ⟩⟩
end Go.Proofs.Ytndoloohdloflaa
