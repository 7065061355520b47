/- Wipe, same, SameRule; conditions: lists that lie in memory. -/
import Derived.Test.YtmcemaphhlcjfaaDoorMakeA
namespace Go.Proofs.YtmcemaphhlcjfaaDoor
open Go.RowKit

set_option maxRecDepth 100000 in
set_option maxHeartbeats 1000000 in
theorem same49_any (w : World) (A B : Option Addr) (ca cb : Nat) (xs ys : List ByteArray) (ha : StrsAt w A xs) (hb : StrsAt w B ys) (hx : xs.length ≤ 140737488351232) :
    Calls Tryd.prog 49 #[.slice A xs.length ca, .slice B ys.length cb] w fun e w' => e = .returned (.bool (sameL xs ys)) ∧ Below w.heap.size w w' := by
  by_cases hl : xs.length = ys.length
  · obtain ⟨N, hN⟩ : ∃ N, xs.length = N := ⟨_, rfl⟩
    have hN2 : ys.length = N := by omega
    rw [hN, hN2]
    rw [hN] at hx
    have HN := Lib.hid hN
    have HN2 := Lib.hid hN2
    clear hl hN hN2
    obtain ⟨R, hR⟩ : ∃ R, sameL xs ys = R := ⟨_, rfl⟩
    rw [hR]
    have HR := Lib.hid hR
    clear hR
    go_enter Tryd.func49, Tryd.ntmps49
    go_wp2
    go_loopw [5] (fun i wi => ∃ k : Nat, i = .int .i64 k ∧ k ≤ N ∧ Hid (sameL (xs.drop k) (ys.drop k) = R) ∧ Below w.heap.size w wi) (fun i _ => N - (intOf i).toNat)
    case atStart => exact ⟨0, rfl, Nat.zero_le _, HR, Below.refl _ w⟩
    case round =>
      obtain ⟨k, rfl, hk, hrel, hbel⟩ := hrel
      by_cases hltN : k < N
      · have hlt : k < xs.length := by have := HN.out; omega
        have hlt2 : k < ys.length := by have := HN2.out; omega
        obtain ⟨x, hx1⟩ : ∃ x, xs[k]? = some x := ⟨_, List.getElem?_eq_getElem hlt⟩
        obtain ⟨y, hy1⟩ : ∃ y, ys[k]? = some y := ⟨_, List.getElem?_eq_getElem hlt2⟩
        obtain ⟨b, o, rfl, hcx⟩ := ha k x hx1
        obtain ⟨b2, o2, rfl, hcy⟩ := hb k y hy1
        have hbx := World.block_lt_of_cell? _ _ hcx
        have hby := World.block_lt_of_cell? _ _ hcy
        have dx : xs.drop k = x :: xs.drop (k + 1) := by rw [List.drop_eq_getElem_cons hlt]; congr 1; rw [List.getElem?_eq_getElem hlt] at hx1; exact Option.some.inj hx1
        have dy : ys.drop k = y :: ys.drop (k + 1) := by rw [List.drop_eq_getElem_cons hlt2]; congr 1; rw [List.getElem?_eq_getElem hlt2] at hy1; exact Option.some.inj hy1
        have hd : ((x.toList == y.toList) && sameL (xs.drop (k + 1)) (ys.drop (k + 1))) = R := by have := hrel.out; rw [dx, dy] at this; exact this
        have kx : wr.cell? ⟨b, o + k, none⟩ = some (.string x) := by rw [hbel.cell (p := ⟨b, o + k, none⟩) hbx]; exact hcx
        have ky : wr.cell? ⟨b2, o2 + k, none⟩ = some (.string y) := by rw [hbel.cell (p := ⟨b2, o2 + k, none⟩) hby]; exact hcy
        have q1 : ((k : Int) < N) := by omega
        clear hlt hlt2 dx dy hx1 hy1 hcx hcy
        cases hq : (x.toList == y.toList)
        · rw [hq] at hd
          obtain rfl : R = false := hd.symm
          clear hd hrel
          go_wp2
          go_quiet (fail)
          go_wp2
          go_ret
          exact ⟨rfl, below_drewN hbel _⟩
        · rw [hq] at hd
          have HD : Hid (sameL (xs.drop (k + 1)) (ys.drop (k + 1)) = R) := by simpa [Hid] using hd
          clear hd hrel
          go_wp2
          go_quiet (fail)
          go_wp2
          exact ⟨⟨k + 1, by go_num, by omega, HD, below_drewN hbel _⟩, by simp [intOf]; omega⟩
      · have e : R = true := by
          have := hrel.out
          rw [List.drop_eq_nil_of_le (by have := HN.out; omega), List.drop_eq_nil_of_le (by have := HN2.out; omega)] at this
          exact this.symm
        subst e
        go_wp2
        go_ret
        exact ⟨rfl, hbel⟩
  · have hle : ((xs.length : Int) == ys.length) = false := by simp; omega
    rw [sameL_len _ _ hl]
    go_enter Tryd.func49, Tryd.ntmps49
    go_wp2
    go_ret
    exact ⟨rfl, Below.refl _ w⟩

theorem same_self (w : World) (b1 b2 : Nat) (v1 v2 : Value) (xs : List ByteArray) (h1 : StrSl w b1 v1 xs) (h2 : StrSl w b2 v2 xs) (hx : xs.length ≤ 140737488351232) :
    Calls Tryd.prog 49 #[v1, v2] w fun e w' => e = .returned (.bool true) ∧ Below w.heap.size w w' := by
  obtain ⟨A, c, rfl, _, _⟩ := id h1
  obtain ⟨A', c', rfl, _, _⟩ := id h2
  have := same49_any w A A' c c' xs xs h1.at_.2.2 h2.at_.2.2 hx
  rw [sameL_self] at this; exact this

/-- what Wipe leaves as it was: how many cells a block of texts has, and every other block -/
def Kin (w w' : World) : Prop := (∀ (g : Nat) (cs : Array Value), w.heap[g]? = some (.cells cs 9 (0, 0)) → ∃ cs', w'.heap[g]? = some (.cells cs' 9 (0, 0)) ∧ cs'.size = cs.size) ∧
  (∀ (g : Nat) (cs : Array Value) (t : TypeId), t ≠ 9 → w.heap[g]? = some (.cells cs t (0, 0)) → w'.heap[g]? = some (.cells cs t (0, 0)))
theorem Kin.refl (w : World) : Kin w w := ⟨fun _ cs h => ⟨cs, h, rfl⟩, fun _ _ _ _ h => h⟩
theorem Kin.set {w wi : World} (h : Kin w wi) {g : Nat} {cs : Array Value} (hg : wi.heap[g]? = some (.cells cs 9 (0, 0))) (j : Nat) (v : Value) : Kin w (wi.setCell ⟨g, j, none⟩ v) := by
  refine ⟨fun k ks hk => ?_, fun k ks t ht hk => ?_⟩
  · obtain ⟨ks', h1, h2⟩ := h.1 k ks hk
    by_cases e : k = g
    · subst e
      rw [hg] at h1
      cases h1
      exact ⟨_, heap_setCell_same wi k j _ 9 v hg, by rw [Array.size_setIfInBounds]; exact h2⟩
    · exact ⟨ks', by rw [Below.heap_setCell _ _ _ _ (by simpa using e)]; exact h1, h2⟩
  · have h1 := h.2 k ks t ht hk
    have e : k ≠ g := by rintro rfl; rw [hg] at h1; cases h1; exact ht rfl
    rw [Below.heap_setCell _ _ _ _ (by simpa using e)]; exact h1
def SlotSl (W : World) (base : Nat) (v : Value) : Prop := ∃ A n c, v = .slice A n c ∧ n ≤ c ∧ n ≤ 1000000000 ∧ (n = 0 ∨ ∃ g off cs, A = some ⟨g, off, none⟩ ∧ base ≤ g ∧ W.heap[g]? = some (.cells cs 9 (0, 0)) ∧ off + n ≤ cs.size)
theorem SlotSl.of {W : World} {base : Nat} {v : Value} {xs : List ByteArray} (h : StrSl W base v xs) (hx : xs.length ≤ 1000000000) : SlotSl W base v := by
  obtain ⟨A, c, rfl, hc, h3⟩ := h
  refine ⟨A, _, c, rfl, hc, hx, ?_⟩
  rcases h3 with rfl | ⟨g, off, cs, h4, h5, h6, h7⟩
  · exact .inl rfl
  · by_cases h0 : xs.length = 0
    · exact .inl h0
    · refine .inr ⟨g, off, cs, h4, h5, h6, ?_⟩
      have := h7 (xs.length - 1) _ (List.getElem?_eq_getElem (by omega))
      have := (Array.getElem?_eq_some_iff.1 this).1
      omega
theorem SlotSl.kin {W W' : World} {base : Nat} {v : Value} (h : SlotSl W base v) (hk : Kin W W') : SlotSl W' base v := by
  obtain ⟨A, n, c, rfl, hc, hn, h3⟩ := h
  refine ⟨A, n, c, rfl, hc, hn, ?_⟩
  rcases h3 with h3 | ⟨g, off, cs, h4, h5, h6, h7⟩
  · exact .inl h3
  · obtain ⟨cs', h8, h9⟩ := hk.1 g cs h6
    exact .inr ⟨g, off, cs', h4, h5, h8, by omega⟩

set_option maxRecDepth 100000 in
set_option maxHeartbeats 1000000 in
theorem Wipe_any (w : World) (base : Nat) (v : Value) (h : SlotSl w base v) :
    Calls Tryd.prog 14 #[v] w fun e w' => e = .returned (.tuple #[]) ∧ Below base w w' ∧ Kin w w' := by
  obtain ⟨A, n, c, rfl, hc, hn, h3⟩ := h
  rcases h3 with rfl | ⟨g, off, cur, rfl, hg, hb, hcs⟩
  · go_enter Tryd.func14, Tryd.ntmps14
    go_wp2
    go_loopw [2] (fun i wi => i = .int .i64 0 ∧ wi = w) (fun i _ => 0)
    case atStart => exact ⟨rfl, rfl⟩
    case round =>
      obtain ⟨rfl, hwr⟩ := hrel
      obtain rfl : w = wr := hwr.symm
      go_wp2
      go_end0
      exact ⟨rfl, Below.refl _ _, Kin.refl _⟩
  · go_enter Tryd.func14, Tryd.ntmps14
    go_wp2
    go_loopw [2] (fun i wi => ∃ (k : Nat), i = .int .i64 k ∧ k ≤ n ∧ Kin w wi ∧ Below base w wi) (fun i _ => n - (intOf i).toNat)
    case atStart => exact ⟨0, rfl, Nat.zero_le _, Kin.refl _, Below.refl _ w⟩
    case round =>
      obtain ⟨k, rfl, hk, hkin, hbel⟩ := hrel
      by_cases hlt : k < n
      · have q1 : (k : Int) < n := by omega
        obtain ⟨cs, hbk, hcz⟩ := hkin.1 g cur hb
        have hlg : g < wr.heap.size := lt_of_block hbk
        have hkc : off + k < cs.size := by omega
        have hc : wr.cell? ⟨g, off + k, none⟩ = some cs[off + k] := by simp [World.cell?, hbk, hkc]
        have hf : wr.frozen? ⟨g, off + k, none⟩ = false := frozen_of_row wr _ _ _ _ hbk
        have hb2 := Lib.hid (hkin.set hbk (off + k) (.string ⟨#[63]⟩))
        have hbl := Lib.hid (hbel.setCell (p := ⟨g, off + k, none⟩) hg (.string ⟨#[63]⟩))
        generalize cs[off + k] = old at hc
        go_wp2
        exact ⟨⟨k + 1, by go_num, by omega, hb2.out, hbl.out⟩, by simp [intOf]; omega⟩
      · go_wp2
        go_end0
        exact ⟨rfl, hbel, hkin⟩

set_option maxRecDepth 100000 in
set_option maxHeartbeats 2000000 in
theorem SameRule_any (w : World) (b1 b2 : Nat) (AT AP AO BT BP BO : Option Addr) (cT cP cO eT eP eO NT NP NO : Nat) (T P O : List ByteArray) (d p t : Bool) (st : ByteArray)
    (hT : StrSl w b1 (.slice AT NT cT) T) (hP : StrSl w b1 (.slice AP NP cP) P) (hO : StrSl w b1 (.slice AO NO cO) O)
    (gT : StrSl w b2 (.slice BT NT eT) T) (gP : StrSl w b2 (.slice BP NP eP) P) (gO : StrSl w b2 (.slice BO NO eO) O) (lT : NT ≤ 1000000000) (lP : NP ≤ 1000000000) (lO : NO ≤ 1000000000) :
    Calls Tryd.prog 17 #[.agg #[.slice AT NT cT, .slice AP NP cP, .slice AO NO cO, .bool d, .bool p, .bool t, .string st, .slice none 0 0, .bool false, .string ⟨#[]⟩, .bool false], .agg #[.slice BT NT eT, .slice BP NP eP, .slice BO NO eO, .bool d, .bool p, .bool t, .string st, .slice none 0 0, .bool false, .string ⟨#[]⟩, .bool false]] w
      fun e w' => e = .returned (.bool true) ∧ Below w.heap.size w w' := by
  replace lT : T.length ≤ 1000000000 := by have := hT.at_.1; omega
  replace lP : P.length ≤ 1000000000 := by have := hP.at_.1; omega
  replace lO : O.length ≤ 1000000000 := by have := hO.at_.1; omega
  have HS := Lib.hid fun (w1 : World) (v1 v2 : Value) (xs : List ByteArray) (h1 : StrSl w1 b1 v1 xs) (h2 : StrSl w1 b2 v2 xs) (hx : xs.length ≤ 1000000000) => same_self w1 b1 b2 v1 v2 xs h1 h2 (by omega)
  have HH := Lib.hid (show (StrSl w b1 (.slice AT NT cT) T ∧ StrSl w b2 (.slice BT NT eT) T) ∧ (StrSl w b1 (.slice AP NP cP) P ∧ StrSl w b2 (.slice BP NP eP) P) ∧ (StrSl w b1 (.slice AO NO cO) O ∧ StrSl w b2 (.slice BO NO eO) O) from ⟨⟨hT, gT⟩, ⟨hP, gP⟩, ⟨hO, gO⟩⟩)
  have hdd : (d == d) = true := beq_self_eq_true d
  have hpp : (p == p) = true := beq_self_eq_true p
  have htt : (t == t) = true := beq_self_eq_true t
  have hst : (st.toList == st.toList) = true := beq_self_eq_true _
  clear hT hP hO gT gP gO
  obtain ⟨R1, hR1⟩ : ∃ R : Array Value, R = #[.slice AT NT cT, .slice AP NP cP, .slice AO NO cO, .bool d, .bool p, .bool t, .string st, .slice none 0 0, .bool false, .string ⟨#[]⟩, .bool false] := ⟨_, rfl⟩
  obtain ⟨R2, hR2⟩ : ∃ R : Array Value, R = #[.slice BT NT eT, .slice BP NP eP, .slice BO NO eO, .bool d, .bool p, .bool t, .string st, .slice none 0 0, .bool false, .string ⟨#[]⟩, .bool false] := ⟨_, rfl⟩
  have HR1 := Lib.hid hR1
  have HR2 := Lib.hid hR2
  clear hR1 hR2
  have HB : Hid (∀ W o, Below (w.heap.size + 2) ((w.alloc (.cells R1 29)).alloc (.cells R2 29)) W → o = w → W.heap[w.heap.size]? = some (.cells R1 29 (0, 0)) ∧ W.heap[w.heap.size + 1]? = some (.cells R2 29 (0, 0)) ∧ Below w.heap.size w W) := fun W o h _ => by
    have e2 := World.alloc_heap_new (w.alloc (.cells R1 29)) (.cells R2 29)
    have e1 := (Below.heap_alloc (w.alloc (.cells R1 29)) (.cells R2 29) w.heap.size (by simp)).trans (World.alloc_heap_new w (.cells R1 29))
    rw [World.size_alloc] at e2
    exact ⟨(h.block _ (by omega)).trans e1, (h.block _ (by omega)).trans e2, (((Below.refl _ w).alloc (Nat.le_refl _) _).alloc (by simp) _).trans (h.mono (by omega))⟩
  rw [HR1.out, HR2.out] at HB
  clear HR1 HR2 R1 R2
  go_enter Tryd.func17, Tryd.ntmps17
  go_wp2_with fail
  have hB0 : Below w.heap.size w ((w.alloc (.cells #[.slice AT NT cT, .slice AP NP cP, .slice AO NO cO, .bool d, .bool p, .bool t, .string st, .slice none 0 0, .bool false, .string ⟨#[]⟩, .bool false] 29)).alloc (.cells #[.slice BT NT eT, .slice BP NP eP, .slice BO NO eO, .bool d, .bool p, .bool t, .string st, .slice none 0 0, .bool false, .string ⟨#[]⟩, .bool false] 29)) := ((Below.refl _ w).alloc (Nat.le_refl _) _).alloc (by simp) _
  refine (HS.out _ _ _ T (HH.out.1.1.below hB0) (HH.out.1.2.below hB0) lT).mono ?_
  rintro e w1 ⟨rfl, hb1⟩
  have hc1 := Lib.hid (show Below (w.heap.size + 2) _ _ from hb1.mono (by simp))
  obtain ⟨r1, r2, k1⟩ := HB.out _ _ hc1.out rfl
  obtain ⟨a1, _⟩ := rowc r1 (j := 1) rfl
  obtain ⟨b1, _⟩ := rowc r2 (j := 1) rfl
  clear r1 r2 hb1
  go_wp2_with fail
  refine (HS.out _ _ _ P (HH.out.2.1.1.below k1) (HH.out.2.1.2.below k1) lP).mono ?_
  rintro e w2 ⟨rfl, hb2⟩
  have hc2 := Lib.hid (hc1.out.trans (hb2.mono (by have := hc1.out.size; simp at this; omega)))
  obtain ⟨r1, r2, k2⟩ := HB.out _ _ hc2.out rfl
  obtain ⟨a2, _⟩ := rowc r1 (j := 2) rfl
  obtain ⟨b2, _⟩ := rowc r2 (j := 2) rfl
  clear r1 r2 hb2
  go_wp2_with fail
  refine (HS.out _ _ _ O (HH.out.2.2.1.below k2) (HH.out.2.2.2.below k2) lO).mono ?_
  rintro e w3 ⟨rfl, hb3⟩
  have hc3 := Lib.hid (hc2.out.trans (hb3.mono (by have := hc2.out.size; simp at this; omega)))
  obtain ⟨r1, r2, k3⟩ := HB.out _ _ hc3.out rfl
  obtain ⟨a7, _⟩ := rowc r1 (j := 7) rfl
  obtain ⟨b7, _⟩ := rowc r2 (j := 7) rfl
  clear r1 r2 hb3
  go_wp2_with fail
  refine (HS.out _ _ _ [] (StrSl.nil _ _) (StrSl.nil _ _) (by simp)).mono ?_
  rintro e w4 ⟨rfl, hb4⟩
  have hc4 := Lib.hid (hc3.out.trans (hb4.mono (by have := hc3.out.size; simp at this; omega)))
  obtain ⟨r1, r2, k4⟩ := HB.out _ _ hc4.out rfl
  obtain ⟨a3, _⟩ := rowc r1 (j := 3) rfl
  obtain ⟨b3, _⟩ := rowc r2 (j := 3) rfl
  obtain ⟨a4, _⟩ := rowc r1 (j := 4) rfl
  obtain ⟨b4, _⟩ := rowc r2 (j := 4) rfl
  obtain ⟨a5, _⟩ := rowc r1 (j := 5) rfl
  obtain ⟨b5, _⟩ := rowc r2 (j := 5) rfl
  obtain ⟨a6, _⟩ := rowc r1 (j := 6) rfl
  obtain ⟨b6, _⟩ := rowc r2 (j := 6) rfl
  obtain ⟨a8, _⟩ := rowc r1 (j := 8) rfl
  obtain ⟨b8, _⟩ := rowc r2 (j := 8) rfl
  obtain ⟨a9, _⟩ := rowc r1 (j := 9) rfl
  obtain ⟨b9, _⟩ := rowc r2 (j := 9) rfl
  obtain ⟨a10, _⟩ := rowc r1 (j := 10) rfl
  obtain ⟨b10, _⟩ := rowc r2 (j := 10) rfl
  clear r1 r2 hb4
  go_wp2
  go_ret
  exact ⟨rfl, k4⟩
end Go.Proofs.YtmcemaphhlcjfaaDoor
