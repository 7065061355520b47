/- Lists of commands. A list, as a command. Conditions: as each part says. -/
import Derived.Test.YtioddclglemlmaaGreatDoorGramKi
import Derived.RegionDies
/- Lists of commands; conditions: a parser that stands among tokens, the last one the end; what && and || tell. -/
namespace Go.Proofs.YtioddclglemlmaaGreatDoor
open Go.RowKit


/-- a list of commands in hand, in blocks from b on -/
def KidsR (b : Nat) (W : World) (u : Value) (ks : List CmdT) : Prop := ∃ X kc, OwnG W b 28 7 u ks.length X ∧ X = List.flatten kc ∧ KidsAt W (fun k => b ≤ k ∧ k < W.heap.size ∧ u.ownBlock ≠ some k) kc ks
theorem KidsR.keep {T : Nat → Prop} {W W' : World} {b : Nat} {u : Value} {ks : List CmdT} (h : KidsR b W u ks) (hk : Kept T W W') (hT : ∀ k, T k → k < b) : KidsR b W' u ks := by
  obtain ⟨X, kc, h1, h2, h3⟩ := h
  have hb : ∀ k, b ≤ k → k < W.heap.size → W'.heap[k]? = W.heap[k]? := fun k h1 h2 => hk.block k h2 fun e => by have := hT k e; omega
  exact ⟨X, kc, h1.move (fun k e => hb k (h1.block_lt k e).1 (h1.block_lt k e).2), h2, h3.move (fun k e => ⟨e.1, Nat.lt_of_lt_of_le e.2.1 hk.size, e.2.2⟩) (fun k e => hb k e.1 e.2.1)⟩
/-- a first command -/
theorem KidsR.one {W : World} {b a : Nat} {c0 c1 c2 c3 c4 c5 c6 : Value} {t : CmdT} (h : CmdAt W (fun k => a ≤ k ∧ k < W.heap.size) [c0, c1, c2, c3, c4, c5, c6] t) (ha : b ≤ a) (hb : b ≤ W.heap.size) : KidsR b (W.alloc (.cells #[c0, c1, c2, c3, c4, c5, c6] 28)) (.slice (some ⟨W.heap.size, 0, none⟩) 1 1) [t] := by
  refine ⟨_, [[c0, c1, c2, c3, c4, c5, c6]], ⟨rfl, .inr ⟨W.heap.size, 1, _, rfl, hb, heap_alloc_last W _, Nat.le_refl _, by unfold maxLen; omega, Nat.le_refl _, rfl⟩⟩, rfl, KidsAt.one (h.move (fun k e => ⟨by omega, by simp; omega, fun e2 => ?_⟩) fun k e => Below.heap_alloc _ _ _ e.2)⟩
  have e3 : W.heap.size = k := by simpa [Value.ownBlock] using e2
  omega
/-- one more -/
theorem KidsR.push {W W3 : World} {o : Obj} {b : Nat} {A : Option Addr} {n c : Nat} {v' : Value} {ks : List CmdT} {X cs : List Value} {kc : List (List Value)} {t : CmdT} {a : Nat} (hx : X = List.flatten kc) (hk : KidsAt W (fun k => b ≤ k ∧ k < a ∧ (Value.slice A n c).ownBlock ≠ some k) kc ks) (hn : n = ks.length)
    (hc : CmdAt W (fun k => a ≤ k ∧ k < W.heap.size) cs t) (hA : ∀ k, (Value.slice A n c).ownBlock = some k → k < a) (haW : a ≤ W.heap.size) (hba : b ≤ a) (hg : (W.alloc o).grownBy W3 (Value.slice A n c).ownBlock) (h3 : OwnG W3 b 28 7 v' (n + 1) (X ++ cs)) (hv : ∀ k, v'.ownBlock = some k → (Value.slice A n c).ownBlock = some k ∨ k = (W.alloc o).heap.size) : KidsR b W3 v' (ks ++ [t]) := by
  have hsa : (W.alloc o).heap.size = W.heap.size + 1 := by simp
  have hs3 := hg.size
  have hb3 : ∀ k, k < W.heap.size → (Value.slice A n c).ownBlock ≠ some k → W3.heap[k]? = W.heap[k]? := fun k h1 h2 => (hg.block k (by omega) (fun e => h2 e.symm)).trans (Below.heap_alloc _ _ _ h1)
  have hvn : ∀ k, k < W.heap.size → (Value.slice A n c).ownBlock ≠ some k → v'.ownBlock ≠ some k := fun k h1 h2 e => by
    rcases hv k e with e | e
    · exact h2 e
    · omega
  refine ⟨X ++ cs, kc ++ [cs], by rw [List.length_append, ← hn]; exact h3, by rw [hx]; simp, (hk.move (fun k e => ⟨e.1, by omega, hvn k (by omega) e.2.2⟩) fun k e => hb3 k (by omega) e.2.2).snoc (hc.move (fun k e => ?_) fun k e => hb3 k e.2 fun e2 => by have := hA k e2; omega)⟩
  have hne : (Value.slice A n c).ownBlock ≠ some k := fun e2 => by have := hA k e2; omega
  exact ⟨by omega, by omega, hvn k e.2 hne⟩
section
variable {pb d g cap : Nat} {T : List (Int × ByteArray)} {C : Nat → PR CmdT}
def LsOK (pb : Nat) (T : List (Int × ByteArray)) (g cap d i0 : Nat) (P : Nat → PR (List CmdT)) : Prop :=
  ∀ i w, i0 ≤ i → PAt w pb T i d g cap → Calls Tryz.prog 29 #[.pointer (some ⟨pb, 0, none⟩)] w (PaR pb T g cap i d w (KidsR w.heap.size) (P i))
set_option maxRecDepth 100000 in
set_option maxHeartbeats 4000000 in
theorem andors_any (i0 : Nat) (HC : FnOK 49 pb T g cap d i0 (aoP T C)) : LsOK pb T g cap d i0 (aosP T C) := by
  intro i w hi h
  obtain ⟨R, hR⟩ : ∃ R, aosP T C i = R := ⟨_, rfl⟩
  rw [hR]
  unfold aosP at hR
  have HC := Lib.hid HC
  have HP := Lib.hid h
  have hbl := h.blt
  have hb1 := h.p1
  obtain ⟨i28, hi28, hz0, hz1, hz2⟩ := info_parts Tryz.info28
  have HPI := Lib.hid (HC.out i _ hi h)
  obtain ⟨r, hr⟩ : ∃ r, aoP T C i = r := ⟨_, rfl⟩
  rw [hr] at HPI hR
  have HR := Lib.hid hR
  clear h hR hr
  cases r with
  | err n =>
    go_enter Tryz.func29, Tryz.ntmps29
    go_wp2_with fail
    refine HPI.out.mono ?_
    rintro e w4 ⟨hk4, k2, rfl⟩
    have e : R = .err n := HR.out.symm
    subst e
    have HK4 := Lib.hid hk4
    clear hk4
    go_wp2
    exact ⟨rfl, HK4.out, _, rfl⟩
  | ok c j1 =>
    have HR2 : Hid (aosF T C (T.length + 1) j1 [c] = R) := HR.out
    go_enter Tryz.func29, Tryz.ntmps29
    go_wp2_with fail
    refine HPI.out.mono ?_
    rintro e w2 ⟨hk2, u, rfl, ⟨cs, rfl, hc2⟩, hp2, hj2⟩
    obtain ⟨kc0, nc0, B2, q2, p2, B3, q3, p3, B4, q4, p4, B5, q5, p5, B6, q6, p6, rfl⟩ := hc2.lit
    have hkr := KidsR.one hc2 (Nat.le_refl _) hk2.size
    obtain ⟨w3, hw3⟩ : ∃ w3, w2.alloc (.cells #[.int .i64 kc0, .bool nc0, .slice B2 q2 p2, .slice B3 q3 p3, .slice B4 q4 p4, .slice B5 q5 p5, .slice B6 q6 p6] 28) = w3 := ⟨_, rfl⟩
    rw [hw3] at hkr
    have HP3 := Lib.hid (by rw [← hw3]; exact hp2.alloc _ : PAt w3 pb T j1 d g cap)
    have HK3 := Lib.hid (by rw [← hw3]; exact hk2.alloc _ : Kept (Own1 pb) w w3)
    have HKR := Lib.hid hkr
    have HW3 := Lib.hid hw3
    clear hp2 hk2 hc2 hkr hw3
    go_wp2
    rw [HW3.out]
    clear HW3
    go_loopw [3] (fun u3 wi => ∃ (j f : Nat) (ks : List CmdT), PAt wi pb T j d g cap ∧ KidsR w.heap.size wi u3 ks ∧ Kept (Own1 pb) w wi ∧ i ≤ j ∧ T.length < f + j ∧ ks.length ≤ j + 1 ∧ Hid (aosF T C f j ks = R)) (fun _ wi => T.length - iOf wi pb)
    case atStart => exact ⟨j1, T.length + 1, [c], HP3.out, HKR.out, HK3.out, hj2, by omega, by simp, HR2⟩
    case round =>
      clear HKR HP3 HK3 HR2
      obtain ⟨j, f, ks, hp, hkr, hk, hij2, hf, hlen, hr⟩ := hrel
      have hlt := hp.lt
      have hsm := hp.small
      obtain ⟨f, rfl⟩ : ∃ g, f = g + 1 := ⟨f - 1, by omega⟩
      have hst := hr.out
      rw [aosF] at hst
      have HM := Lib.hid (iOf_p hp)
      have HKR5 := Lib.hid hkr
      have HK5 := Lib.hid hk
      have HSP := Lib.hid (sep_any hp)
      obtain ⟨X5, kc5, ho5, hx5, hkk5⟩ := hkr
      obtain ⟨A5, n5, rfl, _, _⟩ := ho5.form
      obtain ⟨q1, hq1⟩ : ∃ q, sepP T j = q := ⟨_, rfl⟩
      rw [hq1] at HSP hst
      clear hr hp hk hq1 ho5 hx5 hkk5
      cases q1 with
      | none =>
        have hst : PR.ok ks j = R := hst
        subst hst
        go_wp2_with fail
        refine HSP.out.mono ?_
        rintro e w6 ⟨rfl, hp6, hk6, _, _⟩
        have HKR6 := Lib.hid (HKR5.out.keep hk6 (by intro k (e : k = pb); omega))
        have HK6 := Lib.hid (HK5.out.trans hk6)
        have HP6 := Lib.hid (show PAt w6 pb T j d g cap from hp6)
        clear hk6 hp6
        go_wp2
        go_ret
        exact ⟨HK6.out, _, rfl, HKR6.out, HP6.out, hij2⟩
      | some j2 =>
        have hst : (if begP T j2 then (aoP T C j2).bind fun c j => aosF T C f j (ks ++ [c]) else .ok ks j2) = R := hst
        obtain ⟨q2, hq2⟩ : ∃ q, begP T j2 = q := ⟨_, rfl⟩
        rw [hq2] at hst
        go_wp2_with fail
        refine HSP.out.mono ?_
        rintro e w6 ⟨rfl, hp6, hk6, hle6, hlt6⟩
        have hlt6 : j < j2 := hlt6 rfl
        have hp6 : PAt w6 pb T j2 d g cap := hp6
        have HBG := Lib.hid (begins_any hp6)
        rw [hq2] at HBG
        have HKR6 := Lib.hid (HKR5.out.keep hk6 (by intro k (e : k = pb); omega))
        have HK6 := Lib.hid (HK5.out.trans hk6)
        have HP6 := Lib.hid hp6
        clear hk6 hp6 hle6 hq2 HSP HKR5
        cases q2 with
        | false =>
          rw [if_neg (by decide)] at hst
          subst hst
          go_wp2_with fail
          refine HBG.out.mono ?_
          rintro e w7 ⟨rfl, m, hw7⟩
          have HKR7 := Lib.hid (by rw [hw7]; exact HKR6.out.keep (T := fun _ => False) ((Kept.refl _ _).drewN m) (fun _ e => e.elim) : KidsR w.heap.size w7 (.slice A5 ks.length n5) ks)
          have HK7 := Lib.hid (by rw [hw7]; exact HK6.out.drewN m : Kept (Own1 pb) w w7)
          have HP7 := Lib.hid (by rw [hw7]; exact HP6.out.drewN m : PAt w7 pb T j2 d g cap)
          clear hw7
          go_wp2
          go_ret
          exact ⟨HK7.out, _, rfl, HKR7.out, HP7.out, by omega⟩
        | true =>
          rw [if_pos rfl] at hst
          obtain ⟨r, hr⟩ : ∃ r, aoP T C j2 = r := ⟨_, rfl⟩
          rw [hr] at hst
          have HST2 := Lib.hid hst
          clear hst
          go_wp2_with fail
          refine HBG.out.mono ?_
          rintro e w7 ⟨rfl, m, hw7⟩
          have hkr7 := (by rw [hw7]; exact HKR6.out.keep (T := fun _ => False) ((Kept.refl _ _).drewN m) (fun _ e => e.elim) : KidsR w.heap.size w7 (.slice A5 ks.length n5) ks)
          have HK7 := Lib.hid (by rw [hw7]; exact HK6.out.drewN m : Kept (Own1 pb) w w7)
          have HP7 := Lib.hid (by rw [hw7]; exact HP6.out.drewN m : PAt w7 pb T j2 d g cap)
          have HCW := Lib.hid (HC.out j2 w7 (by omega) HP7.out)
          rw [hr] at HCW
          have HKR7 := Lib.hid hkr7
          clear hw7 hr HKR6 HK6 HP6 HBG hkr7
          obtain ⟨nk, hnk⟩ : ∃ nk, ks.length = nk := ⟨_, rfl⟩
          have HNK := Lib.hid hnk
          rw [hnk] at hlen
          cases r with
          | err n =>
            go_wp2_with fail
            refine HCW.out.mono ?_
            rintro e w4 ⟨hk4, k2, rfl⟩
            have e : R = .err n := HST2.out.symm
            subst e
            have HK9 := Lib.hid (HK7.out.trans hk4)
            clear hk4
            go_wp2
            exact ⟨rfl, HK9.out, _, rfl⟩
          | ok c1 j3 =>
            go_wp2_with fail
            refine HCW.out.mono ?_
            rintro e w4 ⟨hk4, u, rfl, ⟨cs, rfl, hc4⟩, hp4, hj4⟩
            obtain ⟨kc0, nc0, B2, q2, p2, B3, q3, p3, B4, q4, p4, B5, q5, p5, B6, q6, p6, rfl⟩ := hc4.lit
            have hsz4 := hk4.size
            have hbw7 : w.heap.size ≤ w7.heap.size := HK7.out.size
            obtain ⟨X7, kc7, ho7, hx7, hkk7⟩ := HKR7.out
            have hkr4 := HKR7.out.keep hk4 (by intro k (e : k = pb); omega)
            have ho4 : OwnG w4 w.heap.size 28 7 (.slice A5 ks.length n5) ks.length X7 := ho7.move fun k e => hk4.block k (ho7.block_lt k e).2 (by show ¬ k = pb; have := (ho7.block_lt k e).1; omega)
            have hkk4 : KidsAt w4 (fun k => w.heap.size ≤ k ∧ k < w7.heap.size ∧ (Value.slice A5 ks.length n5).ownBlock ≠ some k) kc7 ks := hkk7.move (fun _ e => e) fun k e => hk4.block k e.2.1 (by show ¬ k = pb; omega)
            have hA := fun k hk => (ho7.block_lt k hk).2
            rw [hnk] at ho4 hkk4 hA
            have HO := Lib.hid fun o => (ho4.move (w' := w4.alloc o) fun k e => Below.heap_alloc w4 o k (ho4.block_lt k e).2)
            have HXX := Lib.hid fun (o : Obj) (w6 : World) (v' : Value) (hg : (w4.alloc o).grownBy w6 (Value.slice A5 nk n5).ownBlock) ho hn => (⟨KidsR.push (v' := v') hx7 hkk4 hnk.symm hc4 hA hsz4 hbw7 hg ho hn, (Kept.refl (fun k => (Value.slice A5 nk n5).ownBlock = some k) w4).alloc o |>.grown hg (fun k e => .inl e)⟩ : KidsR w.heap.size w6 v' (ks ++ [c1]) ∧ Kept (fun k => (Value.slice A5 nk n5).ownBlock = some k) w4 w6)
            have HTC := Lib.hid fun k e => (ho4.block_lt k e).1
            have HP4 := Lib.hid hp4
            have HK4 := Lib.hid (HK7.out.trans hk4)
            have hnk2 : nk ≤ 10001 := by omega
            have hb4 : w.heap.size ≤ w4.heap.size := by omega
            have hlt4 := hp4.lt
            clear ho7 hx7 hkk7 hkr4 ho4 hkk4 hA hk4 hp4 hc4
            clear hnk
            go_wp2_with (at_builtin; refine wpList_append_G _ rfl _ _ 24 rfl w.heap.size 28 i28 (.agg #[.int .i64 0, .bool false, .slice none 0 0, .slice none 0 0, .slice none 0 0, .slice none 0 0, .slice none 0 0]) 7 136 Tryz.underlying24 hi28 hz0 hz1 hz2 rfl (.slice A5 nk n5) nk X7 rfl (HO.out _) ⟨w4.heap.size, 0, none⟩ 1 1 [.int .i64 kc0, .bool nc0, .slice B2 q2 p2, .slice B3 q3 p3, .slice B4 q4 p4, .slice B5 q5 p5, .slice B6 q6 p6] rfl rfl (World.news_of_block (heap_alloc_last w4 _)) (by simp [Value.oneCell']) (by decide) (by unfold maxLen; omega) (by omega) (by simp; omega) ?_; intro g6 cap6 w8 hown6 hgrow6 hnew6 _; have HY := Lib.hid (HXX.out _ _ _ hgrow6 hown6 (fun k hk => by have e6 : g6 = k := (by simpa [Value.ownBlock] using hk); rw [← e6]; exact hnew6)); clear hown6 hgrow6 hnew6)
            have HP8 := Lib.hid (HP4.out.keep HY.out.2 (fun e => by have := HTC.out _ e; omega) (fun e => by have := HTC.out _ e; omega) (fun e => by have := HTC.out _ e; omega))
            have HM8 := Lib.hid (iOf_p HP8.out)
            exact ⟨⟨j3, f, ks ++ [c1], HP8.out, HY.out.1, HK4.out.on HY.out.2 (fun k e => .inr (HTC.out k e)), by omega, by omega, by rw [List.length_append, HNK.out]; simp; omega, HST2⟩, by rw [HM.out, HM8.out]; omega⟩
end
end Go.Proofs.YtioddclglemlmaaGreatDoor

/- A list, as a command; conditions: a parser that stands among tokens, the last one the end; what && and || tell. -/
namespace Go.Proofs.YtioddclglemlmaaGreatDoor
open Go.RowKit


/-- a command's value is put to the result -/
theorem put_fin {W : World} {S : Nat → Prop} {rb base : Nat} {kind : Int} {no : Bool} {v2 v3 v4 v5 v6 : Value} {t : CmdT}
    (hrr : ∃ z0 z1 z2 z3 z4 z5 z6, W.heap[rb]? = some (.cells #[z0, z1, z2, z3, z4, z5, z6] 28 (0, 0))) (hc : CmdAt W S [.int .i64 kind, .bool no, v2, v3, v4, v5, v6] t) (hS : ∀ k, S k → base ≤ k ∧ k < W.heap.size ∧ k ≠ rb) :
    ∃ W6, (((((((W.setCell ⟨rb, 0, none⟩ (.int .i64 kind)).setCell ⟨rb, 1, none⟩ (.bool no)).setCell ⟨rb, 2, none⟩ v2).setCell ⟨rb, 3, none⟩ v3).setCell ⟨rb, 4, none⟩ v4).setCell ⟨rb, 5, none⟩ v5).setCell ⟨rb, 6, none⟩ v6) = W6 ∧ (loadVar 28 ⟨rb, 0, none⟩).run Tryz.prog W6 = .ok (.agg #[.int .i64 kind, .bool no, v2, v3, v4, v5, v6]) W6 ∧
    CmdR base W6 (.agg #[.int .i64 kind, .bool no, v2, v3, v4, v5, v6]) t ∧ Kept (fun k => k = rb) W W6 := by
  obtain ⟨z0, z1, z2, z3, z4, z5, z6, hr⟩ := hrr
  have hs := set7 hr (.int .i64 kind) (.bool no) v2 v3 v4 v5 v6
  have ho : ∀ k, k ≠ rb → (put7 W rb (.int .i64 kind) (.bool no) v2 v3 v4 v5 v6).heap[k]? = W.heap[k]? := fun k hk => put7_other hk _ _ _ _ _ _ _
  have hk := put7_kept (Kept.refl (fun k => k = rb) W) (.inl rfl) (.int .i64 kind) (.bool no) v2 v3 v4 v5 v6
  obtain ⟨W6, hW⟩ : ∃ W6, put7 W rb (.int .i64 kind) (.bool no) v2 v3 v4 v5 v6 = W6 := ⟨_, rfl⟩
  rw [hW] at hs ho hk
  exact ⟨W6, hW, load7 hs, ⟨_, rfl, hc.move (fun k e => ⟨(hS k e).1, Nat.lt_of_lt_of_le (hS k e).2.1 hk.size⟩) fun k e => ho k (hS k e).2.2⟩, hk⟩
section
variable {pb d g cap : Nat} {T : List (Int × ByteArray)} {C : Nat → PR CmdT}
set_option maxRecDepth 100000 in
set_option maxHeartbeats 4000000 in
theorem list_any (i0 : Nat) (HC : LsOK pb T g cap d i0 (aosP T C)) : FnOK 91 pb T g cap d i0 (lisP T C) := by
  intro i w hi h
  obtain ⟨R, hR⟩ : ∃ R, lisP T C i = R := ⟨_, rfl⟩
  rw [hR]
  unfold lisP at hR
  have hbl := h.blt
  have hb1 := h.p1
  have HL := Lib.hid (lines_any (h.alloc (.cells #[.int .i64 0, .bool false, .slice none 0 0, .slice none 0 0, .slice none 0 0, .slice none 0 0, .slice none 0 0] 28)))
  obtain ⟨j0, hj0⟩ : ∃ j0, lineP T i = j0 := ⟨_, rfl⟩
  rw [hj0] at HL hR
  obtain ⟨r, hr⟩ : ∃ r, aosP T C j0 = r := ⟨_, rfl⟩
  have HC := Lib.hid fun (w : World) (h1 : i ≤ j0) (h : PAt w pb T j0 d g cap) => HC j0 w (Nat.le_trans hi h1) h
  rw [hr] at hR HC
  have HR := Lib.hid hR
  clear h hR hj0 hr
  go_enter Tryz.func91, Tryz.ntmps91
  go_wp2_with fail
  refine HL.out.mono ?_
  rintro e w2 ⟨rfl, hp2, hk2, hij⟩
  have hk02 : Kept (Own1 pb) w w2 := ((Kept.refl _ w).alloc _).trans hk2
  have hz2 : w2.heap[w.heap.size]? = some (.cells #[.int .i64 0, .bool false, .slice none 0 0, .slice none 0 0, .slice none 0 0, .slice none 0 0, .slice none 0 0] 28 (0, 0)) := (hk2.block _ (by simp) (by show ¬ _ = pb; omega)).trans (heap_alloc_last w _)
  have hs2 : w.heap.size + 1 ≤ w2.heap.size := by have := hk2.size; rw [World.size_alloc] at this; exact this
  have HC := Lib.hid (HC.out w2 hij hp2)
  have HZ2 := Lib.hid hz2
  have HK2 := Lib.hid hk02
  clear hp2 hk2 hk02 hz2
  cases r with
  | err n =>
    go_wp2_with fail
    refine HC.out.mono ?_
    rintro e w4 ⟨hk4, k2, rfl⟩
    have e : R = .err n := HR.out.symm
    subst e
    have HK4 := Lib.hid (HK2.out.trans hk4)
    clear hk4
    go_wp2
    exact ⟨rfl, HK4.out, _, rfl⟩
  | ok ks j =>
    go_wp2_with fail
    refine HC.out.mono ?_
    rintro e w4 ⟨hk4, u, rfl, ⟨X4, kc4, ho4, hx4, hkk4⟩, hp4, hj4⟩
    obtain ⟨A4, c4, rfl, _, _⟩ := ho4.form
    have hz4 := (hk4.block _ (by omega) (by show ¬ _ = pb; omega)).trans HZ2.out
    have hrr : ∃ z0 z1 z2 z3 z4 z5 z6, w4.heap[w.heap.size]? = some (.cells #[z0, z1, z2, z3, z4, z5, z6] 28 (0, 0)) := ⟨_, _, _, _, _, _, _, hz4⟩
    have HK4 := Lib.hid (HK2.out.trans hk4)
    have HP4 := Lib.hid hp4
    have hij4 : i ≤ j := by omega
    have hblt := ho4.block_lt
    clear hk4 hp4
    by_cases hone : ks.length = 1
    · obtain ⟨c0, rfl⟩ : ∃ c0, ks = [c0] := by
        match ks, hone with
        | [c0], _ => exact ⟨c0, rfl⟩
      have e : R = .ok c0 j := HR.out.symm
      subst e
      have ho4 : OwnG w4 w2.heap.size 28 7 (.slice A4 1 c4) 1 X4 := ho4
      obtain ⟨gk, cpk, kd, nk, A2, l2, m2, A3, l3, m3, A4', l4, m4, A5', l5, m5, A6, l6, m6, hv, hcap, hfn⟩ := kid_fin (base := w.heap.size) hrr ho4 ⟨kc4, hx4, hkk4⟩ (fun k e => ⟨by omega, e.2.1, by omega⟩)
      cases hv
      obtain ⟨k0, k1', k2, k3, k4, k5', k6, ⟨z0, z1, z2, z3, z4, z5, z6, ⟨y0, g0⟩, ⟨y1, g1⟩, ⟨y2, g2⟩, ⟨y3, g3⟩, ⟨y4, g4⟩, ⟨y5, g5⟩, ⟨y6, g6⟩⟩, hfin⟩ := hfn
      have HRT := Lib.hid hfin
      clear hfin ho4 hx4 hkk4 hz4 hrr hblt
      go_wp2
      obtain ⟨W6, hW6, hl6, hc6, hk6⟩ := HRT.out
      rw [hW6]
      exact bodyPost_ret (results_cell (t := 2) (by kernel_rfl) rfl hl6) rfl ⟨HK4.out.on hk6 (fun k e => .inr (Nat.le_of_eq e.symm)), _, rfl, hc6, HP4.out.keep hk6 (by show ¬ pb = _; omega) (by show ¬ g = _; omega) (by show ¬ 1 = _; omega), hij4⟩
    · have e : R = .ok (.mk 5 false [] [] [] ks [] []) j := by
        rw [← HR.out]
        show (match ks with | [k] => PR.ok k j | ks => .ok (.mk 5 false [] [] [] ks [] []) j) = _
        split
        · exact absurd rfl hone
        · rfl
      subst e
      have hcm : CmdAt w4 (fun k => w2.heap.size ≤ k ∧ k < w4.heap.size) [.int .i64 5, .bool false, .slice none 0 0, .slice none 0 0, .slice none 0 0, .slice A4 ks.length c4, .slice none 0 0] (.mk 5 false [] [] [] ks [] []) :=
        CmdAt.of (RdG.nil _ _ _ _) (RdG.nil _ _ _ _) (RdG.nil _ _ _ _) (kc := kc4) ⟨by rw [← hx4]; exact ho4.lower (Nat.zero_le _), fun k hk => hblt k hk⟩ (hkk4.move (fun k e => ⟨e.1, e.2.1⟩) fun _ _ => rfl) (pc := []) (bc := []) (RdG.nil _ _ _ _) ArmsAt.nil
      have HRT := Lib.hid (put_fin (base := w.heap.size) hrr hcm (fun k e => ⟨by omega, e.2, by omega⟩))
      obtain ⟨y0, g0⟩ := rowc hz4 (j := 0) (v := .int .i64 0) rfl
      obtain ⟨y1, g1⟩ := rowc hz4 (j := 1) (v := .bool false) rfl
      obtain ⟨y2, g2⟩ := rowc hz4 (j := 2) (v := .slice none 0 0) rfl
      obtain ⟨y3, g3⟩ := rowc hz4 (j := 3) (v := .slice none 0 0) rfl
      obtain ⟨y4, g4⟩ := rowc hz4 (j := 4) (v := .slice none 0 0) rfl
      obtain ⟨y5, g5⟩ := rowc hz4 (j := 5) (v := .slice none 0 0) rfl
      obtain ⟨y6, g6⟩ := rowc hz4 (j := 6) (v := .slice none 0 0) rfl
      obtain ⟨nk, hnk⟩ : ∃ nk, ks.length = nk := ⟨_, rfl⟩
      rw [hnk] at hone HRT
      have hone' : ((nk : Int) == 1) = false := beq_eq_false_iff_ne.2 (by omega)
      clear hcm ho4 hx4 hkk4 hz4 hrr hblt
      go_wp2
      obtain ⟨W6, hW6, hl6, hc6, hk6⟩ := HRT.out
      rw [hW6]
      exact bodyPost_ret (results_cell (t := 2) (by kernel_rfl) rfl hl6) rfl ⟨HK4.out.on hk6 (fun k e => .inr (Nat.le_of_eq e.symm)), _, rfl, hc6, HP4.out.keep hk6 (by show ¬ pb = _; omega) (by show ¬ g = _; omega) (by show ¬ 1 = _; omega), hij4⟩
end
end Go.Proofs.YtioddclglemlmaaGreatDoor
