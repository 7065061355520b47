/- OptsBack; conditions: a list that lies in memory, the library's one number and one type in their cells. -/
import Derived.Test.YtmcemaphhlcjfaaDoorOptX
import Derived.Test.YtmcemaphhlcjfaaDoorStrsIn
namespace Go.Proofs.YtmcemaphhlcjfaaDoor
open Go.RowKit Go.Maps

def bsB (b : Int) : Nat → Bool
  | 1 => (bits .and .i64 b 1 != 0)
  | 2 => (bits .and .i64 b 2 != 0)
  | 3 => (bits .and .i64 b 4 != 0)
  | 4 => (bits .and .i64 b 8 != 0)
  | 5 => (bits .and .i64 b 16 != 0)
  | 6 => (bits .and .i64 b 32 != 0)
  | 7 => (bits .and .i64 b 64 != 0)
  | 8 => (bits .and .i64 b 128 != 0)
  | 9 => (bits .and .i64 b 256 != 0)
  | _ => false
/-- the word that sets the variable v of a name -/
def vwB (x : ByteArray) : ByteArray := ⟨#[118]⟩ ++ x ++ ⟨#[61]⟩ ++ x
def smB (x : ByteArray) : Prop := ∀ t, t < x.size → 97 ≤ (x.get! t).toNat ∧ (x.get! t).toNat ≤ 122
theorem vwB_VW {x : ByteArray} (h : smB x) : VW (vwB x) := by
  refine ⟨x.data.toList, fun c hc => ?_, ?_⟩
  · obtain ⟨i, hi, he⟩ := List.getElem_of_mem hc
    have h1 := getL (s := x) (i := i) (c := c) (by rw [List.getElem?_eq_getElem hi, he])
    rw [← h1.2]
    exact h i h1.1
  · unfold vwB; simp
theorem vwB_size (x : ByteArray) : (vwB x).size = 2 + 2 * x.size := by
  unfold vwB
  rw [ByteArray.size_append, ByteArray.size_append, ByteArray.size_append]
  show 1 + x.size + 1 + x.size = _
  omega
theorem totL_vw : ∀ (l : List ByteArray), (∀ x ∈ l, x.size ≤ 50) → totL (l.map vwB) ≤ 103 * l.length
  | [], _ => Nat.le_refl _
  | x :: l, h => by
    have h1 := totL_vw l (fun y hy => h y (List.mem_cons_of_mem _ hy))
    have h2 := h x (List.mem_cons_self ..)
    rw [List.map_cons, totL, vwB_size, List.length_cons]
    omega
theorem flags_size (bs : Nat → Bool) (vs : List ByteArray) (h : totL vs ≤ 20000) : (mk (flagsL bs vs)).size ≤ 400000 := by
  have h1 : (ltr bs 9).length ≤ 9 := by
    unfold ltr
    refine Nat.le_trans (List.length_filter_le ..) ?_
    rw [List.length_take]; exact Nat.min_le_left _ _
  have h2 := join_size vs
  have h3 : (joinB vs).data.toList.length = (joinB vs).size := Array.length_toList ..
  show (flagsL bs vs).toArray.size ≤ _
  rw [List.size_toArray]
  unfold flagsL
  split
  · omega
  · rw [List.length_append, List.length_append, h3]
    split
    · simp; omega
    · simp; omega
theorem take_step {xs : List ByteArray} {k : Nat} {x : ByteArray} (h : xs[k]? = some x) : (xs.take (k + 1)).map vwB = (xs.take k).map vwB ++ [vwB x] := by
  obtain ⟨hk, he⟩ := List.getElem?_eq_some_iff.1 h
  rw [List.take_succ_eq_append_getElem hk, List.map_append, he]; rfl
/-- the rounds over the names -/
def BRel (w w1 : World) (ob : Nat) (S0 : Nat → Prop) (b : Int) (xs : List ByteArray) (i : Value) (wi : World) : Prop :=
  ∃ (k : Nat) (S : Nat → Prop), i = .int .i64 k ∧ k ≤ xs.length ∧ OpAt wi ob S ⟨1, bsB b, false, [], [], (xs.take k).map vwB⟩ ∧ Nx w1 S0 wi S ∧ Below w.heap.size w wi ∧ ∀ x ∈ xs.take k, x.size ≤ 50 ∧ smB x
def IRel (x : ByteArray) (wr : World) (i : Value) (wi : World) : Prop := ∃ j : Nat, i = .int .i64 j ∧ j ≤ x.size ∧ (∀ t, t < j → 97 ≤ (x.get! t).toNat ∧ (x.get! t).toNat ≤ 122) ∧ wi = wr

set_option maxRecDepth 100000 in
set_option maxHeartbeats 16000000 in
theorem OptsBack_law (b : Int) (A : Option Addr) (ca : Nat) (xs : List ByteArray) (w : World) (_h1 : (Lit.int .i64 b).wf = true) (hA : StrsAt w A xs) (_hx : xs.length ≤ 8796093022208) (hz : ∀ x ∈ xs, x.size ≤ 140737488351232) (hca : xs.length ≤ ca)
    (hw : 1 < w.heap.size) (m : Int) (hm : w.cell? ⟨1, 0, none⟩ = some (.int .i64 m)) (hg : w.cell? ⟨0, 0, none⟩ = some ErrT) :
    Calls Tryd.prog 8 #[.int .i64 b, .slice A xs.length ca] w fun e w' => e = .returned (.bool true) ∧ Below w.heap.size w w' := by
  have HAl := Lib.hid (optsAlive w hw m hm hg)
  have HPar := Lib.hid fun (wi : World) (hb : Below w.heap.size w wi) (F : ByteArray) (hF : F.size ≤ 400000) => Parse_any none 0 [] F wi (fun j x hj => by cases hj) (fun g off e => by cases e) (Nat.le_refl _) (by decide) (fun v hv => by cases hv) hF (Nat.lt_of_lt_of_le hw hb.size) m ((hb.cell (p := ⟨1, 0, none⟩) hw).trans hm) ((hb.cell (p := ⟨0, 0, none⟩) (Nat.lt_of_succ_lt hw)).trans hg)
  have HA := Lib.hid fun (wi : World) (hb : Below w.heap.size w wi) => hA.below hb
  have HZ := Lib.hid hz
  obtain ⟨N, hN⟩ : ∃ N, xs.length = N := ⟨_, rfl⟩
  have HN := Lib.hid hN
  rw [hN] at hca ⊢
  clear hm hg hw hA hz hN _h1 _hx
  go_enter Tryd.func8, Tryd.ntmps8
  go_wp2_with fail
  refine HAl.out.mono ?_
  rintro e w0 ⟨rfl, hb0⟩
  have HB0 := Lib.hid hb0
  clear hb0 HAl
  by_cases a1 : b < 0
  · go_wp2
    go_ret
    exact ⟨rfl, HB0.out⟩
  by_cases a2 : 511 < b
  · go_wp2
    go_ret
    exact ⟨rfl, HB0.out⟩
  by_cases a3 : 5 < N
  · have a3' : (5 : Int) < N := by omega
    go_wp2
    go_ret
    exact ⟨rfl, HB0.out⟩
  have a3' : ¬ (5 : Int) < N := by omega
  go_upto_region 14 with fail
  have hr1 := heap_alloc_last w0 (.cells (opRow 1 (bsB b) false (.slice none 0 0) (.slice none 0 0) (.slice none 0 0)) 47)
  have hb1 : Below w0.heap.size w0 (w0.alloc (.cells (opRow 1 (bsB b) false (.slice none 0 0) (.slice none 0 0) (.slice none 0 0)) 47)) := (Below.refl _ w0).alloc (Nat.le_refl _) _
  obtain ⟨w1, hw1⟩ : ∃ w1, w0.alloc (.cells (opRow 1 (bsB b) false (.slice none 0 0) (.slice none 0 0) (.slice none 0 0)) 47) = w1 := ⟨_, rfl⟩
  rw [hw1] at hr1 hb1
  rw [show w0.alloc (.cells #[.int .i64 1, .bool (bits .and .i64 b 1 != 0), .bool (bits .and .i64 b 2 != 0), .bool (bits .and .i64 b 4 != 0), .bool (bits .and .i64 b 8 != 0), .bool (bits .and .i64 b 16 != 0), .bool (bits .and .i64 b 32 != 0), .bool (bits .and .i64 b 64 != 0), .bool (bits .and .i64 b 128 != 0), .bool (bits .and .i64 b 256 != 0), .bool false, .slice none 0 0, .slice none 0 0, .slice none 0 0] 47) = w1 from hw1]
  have HB1 := Lib.hid (HB0.out.trans (hb1.mono HB0.out.size))
  have HOB := Lib.hid (show w.heap.size ≤ w0.heap.size from HB0.out.size)
  obtain ⟨ob, hob⟩ : ∃ ob, w0.heap.size = ob := ⟨_, rfl⟩
  rw [hob] at hr1 HOB ⊢
  have HR1 := Lib.hid hr1
  clear hr1 hb1 hw1 hob HB0
  have HOP : Hid (OpAt w1 ob (fun k => k = ob) ⟨1, bsB b, false, [], [], []⟩) := by
    refine ⟨.slice none 0 0, .slice none 0 0, .slice none 0 0, HR1.out, OwnG.nil _ _ _ _, OwnG.nil _ _ _ _, OwnG.nil _ _ _ _, ?_, ?_, ?_, rfl, ?_, ?_, ?_⟩ <;> (intro k hk; simp [Value.ownBlock] at hk)
  clear HR1
  go_wp2
  go_loopw [7] (fun i wi => Hid (BRel w w1 ob (fun k => k = ob) b xs i wi)) (fun i _ => N - (intOf i).toNat)
  case atStart => exact ⟨0, _, rfl, Nat.zero_le _, HOP.out, Nx.refl _ _, HB1.out, fun x hx => by simp at hx⟩
  case round =>
    obtain ⟨k, S, rfl, hk, hop, hnx, hbw, hall⟩ := hrel.out
    clear hrel
    rw [HN.out] at hk
    have HOPk := Lib.hid hop
    have HNX := Lib.hid hnx
    have HBW := Lib.hid hbw
    have HALL := Lib.hid hall
    clear hop hnx hbw hall HOP
    by_cases hlt : k < N
    · have q1 : (k : Int) < N := by omega
      have wk : IntKind.i64.wrap ((k : Int) + 1) = (k : Int) + 1 := IntWalk.i64_in _ (by omega)
      obtain ⟨x, hx⟩ : ∃ x, xs[k]? = some x := ⟨_, List.getElem?_eq_getElem (by rw [HN.out]; exact hlt)⟩
      obtain ⟨g, off, rfl, hcx⟩ := HA.out wr HBW.out k x hx
      have HXK := Lib.hid hx
      have hzx := HZ.out x (List.mem_of_getElem? hx)
      clear hx
      go_wp2
      go_loopw [8] (fun i wi => Hid (IRel x wr i wi)) (fun i _ => x.size - (intOf i).toNat)
      case atStart => exact ⟨0, rfl, Nat.zero_le _, fun t ht => by omega, rfl⟩
      case round =>
        obtain ⟨j, rfl, hj, hsm, hwr⟩ := hrel.out
        clear hrel
        obtain rfl := hwr.symm
        have HSM := Lib.hid hsm
        clear hsm
        by_cases hlj : j < x.size
        · have q2 : (j : Int) < x.size := by omega
          have wj : IntKind.i64.wrap ((j : Int) + 1) = (j : Int) + 1 := IntWalk.i64_in _ (by omega)
          have hb := bget x j hlj
          obtain ⟨c, hc⟩ : ∃ c, x[j] = c := ⟨_, rfl⟩
          rw [hc] at hb
          have HBC := Lib.hid hb
          clear hb
          by_cases d1 : 97 ≤ c.toNat
          · have d1' : (97 : Int) ≤ c.toNat := by omega
            by_cases d2 : c.toNat ≤ 122
            · have d2' : (c.toNat : Int) ≤ 122 := by omega
              have HX : Hid (IRel x wr (.int .i64 ((j : Int) + 1)) wr) := ⟨j + 1, rfl, hlj, fun t ht => by
                by_cases e : t = j
                · subst e; rw [← HBC.out]; exact ⟨d1, d2⟩
                · exact HSM.out t (by omega), rfl⟩
              go_wp2
              exact ⟨HX, by simp [intOf]; omega⟩
            · have d2' : ¬ (c.toNat : Int) ≤ 122 := by omega
              go_wp2
              go_ret
              exact ⟨rfl, HBW.out⟩
          · have d1' : ¬ (97 : Int) ≤ c.toNat := by omega
            go_wp2
            go_ret
            exact ⟨rfl, HBW.out⟩
        · have q2 : ¬ (j : Int) < x.size := by omega
          have hsx : smB x := fun t ht => HSM.out t (by omega)
          by_cases h50 : 50 < x.size
          · have h50' : (50 : Int) < x.size := by omega
            go_wp2
            go_ret
            exact ⟨rfl, HBW.out⟩
          have h50' : ¬ (50 : Int) < x.size := by omega
          have HSX := Lib.hid hsx
          clear hsx HSM hj
          obtain ⟨V1, hV1⟩ : ∃ V, (⟨#[118]⟩ : ByteArray) ++ x = V := ⟨_, rfl⟩
          obtain ⟨V2, hV2⟩ : ∃ V, V1 ++ (⟨#[61]⟩ : ByteArray) = V := ⟨_, rfl⟩
          obtain ⟨V3, hV3⟩ : ∃ V, V2 ++ x = V := ⟨_, rfl⟩
          have hV : vwB x = V3 := by unfold vwB; rw [hV1, hV2, hV3]
          have k118 : (⟨#[118]⟩ : ByteArray).size = 1 := rfl
          have k61 : (⟨#[61]⟩ : ByteArray).size = 1 := rfl
          have z1 : V1.size ≤ 51 := by rw [← hV1, ByteArray.size_append]; omega
          have z2 : V2.size ≤ 52 := by rw [← hV2, ByteArray.size_append]; omega
          have z3 : V3.size ≤ 102 := by rw [← hV3, ByteArray.size_append]; omega
          have n1 : ¬ 9223372036854775807 < 1 + x.size := by omega
          have n2 : ¬ 9223372036854775807 < V1.size + 1 := by omega
          have n3 : ¬ 9223372036854775807 < V2.size + x.size := by omega
          have hst := take_step HXK.out
          rw [hV] at hst
          have HST := Lib.hid hst
          obtain ⟨y, hy⟩ : ∃ y : Opx, (⟨1, bsB b, false, [], [], (xs.take k).map vwB⟩ : Opx) = y := ⟨_, rfl⟩
          have HOPy := HOPk.out
          rw [hy] at HOPy
          have hyl : y.vs.length = k := by rw [← hy]; show ((xs.take k).map vwB).length = k; rw [List.length_map, List.length_take, HN.out]; omega
          have HY := Lib.hid hy
          obtain ⟨vf, vg, vv, h1, h2, h3, h4, h5, h6, h7, hS, r1, r2, r3⟩ := HOPy
          rw [hyl] at h4
          obtain ⟨Av, cv, rfl, _, _⟩ := h4.form
          obtain ⟨c13, f13⟩ := (rowo h1 (j := 13) (v := .slice Av k cv) rfl)
          have hlt1 := lt_of_block h1
          obtain ⟨i0, hi, hz0, hz1, hz2⟩ := info_parts Tryd.info9
          have H1 := Lib.hid h1
          have H4 := Lib.hid h4
          have HX := Lib.hid fun (w3 : World) (v' : Value) (hg : GrX wr w3 (.slice Av k cv) v') (h8 : OwnG w3 0 9 1 v' (k + 1) (strV y.vs ++ [.string V3])) => op_vs h1 h2 h3 (by rw [hyl]; exact h4) h5 h6 h7 hS r1 r2 r3 V3 hg (by rw [hyl]; exact h8)
          have HHY := Lib.hid hyl
          clear h1 h2 h3 h4 h5 h6 h7 r1 r2 r3 hS hst hy hyl hV HOPk
          go_wp2
          first | (go_region_law (first
            | (refine step_app_o rfl _ _ 27 rfl 0 9 i0 (.string ⟨#[]⟩) 1 16 Tryd.underlying27 hi hz0 hz1 hz2 rfl (.slice Av k cv) k (strV y.vs) rfl (H4.out.move fun k hk => Below.heap_alloc _ _ _ (H4.out.block_lt k hk).2) ⟨_, 0, none⟩ 1 1 [.string V3] rfl rfl (cell_one_new _ _ _) (by simp [Value.oneCell']) (by decide) (by unfold maxLen; omega) (by omega) (Nat.zero_le _) ?_; intro g2 cap w3 hown hgrow hnew hglt; have HG : Hid (GrX wr w3 (.slice Av k cv) (.slice (some ⟨g2, 0, none⟩) (k + 1) cap)) := (by first | exact GrX.ofd hgrow hnew | exact GrX.ofd (k := 1) hgrow hnew); have hc3 := (HG.out.block ob hlt1 (own_ne H4.out H1.out (by decide))).trans H1.out; have hk3 := (rowo hc3 (j := 13) (v := .slice Av k cv) rfl).1; have hf3 := frozen_of_row w3 _ 13 _ _ hc3; have HO := Lib.hid hown; clear hown hgrow hnew hc3)
            | fail)) | fail
          all_goals try go_wp2
          all_goals
            obtain ⟨S2, ho2, hn2⟩ := HX.out w3 _ HG.out HO.out
            have hnn := HNX.out.trans hn2
            refine ⟨⟨k + 1, S2, rfl, by rw [HN.out]; omega, ?_, hnn, ?_, ?_⟩, by simp [intOf]; omega⟩
            · rw [HST.out, ← HY.out] at *
              exact ho2
            · exact HB1.out.trans ((hnn.below (B := w.heap.size) (fun k hk => by rw [hk]; exact HOB.out) HB1.out.size))
            · intro z hz
              obtain ⟨hk2, he⟩ := List.getElem?_eq_some_iff.1 HXK.out
              rw [List.take_succ_eq_append_getElem hk2, List.mem_append, he] at hz
              rcases hz with hz | hz
              · exact HALL.out z hz
              · obtain rfl : z = x := by simpa using hz
                exact ⟨by omega, HSX.out⟩
    · have q1 : ¬ (k : Int) < N := by omega
      obtain rfl : N = k := by omega
      have hvs : (xs.take N).map vwB = xs.map vwB := by rw [List.take_of_length_le (by rw [HN.out]; exact Nat.le_refl _)]
      have hop := HOPk.out
      have hall := HALL.out
      rw [hvs] at hop
      rw [List.take_of_length_le (by rw [HN.out]; exact Nat.le_refl _)] at hall
      have hVW : ∀ v ∈ xs.map vwB, VW v := fun v hv => by
        obtain ⟨x, hx, rfl⟩ := List.mem_map.1 hv
        exact vwB_VW (hall x hx).2
      have hN5 : N ≤ 5 := by omega
      have htot : totL (xs.map vwB) ≤ 20000 := by
        have := totL_vw xs (fun x hx => (hall x hx).1)
        rw [HN.out] at this; omega
      obtain ⟨VS, hVS⟩ : ∃ VS, xs.map vwB = VS := ⟨_, rfl⟩
      have hVl : VS.length = N := by rw [← hVS, List.length_map, HN.out]
      obtain ⟨β, hβ⟩ : ∃ β, bsB b = β := ⟨_, rfl⟩
      rw [hVS] at hop hVW htot
      rw [hβ] at hop
      obtain ⟨F, hF⟩ : ∃ F, mk (flagsL β VS) = F := ⟨_, rfl⟩
      have hFz := flags_size β VS htot
      obtain ⟨x, hx, xj, xb, xn, xf, xg, xv⟩ := parse_back β VS hVW
      rw [hF] at hFz hx
      obtain ⟨vf, vg, vv, h1, h2, h3, h4, _⟩ := hop
      obtain ⟨F1, d1, rfl, _, _⟩ := h2.form
      obtain ⟨F2, d2, rfl, _, _⟩ := h3.form
      obtain ⟨F3, d3, rfl, hd3, _⟩ := h4.form
      have hS3 : StrsAt wr F3 VS := h4.strs
      have hd3' : VS.length ≤ d3 := hd3
      have HFl : Hid (Calls Tryd.prog 27 #[.agg #[.int .i64 1, .bool (β 1), .bool (β 2), .bool (β 3), .bool (β 4), .bool (β 5), .bool (β 6), .bool (β 7), .bool (β 8), .bool (β 9), .bool false, .slice F1 0 d1, .slice F2 0 d2, .slice F3 N d3]] wr fun e w' => e = .returned (.string F) ∧ Below wr.heap.size wr w') := by
        have := Flags_any wr 1 β false (.slice F1 0 d1) (.slice F2 0 d2) F3 d3 VS hS3 hd3' (by omega) (Nat.le_trans (join_size VS) (by omega))
        rw [hVl, hF] at this
        exact this
      have HFr : Hid (∀ wi, Below wr.heap.size wr wi → Calls Tryd.prog 31 #[.agg #[.int .i64 1, .bool (β 1), .bool (β 2), .bool (β 3), .bool (β 4), .bool (β 5), .bool (β 6), .bool (β 7), .bool (β 8), .bool (β 9), .bool false, .slice F1 0 d1, .slice F2 0 d2, .slice F3 N d3]] wi fun e w' => e = .returned (.string F) ∧ Below wi.heap.size wi w') := fun wi hb => by
        have := FlagsR_any wi 1 β false (.slice F1 0 d1) (.slice F2 0 d2) F3 d3 VS (hS3.below hb) hd3' (by omega) htot
        rw [hVl, hF] at this
        exact this
      have HSm : Hid (∀ wi, Below wr.heap.size wr wi → ∀ (P1 P2 P3 : Option Addr) (e1 e2 e3 : Nat), StrsAt wi P3 VS → Calls Tryd.prog 30 #[.agg #[.int .i64 1, .bool (β 1), .bool (β 2), .bool (β 3), .bool (β 4), .bool (β 5), .bool (β 6), .bool (β 7), .bool (β 8), .bool (β 9), .bool false, .slice F1 0 d1, .slice F2 0 d2, .slice F3 N d3], .agg #[.int .i64 1, .bool (β 1), .bool (β 2), .bool (β 3), .bool (β 4), .bool (β 5), .bool (β 6), .bool (β 7), .bool (β 8), .bool (β 9), .bool false, .slice P1 0 e1, .slice P2 0 e2, .slice P3 N e3]] wi fun e w' => e = .returned (.bool true) ∧ Below wi.heap.size wi w') := fun wi hb P1 P2 P3 e1 e2 e3 hP => by
        have := SameO_any wi 1 β β false F1 F2 F3 P1 P2 P3 d1 d2 d3 e1 e2 e3 [] [] VS (fun _ _ _ => rfl) (fun j x hj => by cases hj) (fun j x hj => by cases hj) (fun j x hj => by cases hj) (fun j x hj => by cases hj) (hS3.below hb) hP (by decide) (by decide) (by omega)
        rw [hVl] at this
        exact this
      have HPr : Hid (∀ wi, Below w.heap.size w wi → Calls Tryd.prog 28 #[.slice none 0 0, .string F] wi fun e w' => Below wi.heap.size wi w' ∧ ∃ (P1 P2 P3 : Option Addr) (e1 e2 e3 : Nat), e = .returned (.tuple #[.agg #[.int .i64 1, .bool (β 1), .bool (β 2), .bool (β 3), .bool (β 4), .bool (β 5), .bool (β 6), .bool (β 7), .bool (β 8), .bool (β 9), .bool false, .slice P1 0 e1, .slice P2 0 e2, .slice P3 N e3], .int .i64 0]) ∧ StrsAt w' P3 VS) := fun wi hb => by
        have := HPar.out wi hb F hFz
        rw [hx] at this
        refine this.mono fun e w' hh => ⟨hh.1, ?_⟩
        obtain ⟨v, he, pf, pg, pv, hv, of, og, ov⟩ := hh.2
        rw [xf] at of
        rw [xg] at og
        rw [xv] at ov
        obtain ⟨P1, e1, rfl, _, _⟩ := of.form
        obtain ⟨P2, e2, rfl, _, _⟩ := og.form
        obtain ⟨P3, e3, rfl, _, _⟩ := ov.form
        refine ⟨P1, P2, P3, e1, e2, e3, ?_, ov.strs⟩
        rw [he, hv, xj, xn, opRow_same 1 x.bs β false _ _ _ xb, hVl]
        rfl
      rw [hVl] at h1
      have h1' : wr.heap[ob]? = some (.cells #[.int .i64 1, .bool (β 1), .bool (β 2), .bool (β 3), .bool (β 4), .bool (β 5), .bool (β 6), .bool (β 7), .bool (β 8), .bool (β 9), .bool false, .slice F1 0 d1, .slice F2 0 d2, .slice F3 N d3] 47 (0, 0)) := h1
      have o0 := (rowo h1' (j := 0) (v := .int .i64 1) rfl).1
      have o1 := (rowo h1' (j := 1) (v := .bool (β 1)) rfl).1
      have o2 := (rowo h1' (j := 2) (v := .bool (β 2)) rfl).1
      have o3 := (rowo h1' (j := 3) (v := .bool (β 3)) rfl).1
      have o4 := (rowo h1' (j := 4) (v := .bool (β 4)) rfl).1
      have o5 := (rowo h1' (j := 5) (v := .bool (β 5)) rfl).1
      have o6 := (rowo h1' (j := 6) (v := .bool (β 6)) rfl).1
      have o7 := (rowo h1' (j := 7) (v := .bool (β 7)) rfl).1
      have o8 := (rowo h1' (j := 8) (v := .bool (β 8)) rfl).1
      have o9 := (rowo h1' (j := 9) (v := .bool (β 9)) rfl).1
      have o10 := (rowo h1' (j := 10) (v := .bool false) rfl).1
      have o11 := (rowo h1' (j := 11) (v := .slice F1 0 d1) rfl).1
      have o12 := (rowo h1' (j := 12) (v := .slice F2 0 d2) rfl).1
      have o13 := (rowo h1' (j := 13) (v := .slice F3 N d3) rfl).1
      have hff : (F.toList == F.toList) = true := beq_self_eq_true _
      have H1 := Lib.hid h1'
      have HBW2 := HBW
      clear h1 h1' h2 h3 h4 hd3 hd3' hS3 hVW htot hVS hVl hβ hF hFz hx xj xb xn xf xg xv hvs hall HOPk HALL HA HZ HNX
      go_wp2_with fail
      refine HFl.out.mono ?_
      rintro e w2 ⟨rfl, hb2⟩
      have HB2 := Lib.hid hb2
      have HW2 := Lib.hid (HBW2.out.trans (hb2.mono HBW2.out.size))
      clear hb2 HFl o0 o1 o2 o3 o4 o5 o6 o7 o8 o9 o10 o11 o12 o13
      go_wp2_with fail
      refine (HPr.out w2 HW2.out).mono ?_
      rintro e w3 ⟨hb3, P1, P2, P3, e1, e2, e3, rfl, hp3⟩
      have HB3 := Lib.hid (HB2.out.trans (hb3.mono HB2.out.size))
      have HW3 := Lib.hid (HW2.out.trans (hb3.mono HW2.out.size))
      have HP3 := Lib.hid hp3
      clear hb3 hp3 HPr
      go_upto_region 28 with fail
      have hb4 : Below w3.heap.size w3 (w3.alloc (.cells #[.int .i64 1, .bool (β 1), .bool (β 2), .bool (β 3), .bool (β 4), .bool (β 5), .bool (β 6), .bool (β 7), .bool (β 8), .bool (β 9), .bool false, .slice P1 0 e1, .slice P2 0 e2, .slice P3 N e3] 47)) := (Below.refl _ w3).alloc (Nat.le_refl _) _
      have hr4 := heap_alloc_last w3 (.cells #[.int .i64 1, .bool (β 1), .bool (β 2), .bool (β 3), .bool (β 4), .bool (β 5), .bool (β 6), .bool (β 7), .bool (β 8), .bool (β 9), .bool false, .slice P1 0 e1, .slice P2 0 e2, .slice P3 N e3] 47)
      obtain ⟨w4, hw4⟩ : ∃ w4, w3.alloc (.cells #[.int .i64 1, .bool (β 1), .bool (β 2), .bool (β 3), .bool (β 4), .bool (β 5), .bool (β 6), .bool (β 7), .bool (β 8), .bool (β 9), .bool false, .slice P1 0 e1, .slice P2 0 e2, .slice P3 N e3] 47) = w4 := ⟨_, rfl⟩
      rw [hw4] at hb4 hr4 ⊢
      obtain ⟨bp, hbp⟩ : ∃ x, w3.heap.size = x := ⟨_, rfl⟩
      rw [hbp] at hr4 ⊢
      have HB4 := Lib.hid (HB3.out.trans (hb4.mono HB3.out.size))
      have HW4 := Lib.hid (HW3.out.trans (hb4.mono HW3.out.size))
      have h14 := (HB4.out.block _ (lt_of_block H1.out)).trans H1.out
      have o0 := (rowo h14 (j := 0) (v := .int .i64 1) rfl).1
      have p0 := (rowo hr4 (j := 0) (v := .int .i64 1) rfl).1
      have o1 := (rowo h14 (j := 1) (v := .bool (β 1)) rfl).1
      have p1 := (rowo hr4 (j := 1) (v := .bool (β 1)) rfl).1
      have o2 := (rowo h14 (j := 2) (v := .bool (β 2)) rfl).1
      have p2 := (rowo hr4 (j := 2) (v := .bool (β 2)) rfl).1
      have o3 := (rowo h14 (j := 3) (v := .bool (β 3)) rfl).1
      have p3 := (rowo hr4 (j := 3) (v := .bool (β 3)) rfl).1
      have o4 := (rowo h14 (j := 4) (v := .bool (β 4)) rfl).1
      have p4 := (rowo hr4 (j := 4) (v := .bool (β 4)) rfl).1
      have o5 := (rowo h14 (j := 5) (v := .bool (β 5)) rfl).1
      have p5 := (rowo hr4 (j := 5) (v := .bool (β 5)) rfl).1
      have o6 := (rowo h14 (j := 6) (v := .bool (β 6)) rfl).1
      have p6 := (rowo hr4 (j := 6) (v := .bool (β 6)) rfl).1
      have o7 := (rowo h14 (j := 7) (v := .bool (β 7)) rfl).1
      have p7 := (rowo hr4 (j := 7) (v := .bool (β 7)) rfl).1
      have o8 := (rowo h14 (j := 8) (v := .bool (β 8)) rfl).1
      have p8 := (rowo hr4 (j := 8) (v := .bool (β 8)) rfl).1
      have o9 := (rowo h14 (j := 9) (v := .bool (β 9)) rfl).1
      have p9 := (rowo hr4 (j := 9) (v := .bool (β 9)) rfl).1
      have o10 := (rowo h14 (j := 10) (v := .bool false) rfl).1
      have p10 := (rowo hr4 (j := 10) (v := .bool false) rfl).1
      have o11 := (rowo h14 (j := 11) (v := .slice F1 0 d1) rfl).1
      have p11 := (rowo hr4 (j := 11) (v := .slice P1 0 e1) rfl).1
      have o12 := (rowo h14 (j := 12) (v := .slice F2 0 d2) rfl).1
      have p12 := (rowo hr4 (j := 12) (v := .slice P2 0 e2) rfl).1
      have o13 := (rowo h14 (j := 13) (v := .slice F3 N d3) rfl).1
      have p13 := (rowo hr4 (j := 13) (v := .slice P3 N e3) rfl).1
      have HSx := Lib.hid (HSm.out w4 HB4.out P1 P2 P3 e1 e2 e3 (HP3.out.below hb4))
      clear hb4 hw4 hbp hr4 h14 HSm HP3
      go_wp2_with fail
      refine (numO_any 0 _).mono ?_
      rintro e w' ⟨rfl, hw'⟩
      obtain rfl := hw'.symm
      go_wp2_with fail
      refine HSx.out.mono ?_
      rintro e w5 ⟨rfl, hb5⟩
      have HB5 := Lib.hid (HB4.out.trans (hb5.mono HB4.out.size))
      have HW5 := Lib.hid (HW4.out.trans (hb5.mono HW4.out.size))
      have h15 := (HB5.out.block _ (lt_of_block H1.out)).trans H1.out
      have s0 := (rowo h15 (j := 0) (v := .int .i64 1) rfl).1
      have s1 := (rowo h15 (j := 1) (v := .bool (β 1)) rfl).1
      have s2 := (rowo h15 (j := 2) (v := .bool (β 2)) rfl).1
      have s3 := (rowo h15 (j := 3) (v := .bool (β 3)) rfl).1
      have s4 := (rowo h15 (j := 4) (v := .bool (β 4)) rfl).1
      have s5 := (rowo h15 (j := 5) (v := .bool (β 5)) rfl).1
      have s6 := (rowo h15 (j := 6) (v := .bool (β 6)) rfl).1
      have s7 := (rowo h15 (j := 7) (v := .bool (β 7)) rfl).1
      have s8 := (rowo h15 (j := 8) (v := .bool (β 8)) rfl).1
      have s9 := (rowo h15 (j := 9) (v := .bool (β 9)) rfl).1
      have s10 := (rowo h15 (j := 10) (v := .bool false) rfl).1
      have s11 := (rowo h15 (j := 11) (v := .slice F1 0 d1) rfl).1
      have s12 := (rowo h15 (j := 12) (v := .slice F2 0 d2) rfl).1
      have s13 := (rowo h15 (j := 13) (v := .slice F3 N d3) rfl).1
      clear hb5 HSx h15 o0 p0 o1 p1 o2 p2 o3 p3 o4 p4 o5 p5 o6 p6 o7 p7 o8 p8 o9 p9 o10 p10 o11 p11 o12 p12 o13 p13
      go_wp2_with fail
      refine (HFr.out w5 HB5.out).mono ?_
      rintro e w6 ⟨rfl, hb6⟩
      go_wp2
      go_ret
      exact ⟨rfl, HW5.out.trans (hb6.mono HW5.out.size)⟩
end Go.Proofs.YtmcemaphhlcjfaaDoor
