/- What is told of an assignment whose name and value are plain, alone and behind targets, in plain words; no condition. -/
import Derived.Test.YtmcemaphhlcjfaaDoorTakeP
namespace Go.Proofs.YtmcemaphhlcjfaaDoor
open Go.RowKit

theorem mk_get (A B : List UInt8) (c : UInt8) : (mk (A ++ c :: B)).get! A.length = c := by
  have h : A.length < (mk (A ++ c :: B)).size := by rw [mk_size]; simp
  rw [← bget _ _ h, ← get_list' _ _ h]
  simp [mk]
theorem mk_get_in (L : List UInt8) (k : Nat) (h : k < L.length) : (mk L).get! k = L[k] := by
  rw [← bget _ _ (by rw [mk_size]; exact h), ← get_list' _ _ (by rw [mk_size]; exact h)]
  simp [mk]
theorem mk_drop (A R : List UInt8) (n : Nat) : (mk (A ++ R)).extract (A.length + n) (mk (A ++ R)).size = mk (R.drop n) := by
  apply ba_ext
  rw [extract_list]
  show ((A ++ R).take (mk (A ++ R)).size).drop (A.length + n) = R.drop n
  rw [mk_size, List.take_length, ← List.drop_drop, List.drop_left]
theorem mk_take (A R : List UInt8) : (mk (A ++ R)).extract 0 A.length = mk A := by
  apply ba_ext
  rw [extract_list]
  show ((A ++ R).take A.length).drop 0 = A
  rw [List.take_left]; rfl
theorem mk_bgn (A R : List UInt8) (t : ByteArray) : bgn (mk (A ++ R)) A.length t = Lib.hasPrefix R t.data.toList := by
  unfold bgn
  show Lib.hasPrefix ((A ++ R).drop A.length) _ = _
  rw [List.drop_left]

/-- a byte that a scan for these stops goes over -/
def Over (t : ByteArray) (c : UInt8) : Prop := c ≠ 36 ∧ ¬ 0 ≤ Lib.indexByte t.data.toList c
theorem scan_mk (t : ByteArray) (A : List UInt8) (c : UInt8) (B : List UInt8) (hA : ∀ x ∈ A, Over t x) (hc : c ≠ 36) (hs : 0 ≤ Lib.indexByte t.data.toList c) : scanI (mk (A ++ c :: B)) t = A.length := by
  have key : ∀ (A2 A1 : List UInt8) (f : Nat), (∀ x ∈ A2, Over t x) → scanF (mk (A1 ++ (A2 ++ c :: B))) t (A2.length + 1 + f) A1.length = A1.length + A2.length := by
    intro A2
    induction A2 with
    | nil =>
      intro A1 f _
      have hl : A1.length < (mk (A1 ++ ([] ++ c :: B))).size := by rw [mk_size]; simp
      rw [show ([] : List UInt8).length + 1 + f = f + 1 by simp; omega, scanF, if_pos hl]
      have e : (mk (A1 ++ ([] ++ c :: B))).get! A1.length = c := mk_get _ _ _
      rw [e, if_neg hc, if_pos hs]; simp
    | cons y A2 ih =>
      intro A1 f h
      have hl : A1.length < (mk (A1 ++ (y :: A2 ++ c :: B))).size := by rw [mk_size]; simp
      rw [show (y :: A2).length + 1 + f = (A2.length + 1 + f) + 1 by simp; omega, scanF, if_pos hl]
      have e : (mk (A1 ++ (y :: A2 ++ c :: B))).get! A1.length = y := mk_get _ _ _
      have hy := h y (by simp)
      rw [e, if_neg hy.1, if_neg hy.2]
      have := ih (A1 ++ [y]) f (fun x hx => h x (by simp [hx]))
      simp only [List.append_assoc, List.length_append, List.length_singleton, List.singleton_append] at this
      have e2 : A1 ++ (y :: A2 ++ c :: B) = A1 ++ y :: (A2 ++ c :: B) := by simp
      rw [e2, this]; simp; omega
  have h := key A [] (B.length + 1) hA
  rw [List.nil_append] at h
  unfold scanI
  have e : (mk (A ++ c :: B)).size + 1 = A.length + 1 + (B.length + 1) := by rw [mk_size]; simp; omega
  rw [e]
  simpa using h

theorem trimB_mk (X N Y : List UInt8) (hX : ∀ c ∈ X, isB c = true) (hY : ∀ c ∈ Y, isB c = true) (hN : N ≠ []) (h1 : ∀ (h : 0 < N.length), isB N[0] = false) (h2 : ∀ (h : N.length - 1 < N.length), isB (N[N.length - 1]) = false) : trimB (mk (X ++ (N ++ Y))) = mk N := by
  have hp : 0 < N.length := List.length_pos_iff.2 hN
  have hl : (mk (X ++ (N ++ Y))).size = X.length + (N.length + Y.length) := by rw [mk_size]; simp
  have H : TrimAt (mk (X ++ (N ++ Y))) X.length (X.length + N.length) := by
    refine ⟨by omega, by omega, fun j hj => ?_, fun _ => ?_, fun j a b => ?_, fun _ => ?_⟩
    · rw [mk_get_in _ _ (by simp; omega), List.getElem_append_left hj]; exact hX _ (List.getElem_mem _)
    · rw [mk_get_in _ _ (by simp; omega), List.getElem_append_right (Nat.le_refl _), List.getElem_append_left (by omega)]
      simpa using h1 hp
    · rw [mk_get_in _ _ (by rw [← mk_size]; exact b), List.getElem_append_right (by omega), List.getElem_append_right (by omega)]; exact hY _ (List.getElem_mem _)
    · rw [mk_get_in _ _ (by simp; omega), List.getElem_append_right (by omega), List.getElem_append_left (by omega)]
      have e : X.length + N.length - 1 - X.length = N.length - 1 := by omega
      simp only [e]
      exact h2 (by omega)
  rw [← H.is]
  apply ba_ext
  rw [extract_list]
  show ((X ++ (N ++ Y)).take (X.length + N.length)).drop X.length = N
  rw [List.take_length_add_append, List.take_left, List.drop_left]

/-- a name of an assignment -/
structure Nm (N : List UInt8) : Prop where
  ne : N ≠ []
  plain : ∀ c ∈ N, c ≠ 36 ∧ c ≠ 61 ∧ c ≠ 59 ∧ c ≠ 58 ∧ c ≠ 43 ∧ c ≠ 63 ∧ c ≠ 33 ∧ c ≠ 32 ∧ c ≠ 9 ∧ c ≠ 10
/-- a value that does not begin with a blank -/
def Vl (V : List UInt8) : Prop := V = [] ∨ ∃ c V', V = c :: V' ∧ bl c = false
theorem Nm.blank {N : List UInt8} (h : Nm N) (c : UInt8) (hc : c ∈ N) : isB c = false := by
  obtain ⟨_, _, _, _, _, _, _, a, b, d⟩ := h.plain c hc
  simp [isB, a, b, d]
theorem bl32 (X : List UInt8) (hX : X = [] ∨ X = [32]) (c : UInt8) (hc : c ∈ X) : isB c = true := by
  rcases hX with rfl | rfl
  · cases hc
  · have : c = 32 := by simpa using hc
    subst this; rfl
theorem trim_name {N X Y : List UInt8} (h : Nm N) (hX : X = [] ∨ X = [32]) (hY : Y = [] ∨ Y = [32]) : trimB (mk (X ++ (N ++ Y))) = mk N :=
  trimB_mk X N Y (bl32 X hX) (bl32 Y hY) h.ne (fun _ => h.blank _ (List.getElem_mem _)) (fun _ => h.blank _ (List.getElem_mem _))
theorem lft_value {V X : List UInt8} (h : Vl V) (hX : ∀ c ∈ X, bl c = true) : lftB (mk (X ++ V)) = mk V := by
  show mk (trL (X ++ V)) = mk V
  congr 1
  induction X with
  | nil =>
    rcases h with rfl | ⟨c, V', rfl, hc⟩
    · rfl
    · show trL (c :: V') = _
      rw [trL_cons, hc]; rfl
  | cons x X ih =>
    show trL (x :: (X ++ V)) = V
    rw [trL_cons, if_pos (hX x (by simp))]
    exact ih fun c hc => hX c (by simp [hc])
theorem asg_plain {N X Y V Z : List UInt8} (h : Nm N) (hX : X = [] ∨ X = [32]) (hY : Y = [] ∨ Y = [32]) (hV : Vl V) (hZ : ∀ c ∈ Z, bl c = true) (s : Int) :
    asgP (mk (X ++ (N ++ Y))) (mk (Z ++ V)) s = ⟨1, mk N, mk V, bE, bE, if s = 0 then 1 else s, false, false⟩ := by
  unfold asgP
  rw [trim_name h hX hY, lft_value hV hZ]
  have hp : 0 < N.length := List.length_pos_iff.2 h.ne
  have hk : asgK (mk N) = (1, mk N) := by
    unfold asgK
    rw [mk_size, mk_get_in N (N.length - 1) (by omega)]
    obtain ⟨_, _, _, _, a, b, c, _⟩ := h.plain _ (List.getElem_mem (show N.length - 1 < N.length by omega))
    rw [if_neg (by omega), if_neg a, if_neg b, if_neg c]
  split
  · rename_i hs
    rw [hk]
  · rfl
theorem asg_mark {N X Y V Z : List UInt8} (m : UInt8) (k : Int) (hm : m = 43 ∧ k = 4 ∨ m = 63 ∧ k = 3 ∨ m = 33 ∧ k = 5) (h : Nm N) (hX : X = [] ∨ X = [32]) (hY : Y = [] ∨ Y = [32]) (hV : Vl V) (hZ : ∀ c ∈ Z, bl c = true) :
    asgP (mk (X ++ (N ++ (Y ++ [m])))) (mk (Z ++ V)) 0 = ⟨1, mk N, mk V, bE, bE, k, false, false⟩ := by
  have hp : 0 < N.length := List.length_pos_iff.2 h.ne
  have e1 : trimB (mk (X ++ (N ++ (Y ++ [m])))) = mk (N ++ Y ++ [m]) := by
    have := trimB_mk X (N ++ Y ++ [m]) [] (bl32 X hX) (fun c hc => by cases hc) (by simp) (fun _ => by
      rw [List.getElem_append_left (by simp; omega), List.getElem_append_left hp]; exact h.blank _ (List.getElem_mem _)) (fun _ => by
      have e : (N ++ Y ++ [m]).length - 1 = (N ++ Y).length := by simp
      simp only [e, List.getElem_concat_length]
      rcases hm with ⟨rfl, _⟩ | ⟨rfl, _⟩ | ⟨rfl, _⟩ <;> rfl)
    rw [List.append_nil] at this
    rw [← this]; simp
  have hk : asgK (mk (N ++ Y ++ [m])) = (k, mk N) := by
    have e2 : (mk (N ++ Y ++ [m])).size - 1 = (N ++ Y).length := by rw [mk_size]; simp
    have e3 : (mk (N ++ Y ++ [m])).get! ((mk (N ++ Y ++ [m])).size - 1) = m := by rw [e2]; exact mk_get _ _ _
    have e4 : (mk (N ++ Y ++ [m])).extract 0 ((mk (N ++ Y ++ [m])).size - 1) = mk (N ++ Y) := by rw [e2]; exact mk_take _ _
    have e5 : trimB (mk (N ++ Y)) = mk N := by have := trim_name h (X := []) (.inl rfl) hY; simpa using this
    unfold asgK
    rw [e3, e4, e5, if_neg (by rw [mk_size]; simp)]
    rcases hm with ⟨rfl, rfl⟩ | ⟨rfl, rfl⟩ | ⟨rfl, rfl⟩ <;> rfl
  unfold asgP
  rw [if_pos rfl, e1, hk, lft_value hV hZ]

/-- the operator's stop and what it stands for -/
def OpS (O : List UInt8) (s : Int) : Prop := O = [61] ∧ s = 0 ∨ O = [58, 61] ∧ s = 2 ∨ O = [58, 58, 61] ∧ s = 2
theorem asgAt_mk (A R : List UInt8) {O : List UInt8} {s : Int} (h : OpS O s) : asgAt (mk (A ++ (O ++ R))) A.length = asgP (mk A) (mk R) s ∧ setsB (mk (A ++ (O ++ R))) A.length = true := by
  rcases h with ⟨rfl, rfl⟩ | ⟨rfl, rfl⟩ | ⟨rfl, rfl⟩
  · constructor
    · have e : (mk (A ++ ([61] ++ R))).get! A.length = 61 := mk_get _ _ _
      unfold asgAt
      rw [e, if_neg (by decide), mk_take, mk_drop]; rfl
    · have e : (mk (A ++ ([61] ++ R))).get! A.length = 61 := mk_get _ _ _
      unfold setsB; rw [e]; rfl
  · have e : (mk (A ++ ([58, 61] ++ R))).get! A.length = 58 := mk_get _ _ _
    constructor
    · unfold asgAt
      rw [e, if_pos rfl, mk_take, mk_bgn]
      have e2 : Lib.hasPrefix ([58, 61] ++ R) bCCE.data.toList = false := by
        show Lib.hasPrefix (58 :: 61 :: R) [58, 58, 61] = false
        simp [Lib.hasPrefix, List.isPrefixOf]
      rw [e2, mk_drop]; rfl
    · have e2 : Lib.hasPrefix ([58, 61] ++ R) bCE.data.toList = true := by
        show Lib.hasPrefix (58 :: 61 :: R) [58, 61] = true
        simp [Lib.hasPrefix, List.isPrefixOf]
      unfold setsB; rw [mk_bgn, mk_bgn, e2]; simp
  · have e : (mk (A ++ ([58, 58, 61] ++ R))).get! A.length = 58 := mk_get _ _ _
    have e2 : Lib.hasPrefix ([58, 58, 61] ++ R) bCCE.data.toList = true := by
      show Lib.hasPrefix (58 :: 58 :: 61 :: R) [58, 58, 61] = true
      simp [Lib.hasPrefix, List.isPrefixOf]
    constructor
    · unfold asgAt
      rw [e, if_pos rfl, mk_take, mk_bgn, e2, mk_drop]; rfl
    · unfold setsB; rw [mk_bgn, mk_bgn, e2]; simp
theorem OpS.cons {O : List UInt8} {s : Int} (h : OpS O s) : ∃ c O', O = c :: O' ∧ (c = 61 ∨ c = 58) := by
  rcases h with ⟨rfl, _⟩ | ⟨rfl, _⟩ | ⟨rfl, _⟩ <;> exact ⟨_, _, rfl, by simp⟩
theorem tk_asg (A R : List UInt8) {O : List UInt8} {s : Int} (h : OpS O s) (hA : ∀ x ∈ A, Over bEC x) : takeP (mk (A ++ (O ++ R))) = asgP (mk A) (mk R) s := by
  obtain ⟨h1, h2⟩ := asgAt_mk A R h
  obtain ⟨c, O', rfl, hc⟩ := h.cons
  have hs : scanI (mk (A ++ (c :: O' ++ R))) bEC = A.length := scan_mk bEC A c (O' ++ R) hA (by rcases hc with rfl | rfl <;> decide) ((ib_ec c).2 hc)
  unfold takeP
  rw [hs, if_neg (by omega), Int.toNat_natCast, if_pos h2, h1]
theorem tk_tgt (A B R : List UInt8) {O : List UInt8} {s : Int} (h : OpS O s) (hA : ∀ x ∈ A, Over bEC x) (hB : ∀ x ∈ B, Over bECS x) :
    takeP (mk (A ++ (58 :: 32 :: (B ++ (O ++ R))))) = ⟨3, mk A, (asgP (mk (32 :: B)) (mk R) s).r, (asgP (mk (32 :: B)) (mk R) s).l, bE, (asgP (mk (32 :: B)) (mk R) s).set, false, false⟩ := by
  obtain ⟨h1, h2⟩ := asgAt_mk (32 :: B) R h
  obtain ⟨c, O', rfl, hc⟩ := h.cons
  have hs : scanI (mk (A ++ (58 :: 32 :: (B ++ (c :: O' ++ R))))) bEC = A.length := scan_mk bEC A 58 _ hA (by decide) ((ib_ec 58).2 (.inr rfl))
  have hg : (mk (A ++ (58 :: 32 :: (B ++ (c :: O' ++ R))))).get! A.length = 58 := mk_get _ _ _
  have hn : setsB (mk (A ++ (58 :: 32 :: (B ++ (c :: O' ++ R))))) A.length = false := by
    unfold setsB
    rw [hg, mk_bgn, mk_bgn]
    simp [Lib.hasPrefix, List.isPrefixOf, bCE, bCCE]
  have hr : (mk (A ++ (58 :: 32 :: (B ++ (c :: O' ++ R))))).extract (A.length + 1) (mk (A ++ (58 :: 32 :: (B ++ (c :: O' ++ R))))).size = mk ((32 :: B) ++ (c :: O' ++ R)) := by rw [mk_drop]; rfl
  have hd : dblB (mk ((32 :: B) ++ (c :: O' ++ R))) = false := by
    unfold dblB
    show Lib.hasPrefix (32 :: (B ++ (c :: O' ++ R))) [58] = false
    simp [Lib.hasPrefix, List.isPrefixOf]
  have hs2 : scanI (mk ((32 :: B) ++ (c :: O' ++ R))) bECS = ((32 :: B).length : Nat) :=
    scan_mk bECS (32 :: B) c (O' ++ R) (fun x hx => by
      rcases List.mem_cons.1 hx with rfl | hx
      · exact ⟨by decide, by decide⟩
      · exact hB x hx) (by rcases hc with rfl | rfl <;> decide) ((ib_ecs c).2 (by rcases hc with h | h <;> simp [h]))
  have hg2 : (mk ((32 :: B) ++ (c :: O' ++ R))).get! (32 :: B).length = c := mk_get _ _ _
  have ho : ownB (mk ((32 :: B) ++ (c :: O' ++ R))) = true := by
    unfold ownB
    rw [hs2, Int.toNat_natCast, h2, hg2]
    rcases hc with rfl | rfl <;> simp <;> omega
  unfold takeP
  rw [hs, if_neg (by omega), Int.toNat_natCast, hn, if_neg (by decide), mk_take, hr]
  unfold restP
  have hcut : cutC (mk ((32 :: B) ++ (c :: O' ++ R))) = mk ((32 :: B) ++ (c :: O' ++ R)) := by unfold cutC; rw [hd]; rfl
  rw [hcut, ho, if_pos rfl, hs2, Int.toNat_natCast, hd, h1]

theorem Nm.over {N : List UInt8} (h : Nm N) : ∀ x ∈ N, Over bECS x := fun x hx => by
  obtain ⟨a, b, c, d, _⟩ := h.plain x hx
  exact ⟨a, by rw [ib_ecs]; simp [b, c, d]⟩
theorem over_ec {x : UInt8} (h : Over bECS x) : Over bEC x := ⟨h.1, fun k => h.2 ((ib_ecs x).2 (((ib_ec x).1 k).elim .inl fun h => .inr (.inl h)))⟩
theorem over_app {A B : List UInt8} {t : ByteArray} (h : ∀ x ∈ A, Over t x) (k : ∀ x ∈ B, Over t x) : ∀ x ∈ A ++ B, Over t x := fun x hx => (List.mem_append.1 hx).elim (h x) (k x)
theorem over_32 {X : List UInt8} (hX : X = [] ∨ X = [32]) : ∀ x ∈ X, Over bECS x := fun x hx => by
  rcases hX with rfl | rfl
  · cases hx
  · have : x = 32 := by simpa using hx
    subst this; exact ⟨by decide, by decide⟩

/-- the operators, and what they tell -/
def OpA (O : List UInt8) (k : Int) : Prop := O = [61] ∧ k = 1 ∨ O = [58, 61] ∧ k = 2 ∨ O = [58, 58, 61] ∧ k = 2 ∨ O = [63, 61] ∧ k = 3 ∨ O = [43, 61] ∧ k = 4 ∨ O = [33, 61] ∧ k = 5
theorem tk_sets {N Y V Z O : List UInt8} {k : Int} (h : Nm N) (ho : OpA O k) (hY : Y = [] ∨ Y = [32]) (hV : Vl V) (hZ : ∀ c ∈ Z, bl c = true) :
    takeP (mk (N ++ (Y ++ (O ++ (Z ++ V))))) = ⟨1, mk N, mk V, bE, bE, k, false, false⟩ := by
  have hNY : ∀ x ∈ N ++ Y, Over bEC x := fun x hx => over_ec (over_app h.over (over_32 hY) x hx)
  have pl : ∀ O s, OpS O s → takeP (mk (N ++ (Y ++ (O ++ (Z ++ V))))) = ⟨1, mk N, mk V, bE, bE, if s = 0 then 1 else s, false, false⟩ := fun O s ho => by
    have := tk_asg (N ++ Y) (Z ++ V) ho hNY
    rw [List.append_assoc] at this
    rw [this]
    exact asg_plain h (X := []) (.inl rfl) hY hV hZ s
  have mkd : ∀ (m : UInt8) (k : Int), (m = 43 ∧ k = 4 ∨ m = 63 ∧ k = 3 ∨ m = 33 ∧ k = 5) → takeP (mk (N ++ (Y ++ ([m, 61] ++ (Z ++ V))))) = ⟨1, mk N, mk V, bE, bE, k, false, false⟩ := fun m k hm => by
    have := tk_asg (N ++ (Y ++ [m])) (Z ++ V) (O := [61]) (s := 0) (.inl ⟨rfl, rfl⟩) (by
      rw [← List.append_assoc]
      refine over_app hNY fun x hx => ?_
      have : x = m := by simpa using hx
      subst this
      rcases hm with ⟨rfl, _⟩ | ⟨rfl, _⟩ | ⟨rfl, _⟩ <;> exact ⟨by decide, by decide⟩)
    have e : N ++ (Y ++ [m]) ++ ([61] ++ (Z ++ V)) = N ++ (Y ++ ([m, 61] ++ (Z ++ V))) := by simp
    rw [e] at this
    rw [this]
    exact asg_mark m k hm h (X := []) (.inl rfl) hY hV hZ
  rcases ho with ⟨rfl, rfl⟩ | ⟨rfl, rfl⟩ | ⟨rfl, rfl⟩ | ⟨rfl, rfl⟩ | ⟨rfl, rfl⟩ | ⟨rfl, rfl⟩
  · exact pl _ 0 (.inl ⟨rfl, rfl⟩)
  · exact pl _ 2 (.inr (.inl ⟨rfl, rfl⟩))
  · exact pl _ 2 (.inr (.inr ⟨rfl, rfl⟩))
  · exact mkd 63 3 (.inr (.inl ⟨rfl, rfl⟩))
  · exact mkd 43 4 (.inl ⟨rfl, rfl⟩)
  · exact mkd 33 5 (.inr (.inr ⟨rfl, rfl⟩))
theorem tk_sets3 {N Y V Z O A : List UInt8} {k : Int} (h : Nm N) (ho : OpA O k) (hY : Y = [] ∨ Y = [32]) (hV : Vl V) (hZ : ∀ c ∈ Z, bl c = true) (hA : ∀ x ∈ A, Over bEC x) :
    takeP (mk (A ++ (58 :: 32 :: (N ++ (Y ++ (O ++ (Z ++ V))))))) = ⟨3, mk A, mk V, mk N, bE, k, false, false⟩ := by
  have hNY : ∀ x ∈ N ++ Y, Over bECS x := over_app h.over (over_32 hY)
  have pl : ∀ O s, OpS O s → takeP (mk (A ++ (58 :: 32 :: (N ++ (Y ++ (O ++ (Z ++ V))))))) = ⟨3, mk A, mk V, mk N, bE, if s = 0 then 1 else s, false, false⟩ := fun O s ho => by
    have := tk_tgt A (N ++ Y) (Z ++ V) ho hA hNY
    rw [List.append_assoc] at this
    rw [this]
    have e := asg_plain h (X := [32]) (.inr rfl) hY hV hZ s
    rw [show 32 :: (N ++ Y) = [32] ++ (N ++ Y) from rfl, e]
  have mkd : ∀ (m : UInt8) (k : Int), (m = 43 ∧ k = 4 ∨ m = 63 ∧ k = 3 ∨ m = 33 ∧ k = 5) → takeP (mk (A ++ (58 :: 32 :: (N ++ (Y ++ ([m, 61] ++ (Z ++ V))))))) = ⟨3, mk A, mk V, mk N, bE, k, false, false⟩ := fun m k hm => by
    have := tk_tgt A (N ++ (Y ++ [m])) (Z ++ V) (O := [61]) (s := 0) (.inl ⟨rfl, rfl⟩) hA (by
      rw [← List.append_assoc]
      refine over_app hNY fun x hx => ?_
      have : x = m := by simpa using hx
      subst this
      rcases hm with ⟨rfl, _⟩ | ⟨rfl, _⟩ | ⟨rfl, _⟩ <;> exact ⟨by decide, by decide⟩)
    have e : N ++ (Y ++ [m]) ++ ([61] ++ (Z ++ V)) = N ++ (Y ++ ([m, 61] ++ (Z ++ V))) := by simp
    rw [e] at this
    rw [this]
    have e2 := asg_mark m k hm h (X := [32]) (.inr rfl) hY hV hZ
    rw [show 32 :: (N ++ (Y ++ [m])) = [32] ++ (N ++ (Y ++ [m])) from rfl, e2]
  rcases ho with ⟨rfl, rfl⟩ | ⟨rfl, rfl⟩ | ⟨rfl, rfl⟩ | ⟨rfl, rfl⟩ | ⟨rfl, rfl⟩ | ⟨rfl, rfl⟩
  · exact pl _ 0 (.inl ⟨rfl, rfl⟩)
  · exact pl _ 2 (.inr (.inl ⟨rfl, rfl⟩))
  · exact pl _ 2 (.inr (.inr ⟨rfl, rfl⟩))
  · exact mkd 63 3 (.inr (.inl ⟨rfl, rfl⟩))
  · exact mkd 43 4 (.inl ⟨rfl, rfl⟩)
  · exact mkd 33 5 (.inr (.inr ⟨rfl, rfl⟩))
end Go.Proofs.YtmcemaphhlcjfaaDoor
