/- How a line is taken apart, in plain words, and that the program's way to it is the reference's; no condition. -/
import Derived.Test.YtmcemaphhlcjfaaDoorRefs3
import Derived.Test.YtmcemaphhlcjfaaDoorTrim
import Derived.Test.YtmcemaphhlcjfaaDoorTrimL
namespace Go.Proofs.YtmcemaphhlcjfaaDoor
open Go.RowKit

structure HeadP where
  k : Int
  l : ByteArray
  r : ByteArray
  n : ByteArray
  rc : ByteArray
  set : Int
  d : Bool
  h : Bool
def headV (x : HeadP) : Value := .agg #[.int .i64 x.k, .string x.l, .string x.r, .string x.n, .string x.rc, .int .i64 x.set, .bool x.d, .bool x.h]
def bE : ByteArray := ⟨#[]⟩
def bEC : ByteArray := ⟨#[61, 58]⟩
def bECS : ByteArray := ⟨#[61, 58, 59]⟩
def bEq : ByteArray := ⟨#[61]⟩
def bS : ByteArray := ⟨#[59]⟩
def bC : ByteArray := ⟨#[58]⟩
def bCE : ByteArray := ⟨#[58, 61]⟩
def bCCE : ByteArray := ⟨#[58, 58, 61]⟩
def lftB (s : ByteArray) : ByteArray := mk (trL s.data.toList)
/-- does s go on with t at place k? -/
def bgn (s : ByteArray) (k : Nat) (t : ByteArray) : Bool := Lib.hasPrefix (s.data.toList.drop k) t.data.toList
noncomputable def asgK (t : ByteArray) : Int × ByteArray :=
  if t.size = 0 then (1, t)
  else if t.get! (t.size - 1) = 43 then (4, trimB (t.extract 0 (t.size - 1)))
  else if t.get! (t.size - 1) = 63 then (3, trimB (t.extract 0 (t.size - 1)))
  else if t.get! (t.size - 1) = 33 then (5, trimB (t.extract 0 (t.size - 1)))
  else (1, t)
noncomputable def asgP (l r : ByteArray) (set : Int) : HeadP :=
  if set = 0 then ⟨1, (asgK (trimB l)).2, lftB r, bE, bE, (asgK (trimB l)).1, false, false⟩ else ⟨1, trimB l, lftB r, bE, bE, set, false, false⟩
noncomputable def asgAt (s : ByteArray) (k : Nat) : HeadP :=
  if s.get! k = 58 then asgP (s.extract 0 k) (s.extract (k + (if bgn s k bCCE then 3 else 2)) s.size) 2 else asgP (s.extract 0 k) (s.extract (k + 1) s.size) 0
def setsB (s : ByteArray) (k : Nat) : Bool := s.get! k == 61 || (bgn s k bCE || bgn s k bCCE)
/-- does a line go on with an assignment ahead of its ;? -/
def ownB (r : ByteArray) : Bool := decide (0 ≤ scanI r bECS) && (r.get! (scanI r bECS).toNat != 59 && setsB r (scanI r bECS).toNat)
noncomputable def tailP (l r : ByteArray) (d : Bool) : HeadP :=
  if scanI r bS < 0 then ⟨2, l, r, bE, bE, 0, d, false⟩ else ⟨2, l, r.extract 0 (scanI r bS).toNat, bE, lftB (r.extract ((scanI r bS).toNat + 1) r.size), 0, d, true⟩
def dblB (r : ByteArray) : Bool := Lib.hasPrefix r.data.toList bC.data.toList
def cutC (r : ByteArray) : ByteArray := if dblB r then r.extract 1 r.size else r
noncomputable def restP (l r : ByteArray) (d : Bool) : HeadP :=
  if ownB r then ⟨3, l, (asgAt r (scanI r bECS).toNat).r, (asgAt r (scanI r bECS).toNat).l, bE, (asgAt r (scanI r bECS).toNat).set, d, false⟩ else tailP l r d
noncomputable def takeP (s : ByteArray) : HeadP :=
  if scanI s bEC < 0 then ⟨0, s, bE, bE, bE, 0, false, false⟩
  else if setsB s (scanI s bEC).toNat then asgAt s (scanI s bEC).toNat
  else restP (s.extract 0 (scanI s bEC).toNat) (cutC (s.extract ((scanI s bEC).toNat + 1) s.size)) (dblB (s.extract ((scanI s bEC).toNat + 1) s.size))

theorem asg_k (l r : ByteArray) (n : Int) : (asgP l r n).k = 1 := by unfold asgP; split <;> rfl
theorem asgAt_k (s : ByteArray) (k : Nat) : (asgAt s k).k = 1 := by unfold asgAt; split <;> exact asg_k _ _ _
theorem restP_k (l r : ByteArray) (d : Bool) : (restP l r d).k ≠ 1 := by
  unfold restP tailP; split
  · simp
  · split <;> simp

theorem scan_ge (s t : ByteArray) : ∀ f i, scanF s t f i = -1 ∨ ((i : Int) ≤ scanF s t f i ∧ scanF s t f i < s.size)
  | 0, _ => .inl rfl
  | f + 1, i => by
    rw [scanF]
    split
    · rename_i h
      split
      · split
        · split
          · exact .inl rfl
          · rename_i h2 h3
            rcases endI_in s (i + 1) with hin | ⟨q, hin, hq1, hq2⟩
            · rw [hin] at h3; exact absurd (by decide) h3
            · rw [hin, Int.toNat_natCast]
              rcases scan_ge s t f (q + 1) with h | h
              · exact .inl h
              · right; omega
        · rcases scan_ge s t f (i + 2) with h | h
          · exact .inl h
          · right; omega
      · split
        · right; omega
        · rcases scan_ge s t f (i + 1) with h | h
          · exact .inl h
          · right; omega
    · exact .inl rfl
theorem scanI_in (s t : ByteArray) : scanI s t = -1 ∨ (0 ≤ scanI s t ∧ scanI s t < s.size) := scan_ge s t _ 0

theorem ib_eq (c : UInt8) : (0 ≤ Lib.indexByte bEq.data.toList c) ↔ c = 61 := by
  show (0 ≤ Lib.indexByte [61] c) ↔ _
  simp only [Lib.indexByte]; by_cases h : c = 61
  · subst h; simp
  · simp [h, Ne.symm h]
theorem ib_s (c : UInt8) : (0 ≤ Lib.indexByte bS.data.toList c) ↔ c = 59 := by
  show (0 ≤ Lib.indexByte [59] c) ↔ _
  simp only [Lib.indexByte]; by_cases h : c = 59
  · subst h; simp
  · simp [h, Ne.symm h]
theorem ib_ec (c : UInt8) : (0 ≤ Lib.indexByte bEC.data.toList c) ↔ (c = 61 ∨ c = 58) := by
  show (0 ≤ Lib.indexByte [61, 58] c) ↔ _
  simp only [Lib.indexByte]; by_cases h : c = 61
  · subst h; simp
  · by_cases h2 : c = 58
    · subst h2; simp
    · simp [h, h2, Ne.symm h, Ne.symm h2]
theorem ib_ecs (c : UInt8) : (0 ≤ Lib.indexByte bECS.data.toList c) ↔ (c = 61 ∨ c = 58 ∨ c = 59) := by
  show (0 ≤ Lib.indexByte [61, 58, 59] c) ↔ _
  simp only [Lib.indexByte]; by_cases h : c = 61
  · subst h; simp
  · by_cases h2 : c = 58
    · subst h2; simp
    · by_cases h3 : c = 59
      · subst h3; simp
      · simp [h, h2, h3, Ne.symm h, Ne.symm h2, Ne.symm h3]

/-- what the four scans tell of one another -/
theorem scans (s : ByteArray) : ∀ f i, s.size < f + i →
    (scanF s bEC f i < 0 → scanF s bECS f i = scanF s bS f i ∧ (0 ≤ scanF s bS f i → s.get! (scanF s bS f i).toNat = 59)) ∧
    (0 ≤ scanF s bEC f i → ∃ f', s.size < f' + ((scanF s bEC f i).toNat + 1) ∧
      (s.get! (scanF s bEC f i).toNat = 61 ∨ s.get! (scanF s bEC f i).toNat = 58) ∧
      scanF s bEq f i = (if s.get! (scanF s bEC f i).toNat = 61 then scanF s bEC f i else scanF s bEq f' ((scanF s bEC f i).toNat + 1)) ∧
      ((0 ≤ scanF s bS f i ∧ scanF s bS f i < scanF s bEC f i ∧ scanF s bECS f i = scanF s bS f i ∧ s.get! (scanF s bS f i).toNat = 59) ∨
       (scanF s bECS f i = scanF s bEC f i ∧ scanF s bS f i = scanF s bS f' ((scanF s bEC f i).toNat + 1))))
  | 0, i, h => by
    have e : ∀ t, scanF s t 0 i = -1 := fun _ => rfl
    simp only [e]
    exact ⟨fun _ => ⟨by first | rfl | trivial, by omega⟩, by omega⟩
  | f + 1, i, hf => by
    have e : ∀ t, scanF s t (f + 1) i = if i < s.size then (if s.get! i = 36 then (if i + 1 < s.size ∧ (s.get! (i + 1) = 40 ∨ s.get! (i + 1) = 123) then (if endI s (i + 1) < 0 then -1 else scanF s t f ((endI s (i + 1)).toNat + 1)) else scanF s t f (i + 2)) else if 0 ≤ Lib.indexByte t.data.toList (s.get! i) then (i : Int) else scanF s t f (i + 1)) else -1 := fun t => by rw [scanF]
    by_cases h1 : i < s.size
    · by_cases h2 : s.get! i = 36
      · by_cases h3 : i + 1 < s.size ∧ (s.get! (i + 1) = 40 ∨ s.get! (i + 1) = 123)
        · by_cases h4 : endI s (i + 1) < 0
          · have e2 : ∀ t, scanF s t (f + 1) i = -1 := fun t => by rw [e, if_pos h1, if_pos h2, if_pos h3, if_pos h4]
            simp only [e2]
            exact ⟨fun _ => ⟨by first | rfl | trivial, by omega⟩, by omega⟩
          · have e2 : ∀ t, scanF s t (f + 1) i = scanF s t f ((endI s (i + 1)).toNat + 1) := fun t => by rw [e, if_pos h1, if_pos h2, if_pos h3, if_neg h4]
            simp only [e2]
            rcases endI_in s (i + 1) with hin | ⟨q, hin, hq1, hq2⟩
            · rw [hin] at h4; exact absurd (by decide) h4
            · rw [hin, Int.toNat_natCast]
              exact scans s f _ (by omega)
        · have e2 : ∀ t, scanF s t (f + 1) i = scanF s t f (i + 2) := fun t => by rw [e, if_pos h1, if_pos h2, if_neg h3]
          simp only [e2]
          exact scans s f _ (by omega)
      · have e2 : ∀ t, scanF s t (f + 1) i = if 0 ≤ Lib.indexByte t.data.toList (s.get! i) then (i : Int) else scanF s t f (i + 1) := fun t => by rw [e, if_pos h1, if_neg h2]
        by_cases k1 : s.get! i = 61
        · have a1 : scanF s bEC (f + 1) i = i := by rw [e2, if_pos ((ib_ec _).2 (.inl k1))]
          have a2 : scanF s bECS (f + 1) i = i := by rw [e2, if_pos ((ib_ecs _).2 (.inl k1))]
          have a3 : scanF s bEq (f + 1) i = i := by rw [e2, if_pos ((ib_eq _).2 k1)]
          have a4 : scanF s bS (f + 1) i = scanF s bS f (i + 1) := by rw [e2, if_neg (by rw [ib_s, k1]; decide)]
          rw [a1, a2, a3, a4, Int.toNat_natCast]
          exact ⟨by omega, fun _ => ⟨f, by omega, .inl k1, by rw [if_pos k1], .inr ⟨rfl, rfl⟩⟩⟩
        · by_cases k2 : s.get! i = 58
          · have a1 : scanF s bEC (f + 1) i = i := by rw [e2, if_pos ((ib_ec _).2 (.inr k2))]
            have a2 : scanF s bECS (f + 1) i = i := by rw [e2, if_pos ((ib_ecs _).2 (.inr (.inl k2)))]
            have a3 : scanF s bEq (f + 1) i = scanF s bEq f (i + 1) := by rw [e2, if_neg (by rw [ib_eq]; exact k1)]
            have a4 : scanF s bS (f + 1) i = scanF s bS f (i + 1) := by rw [e2, if_neg (by rw [ib_s, k2]; decide)]
            rw [a1, a2, a3, a4, Int.toNat_natCast]
            exact ⟨by omega, fun _ => ⟨f, by omega, .inr k2, by rw [if_neg k1], .inr ⟨rfl, rfl⟩⟩⟩
          · by_cases k3 : s.get! i = 59
            · have a1 : scanF s bEC (f + 1) i = scanF s bEC f (i + 1) := by rw [e2, if_neg (by rw [ib_ec]; exact fun h => h.elim k1 k2)]
              have a2 : scanF s bECS (f + 1) i = i := by rw [e2, if_pos ((ib_ecs _).2 (.inr (.inr k3)))]
              have a3 : scanF s bEq (f + 1) i = scanF s bEq f (i + 1) := by rw [e2, if_neg (by rw [ib_eq]; exact k1)]
              have a4 : scanF s bS (f + 1) i = i := by rw [e2, if_pos ((ib_s _).2 k3)]
              have ih := scans s f (i + 1) (by omega)
              have hg := scan_ge s bEC f (i + 1)
              rw [a1, a2, a3, a4, Int.toNat_natCast]
              refine ⟨fun _ => ⟨rfl, fun _ => k3⟩, fun h => ?_⟩
              obtain ⟨f', b1, b2, b3, _⟩ := ih.2 h
              exact ⟨f', b1, b2, b3, .inl ⟨by omega, by omega, rfl, k3⟩⟩
            · have a1 : scanF s bEC (f + 1) i = scanF s bEC f (i + 1) := by rw [e2, if_neg (by rw [ib_ec]; exact fun h => h.elim k1 k2)]
              have a2 : scanF s bECS (f + 1) i = scanF s bECS f (i + 1) := by rw [e2, if_neg (by rw [ib_ecs]; exact fun h => h.elim k1 fun h => h.elim k2 k3)]
              have a3 : scanF s bEq (f + 1) i = scanF s bEq f (i + 1) := by rw [e2, if_neg (by rw [ib_eq]; exact k1)]
              have a4 : scanF s bS (f + 1) i = scanF s bS f (i + 1) := by rw [e2, if_neg (by rw [ib_s]; exact k3)]
              rw [a1, a2, a3, a4]
              exact scans s f (i + 1) (by omega)
    · have e2 : ∀ t, scanF s t (f + 1) i = -1 := fun t => by rw [e, if_neg h1]
      simp only [e2]
      exact ⟨fun _ => ⟨by first | rfl | trivial, by omega⟩, by omega⟩

theorem bgn_get {s t : ByteArray} {k : Nat} (h : bgn s k t = true) (j : Nat) (hj : j < t.size) : k + j < s.size ∧ s.get! (k + j) = t.get! j := by
  unfold bgn at h
  have key : ∀ (l m : List UInt8) (j : Nat), Lib.hasPrefix l m = true → ∀ hm : j < m.length, l[j]? = some m[j] := by
    intro l m
    induction m generalizing l with
    | nil => intro j _ hm; simp at hm
    | cons y m ih =>
      intro j h hm
      cases l with
      | nil => simp [Lib.hasPrefix] at h
      | cons x l =>
        simp only [Lib.hasPrefix, List.isPrefixOf, Bool.and_eq_true, beq_iff_eq] at h
        cases j with
        | zero => simp [h.1]
        | succ j => simpa using ih l j h.2 (by simpa using hm)
  have h1 := key _ _ j h (by simpa using hj)
  rw [List.getElem?_drop] at h1
  have h2 : k + j < s.data.toList.length := (List.getElem?_eq_some_iff.1 h1).1
  have h3 : k + j < s.size := by simpa using h2
  refine ⟨h3, ?_⟩
  rw [List.getElem?_eq_getElem h2] at h1
  have h4 := Option.some.inj h1
  rw [get_list' s (k + j) h3, get_list' t j hj, bget, bget] at h4
  exact h4

theorem bgn_lt {s t : ByteArray} {k : Nat} (h : bgn s k t = true) (ht : 0 < t.size) : k + t.size ≤ s.size := by
  have := (bgn_get h (t.size - 1) (by omega)).1; omega

/-- the program asks the line's rest taken apart again where the reference asks its own scan -/
theorem own_iff (r : ByteArray) : ((takeP r).k = 1 ∧ (scanI r bS < 0 ∨ scanI r bEq < scanI r bS)) ↔ ownB r = true := by
  have H := scans r (r.size + 1) 0 (by omega)
  have hJ := scanI_in r bEC
  by_cases h0 : scanI r bEC < 0
  · have hk : (takeP r).k = 0 := by unfold takeP; rw [if_pos h0]
    have h1 := H.1 h0
    have e1 : scanI r bECS = scanI r bS := h1.1
    have e2 : 0 ≤ scanI r bS → r.get! (scanI r bS).toNat = 59 := h1.2
    constructor
    · rintro ⟨h, _⟩; rw [hk] at h; cases h
    · intro h
      unfold ownB at h
      simp only [Bool.and_eq_true, decide_eq_true_eq, e1] at h
      rw [e2 h.1] at h
      simp at h
  · obtain ⟨f', b1, b2, b3, b4⟩ := H.2 (by show 0 ≤ scanI r bEC; omega)
    obtain ⟨J, hJn⟩ : ∃ J : Nat, scanI r bEC = J := ⟨(scanI r bEC).toNat, by omega⟩
    have hJd : scanF r bEC (r.size + 1) 0 = J := hJn
    have hSd : scanF r bS (r.size + 1) 0 = scanI r bS := rfl
    have hEd : scanF r bEq (r.size + 1) 0 = scanI r bEq := rfl
    have hQd : scanF r bECS (r.size + 1) 0 = scanI r bECS := rfl
    rw [hJd, Int.toNat_natCast] at b1 b2 b3 b4
    rw [hSd, hQd] at b4
    rw [hEd] at b3
    have hk : (takeP r).k = 1 ↔ setsB r J = true := by
      unfold takeP
      rw [if_neg h0, hJn, Int.toNat_natCast]
      split
      · rename_i h; simp [asgAt_k, h]
      · rename_i h; simp [restP_k, h]
    -- where an assignment's separator stands, the = is at most two places on
    have hE : setsB r J = true → (J : Int) ≤ scanI r bEq ∧ ∀ S, scanF r bS f' (J + 1) = S → S < 0 ∨ scanI r bEq < S := by
      intro hs
      by_cases k1 : r.get! J = 61
      · rw [if_pos k1] at b3
        refine ⟨by omega, fun S hS => ?_⟩
        rcases scan_ge r bS f' (J + 1) with h | h <;> omega
      · rw [if_neg k1] at b3
        obtain ⟨f1, rfl⟩ : ∃ f1, f' = f1 + 1 := ⟨f' - 1, by omega⟩
        have step : ∀ t, scanF r t (f1 + 1) (J + 1) = if J + 1 < r.size then (if r.get! (J + 1) = 36 then (if J + 1 + 1 < r.size ∧ (r.get! (J + 1 + 1) = 40 ∨ r.get! (J + 1 + 1) = 123) then (if endI r (J + 1 + 1) < 0 then -1 else scanF r t f1 ((endI r (J + 1 + 1)).toNat + 1)) else scanF r t f1 (J + 1 + 2)) else if 0 ≤ Lib.indexByte t.data.toList (r.get! (J + 1)) then ((J + 1 : Nat) : Int) else scanF r t f1 (J + 1 + 1)) else -1 := fun t => by rw [scanF]
        unfold setsB at hs
        simp only [Bool.or_eq_true, beq_iff_eq] at hs
        rcases hs with hs | hs | hs
        · exact absurd hs k1
        · obtain ⟨g1, g2⟩ := bgn_get hs 1 (by decide)
          have g3 : r.get! (J + 1) = 61 := g2
          have c1 : scanF r bEq (f1 + 1) (J + 1) = ((J + 1 : Nat) : Int) := by rw [step, if_pos g1, if_neg (by rw [g3]; decide), if_pos ((ib_eq _).2 g3)]
          have c2 : scanF r bS (f1 + 1) (J + 1) = scanF r bS f1 (J + 1 + 1) := by rw [step, if_pos g1, if_neg (by rw [g3]; decide), if_neg (by rw [ib_s, g3]; decide)]
          rw [c1] at b3
          refine ⟨by omega, fun S hS => ?_⟩
          rw [c2] at hS
          rcases scan_ge r bS f1 (J + 1 + 1) with h | h <;> omega
        · obtain ⟨g1, g2⟩ := bgn_get hs 1 (by decide)
          obtain ⟨g4, g5⟩ := bgn_get hs 2 (by decide)
          have g3 : r.get! (J + 1) = 58 := g2
          have g6 : r.get! (J + 1 + 1) = 61 := g5
          obtain ⟨f2, rfl⟩ : ∃ f2, f1 = f2 + 1 := ⟨f1 - 1, by omega⟩
          have step2 : ∀ t, scanF r t (f2 + 1) (J + 1 + 1) = if J + 1 + 1 < r.size then (if r.get! (J + 1 + 1) = 36 then (if J + 1 + 1 + 1 < r.size ∧ (r.get! (J + 1 + 1 + 1) = 40 ∨ r.get! (J + 1 + 1 + 1) = 123) then (if endI r (J + 1 + 1 + 1) < 0 then -1 else scanF r t f2 ((endI r (J + 1 + 1 + 1)).toNat + 1)) else scanF r t f2 (J + 1 + 1 + 2)) else if 0 ≤ Lib.indexByte t.data.toList (r.get! (J + 1 + 1)) then ((J + 1 + 1 : Nat) : Int) else scanF r t f2 (J + 1 + 1 + 1)) else -1 := fun t => by rw [scanF]
          have c1 : scanF r bEq (f2 + 1 + 1) (J + 1) = ((J + 1 + 1 : Nat) : Int) := by
            rw [step, if_pos g1, if_neg (by rw [g3]; decide), if_neg (by rw [ib_eq, g3]; decide), step2, if_pos g4, if_neg (by rw [g6]; decide), if_pos ((ib_eq _).2 g6)]
          have c2 : scanF r bS (f2 + 1 + 1) (J + 1) = scanF r bS f2 (J + 1 + 1 + 1) := by
            rw [step, if_pos g1, if_neg (by rw [g3]; decide), if_neg (by rw [ib_s, g3]; decide), step2, if_pos g4, if_neg (by rw [g6]; decide), if_neg (by rw [ib_s, g6]; decide)]
          rw [c1] at b3
          refine ⟨by omega, fun S hS => ?_⟩
          rw [c2] at hS
          rcases scan_ge r bS f2 (J + 1 + 1 + 1) with h | h <;> omega
    rw [hk]
    rcases b4 with ⟨d1, d2, d3, d4⟩ | ⟨d1, d2⟩
    · constructor
      · rintro ⟨h, h2⟩
        have := (hE h).1
        omega
      · intro h
        unfold ownB at h
        simp only [Bool.and_eq_true, decide_eq_true_eq, d3] at h
        rw [d4] at h
        simp at h
    · have hq : ownB r = setsB r J := by
        unfold ownB
        rw [d1, Int.toNat_natCast]
        have n1 : (r.get! J != 59) = true := by rcases b2 with h | h <;> rw [h] <;> decide
        rw [n1]
        simp
      rw [hq]
      constructor
      · exact fun h => h.1
      · intro h
        refine ⟨h, ?_⟩
        exact (hE h).2 _ d2.symm
theorem own_take (r : ByteArray) (h : ownB r = true) : takeP r = asgAt r (scanI r bECS).toNat := by
  have H := scans r (r.size + 1) 0 (by omega)
  have h2 := (own_iff r).2 h
  have hJ := scanI_in r bEC
  unfold takeP at h2
  by_cases h0 : scanI r bEC < 0
  · rw [if_pos h0] at h2; simp at h2
  · rw [if_neg h0] at h2
    cases hs : setsB r (scanI r bEC).toNat
    · rw [hs] at h2; simp [restP_k] at h2
    · have e0 : takeP r = asgAt r (scanI r bEC).toNat := by unfold takeP; rw [if_neg h0, if_pos hs]
      rw [e0]
      obtain ⟨f', b1, b2, b3, b4⟩ := H.2 (by show 0 ≤ scanI r bEC; omega)
      rcases b4 with ⟨d1, d2, d3, d4⟩ | ⟨d1, d2⟩
      · exfalso
        unfold ownB at h
        have e3 : scanI r bECS = scanI r bS := d3
        have e4 : r.get! (scanI r bS).toNat = 59 := d4
        rw [e3, e4] at h
        simp at h
      · have e3 : scanI r bECS = scanI r bEC := d1
        rw [e3]
end Go.Proofs.YtmcemaphhlcjfaaDoor
