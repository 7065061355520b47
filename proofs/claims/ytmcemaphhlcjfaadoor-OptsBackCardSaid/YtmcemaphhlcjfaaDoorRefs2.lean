/- Blanks, and the place of what closes a reference, in package refs and in the reference; conditions: texts of at most 2^47 - 4096 bytes. -/
import Derived.Test.YtmcemaphhlcjfaaDoorSplit
namespace Go.Proofs.YtmcemaphhlcjfaaDoor
open Go.RowKit

theorem u8_eq (c d : UInt8) : ((c.toNat : Int) == (d.toNat : Int)) = (c == d) := by
  by_cases h : c = d
  · subst h; rw [beq_self_eq_true, beq_self_eq_true]
  · have : ¬ (c.toNat : Int) = d.toNat := fun e => h (UInt8.toNat_inj.1 (by omega))
    rw [beq_eq_false_iff_ne.2 this, beq_eq_false_iff_ne.2 h]
def closeL (o c : UInt8) : List UInt8 → Nat → Option Nat
  | [], _ => none
  | x :: l, d => if x == o then (closeL o c l (d + 1)).map (· + 1) else if x == c then (if d = 1 then some 0 else (closeL o c l (d - 1)).map (· + 1)) else (closeL o c l d).map (· + 1)
def posI (i : Nat) : Option Nat → Int
  | some k => i + k
  | none => -1
theorem posI_map (i : Nat) (r : Option Nat) : posI i (r.map (· + 1)) = posI (i + 1) r := by
  cases r with
  | none => rfl
  | some k => simp only [Option.map_some, posI]; omega
theorem get_list' (s : ByteArray) (j : Nat) (h : j < s.size) : s.data.toList[j]'(by simpa using h) = s[j] := by rw [Array.getElem_toList]; rfl
theorem close_drop (o c : UInt8) (s : ByteArray) (i d : Nat) (h : i < s.size) : posI i (closeL o c (s.data.toList.drop i) d) =
    if s[i] == o then posI (i + 1) (closeL o c (s.data.toList.drop (i + 1)) (d + 1)) else if s[i] == c then (if d = 1 then (i : Int) else posI (i + 1) (closeL o c (s.data.toList.drop (i + 1)) (d - 1))) else posI (i + 1) (closeL o c (s.data.toList.drop (i + 1)) d) := by
  rw [List.drop_eq_getElem_cons (by simpa using h), get_list' s i h, closeL]
  split
  · rw [posI_map]
  · split
    · split
      · simp [posI]
      · rw [posI_map]
    · rw [posI_map]
def shutOf (o : UInt8) : UInt8 := if o == 123 then 125 else 41
/-- the place of what closes what opens at a place; -1: nothing does -/
def endI (s : ByteArray) (i : Nat) : Int := posI (i + 1) (closeL (s.get! i) (shutOf (s.get! i)) (s.data.toList.drop (i + 1)) 1)
theorem close_lt (o c : UInt8) : ∀ (l : List UInt8) (d k : Nat), closeL o c l d = some k → k < l.length
  | [], d, k, h => by simp [closeL] at h
  | x :: l, d, k, h => by
    have ih := close_lt o c l
    rw [closeL] at h
    split at h
    · obtain ⟨j, hj, rfl⟩ := Option.map_eq_some_iff.1 h; have := ih _ _ hj; simp; omega
    · split at h
      · split at h
        · cases h; simp
        · obtain ⟨j, hj, rfl⟩ := Option.map_eq_some_iff.1 h; have := ih _ _ hj; simp; omega
      · obtain ⟨j, hj, rfl⟩ := Option.map_eq_some_iff.1 h; have := ih _ _ hj; simp; omega
theorem endI_in (s : ByteArray) (i : Nat) : endI s i = -1 ∨ ∃ k : Nat, endI s i = k ∧ i < k ∧ k < s.size := by
  unfold endI
  cases h : closeL (s.get! i) (shutOf (s.get! i)) (s.data.toList.drop (i + 1)) 1 with
  | none => left; rfl
  | some k =>
    right
    have := close_lt _ _ _ _ _ h
    simp at this
    exact ⟨i + 1 + k, by simp only [posI]; omega, by omega, by have : s.data.size = s.size := rfl; omega⟩
set_option maxRecDepth 100000 in
set_option maxHeartbeats 1000000 in
theorem end_any (s : ByteArray) (p : Nat) (w : World) (hs : s.size ≤ 140737488351232) (hp : p < s.size) (hb : s.get! p = 40 ∨ s.get! p = 123) :
    Calls Tryd.prog 60 #[.string s, .int .i64 p] w fun e w' => e = .returned (.int .i64 (endI s p)) ∧ w' = w := by
  obtain ⟨E, hE⟩ : ∃ E, endI s p = E := ⟨_, rfl⟩
  rw [hE]
  have q0 : (p : Int) < s.size := by omega
  have hbp := bget s p hp
  unfold endI at hE
  rw [← hbp] at hE hb
  have hne : (shutOf (s[p]) == s[p]) = false := by rcases hb with h | h <;> rw [h] <;> decide
  obtain ⟨o, ho⟩ : ∃ o, s[p] = o := ⟨_, rfl⟩
  rw [ho] at hE hb hne
  obtain ⟨c, hc⟩ : ∃ c, shutOf o = c := ⟨_, rfl⟩
  rw [hc] at hE hne
  have h0 : posI p (closeL o c (s.data.toList.drop p) 0) = E := by rw [close_drop o c s p 0 hp, ho, ← hE]; simp
  have H0 := Lib.hid h0
  have HNE := Lib.hid hne
  clear hE h0 hne hbp
  have hcc : (o = 40 ∧ c = 41) ∨ (o = 123 ∧ c = 125) := by
    rcases hb with h | h
    · left; refine ⟨h, ?_⟩; rw [← hc, h]; decide
    · right; refine ⟨h, ?_⟩; rw [← hc, h]; decide
  clear hb hc
  have hof : (s[p].toNat : Int) = o.toNat := by rw [ho]
  have HO := Lib.hid ho
  clear ho
  rcases hcc with ⟨rfl, rfl⟩ | ⟨rfl, rfl⟩
  · have hof' : (s[p].toNat : Int) = 40 := hof
    clear hof
    go_enter Tryd.func60, Tryd.ntmps60
    go_wp2
    go_loopw [7, 8] (fun dv iv wi => ∃ (i d : Nat), iv = .int .i64 i ∧ dv = .int .i64 d ∧ p ≤ i ∧ i ≤ s.size ∧ d ≤ i ∧ (d = 0 → i = p) ∧ Hid (posI i (closeL 40 41 (s.data.toList.drop i) d) = E) ∧ wi = w) (fun _ iv _ => s.size - (intOf iv).toNat)
    case atStart => exact ⟨p, 0, rfl, rfl, Nat.le_refl _, by omega, by omega, fun _ => rfl, H0, rfl⟩
    case round =>
      obtain ⟨i, d, rfl, rfl, hpi, hi, hdi, hd0, hrel, hwr⟩ := hrel
      obtain rfl : w = wr := hwr.symm
      by_cases hlt : i < s.size
      · have q1 : (i : Int) < s.size := by omega
        have hst := close_drop 40 41 s i d hlt
        rw [hrel.out] at hst
        by_cases h1 : s[i] = 40
        · have HR : Hid (posI (i + 1) (closeL 40 41 (s.data.toList.drop (i + 1)) (d + 1)) = E) := by unfold Hid; rw [h1] at hst; simpa using hst.symm
          have hx : (s[i].toNat : Int) = 40 := by rw [h1]; rfl
          clear h1 hst hrel
          go_wp2
          exact ⟨⟨i + 1, d + 1, by go_num, by go_num, by omega, by omega, by omega, fun h => by omega, HR, by trivial⟩, by simp [intOf]; omega⟩
        · by_cases h2 : s[i] = 41
          · have hip : d ≠ 0 := fun h => by have e := hd0 h; subst e; rw [HO.out] at h2; exact absurd h2 (by decide)
            obtain ⟨e, he⟩ : ∃ e, d = e + 1 := ⟨d - 1, by omega⟩
            subst he
            have hx : (s[i].toNat : Int) = 41 := by rw [h2]; rfl
            rw [h2] at hst
            by_cases h3 : e = 0
            · subst h3
              have hE : E = (i : Int) := by simpa using hst
              subst hE
              clear h1 h2 hst hrel hd0
              go_wp2
              go_ret
              exact ⟨rfl, rfl⟩
            · have HR : Hid (posI (i + 1) (closeL 40 41 (s.data.toList.drop (i + 1)) e) = E) := by unfold Hid; rw [hst]; simp [h3]
              have q5 : ¬ (e : Int) = 0 := by omega
              clear h1 h2 hst hrel hd0
              go_wp2
              exact ⟨⟨i + 1, e, by go_num, by go_num, by omega, by omega, by omega, fun h => by omega, HR, by trivial⟩, by simp [intOf]; omega⟩
          · have HR : Hid (posI (i + 1) (closeL 40 41 (s.data.toList.drop (i + 1)) d) = E) := by unfold Hid; rw [hst]; simp [h1, h2]
            have n1 : ((s[i].toNat : Int) == 40) = false := by rw [beq_eq_false_iff_ne]; intro h; exact h1 (UInt8.toNat_inj.1 (by show s[i].toNat = 40; omega))
            have n2 : ((s[i].toNat : Int) == 41) = false := by rw [beq_eq_false_iff_ne]; intro h; exact h2 (UInt8.toNat_inj.1 (by show s[i].toNat = 41; omega))
            have hd1 : d = 0 → i + 1 = p := fun h => by have e := hd0 h; subst e; exact absurd HO.out h1
            clear h1 h2 hst hrel
            go_wp2
            exact ⟨⟨i + 1, d, by go_num, rfl, by omega, by omega, by omega, hd1, HR, by trivial⟩, by simp [intOf]; omega⟩
      · have hE : E = -1 := by
          have := hrel.out
          rw [List.drop_eq_nil_of_le (by simp; omega)] at this
          exact this.symm
        subst hE
        go_wp2
        go_ret
        exact ⟨rfl, rfl⟩
  · have hof' : (s[p].toNat : Int) = 123 := hof
    clear hof
    go_enter Tryd.func60, Tryd.ntmps60
    go_wp2
    go_loopw [7, 8] (fun dv iv wi => ∃ (i d : Nat), iv = .int .i64 i ∧ dv = .int .i64 d ∧ p ≤ i ∧ i ≤ s.size ∧ d ≤ i ∧ (d = 0 → i = p) ∧ Hid (posI i (closeL 123 125 (s.data.toList.drop i) d) = E) ∧ wi = w) (fun _ iv _ => s.size - (intOf iv).toNat)
    case atStart => exact ⟨p, 0, rfl, rfl, Nat.le_refl _, by omega, by omega, fun _ => rfl, H0, rfl⟩
    case round =>
      obtain ⟨i, d, rfl, rfl, hpi, hi, hdi, hd0, hrel, hwr⟩ := hrel
      obtain rfl : w = wr := hwr.symm
      by_cases hlt : i < s.size
      · have q1 : (i : Int) < s.size := by omega
        have hst := close_drop 123 125 s i d hlt
        rw [hrel.out] at hst
        by_cases h1 : s[i] = 123
        · have HR : Hid (posI (i + 1) (closeL 123 125 (s.data.toList.drop (i + 1)) (d + 1)) = E) := by unfold Hid; rw [h1] at hst; simpa using hst.symm
          have hx : (s[i].toNat : Int) = 123 := by rw [h1]; rfl
          clear h1 hst hrel
          go_wp2
          exact ⟨⟨i + 1, d + 1, by go_num, by go_num, by omega, by omega, by omega, fun h => by omega, HR, by trivial⟩, by simp [intOf]; omega⟩
        · by_cases h2 : s[i] = 125
          · have hip : d ≠ 0 := fun h => by have e := hd0 h; subst e; rw [HO.out] at h2; exact absurd h2 (by decide)
            obtain ⟨e, he⟩ : ∃ e, d = e + 1 := ⟨d - 1, by omega⟩
            subst he
            have hx : (s[i].toNat : Int) = 125 := by rw [h2]; rfl
            rw [h2] at hst
            by_cases h3 : e = 0
            · subst h3
              have hE : E = (i : Int) := by simpa using hst
              subst hE
              clear h1 h2 hst hrel hd0
              go_wp2
              go_ret
              exact ⟨rfl, rfl⟩
            · have HR : Hid (posI (i + 1) (closeL 123 125 (s.data.toList.drop (i + 1)) e) = E) := by unfold Hid; rw [hst]; simp [h3]
              have q5 : ¬ (e : Int) = 0 := by omega
              clear h1 h2 hst hrel hd0
              go_wp2
              exact ⟨⟨i + 1, e, by go_num, by go_num, by omega, by omega, by omega, fun h => by omega, HR, by trivial⟩, by simp [intOf]; omega⟩
          · have HR : Hid (posI (i + 1) (closeL 123 125 (s.data.toList.drop (i + 1)) d) = E) := by unfold Hid; rw [hst]; simp [h1, h2]
            have n1 : ((s[i].toNat : Int) == 123) = false := by rw [beq_eq_false_iff_ne]; intro h; exact h1 (UInt8.toNat_inj.1 (by show s[i].toNat = 123; omega))
            have n2 : ((s[i].toNat : Int) == 125) = false := by rw [beq_eq_false_iff_ne]; intro h; exact h2 (UInt8.toNat_inj.1 (by show s[i].toNat = 125; omega))
            have hd1 : d = 0 → i + 1 = p := fun h => by have e := hd0 h; subst e; exact absurd HO.out h1
            clear h1 h2 hst hrel
            go_wp2
            exact ⟨⟨i + 1, d, by go_num, rfl, by omega, by omega, by omega, hd1, HR, by trivial⟩, by simp [intOf]; omega⟩
      · have hE : E = -1 := by
          have := hrel.out
          rw [List.drop_eq_nil_of_le (by simp; omega)] at this
          exact this.symm
        subst hE
        go_wp2
        go_ret
        exact ⟨rfl, rfl⟩

set_option maxRecDepth 100000 in
set_option maxHeartbeats 1000000 in
theorem closing_any (s : ByteArray) (f : Nat) (w : World) (hs : s.size ≤ 140737488351232) (hp : f + 1 < s.size) (hb : s.get! (f + 1) = 40 ∨ s.get! (f + 1) = 123) :
    Calls Tryd.prog 68 #[.string s, .int .i64 f] w fun e w' => e = .returned (.int .i64 (endI s (f + 1))) ∧ w' = w := by
  obtain ⟨E, hE⟩ : ∃ E, endI s (f + 1) = E := ⟨_, rfl⟩
  rw [hE]
  have q0 : (f : Int) + 1 < s.size := by omega
  have hbp := bget s (f + 1) hp
  unfold endI at hE
  rw [← hbp] at hE hb
  obtain ⟨o, ho⟩ : ∃ o, s[f + 1] = o := ⟨_, rfl⟩
  rw [ho] at hE hb
  obtain ⟨c, hc⟩ : ∃ c, shutOf o = c := ⟨_, rfl⟩
  rw [hc] at hE
  have H0 := Lib.hid hE
  clear hE hbp
  have hcc : (o = 40 ∧ c = 41) ∨ (o = 123 ∧ c = 125) := by
    rcases hb with h | h
    · left; refine ⟨h, ?_⟩; rw [← hc, h]; decide
    · right; refine ⟨h, ?_⟩; rw [← hc, h]; decide
  clear hb hc
  have hof : (s[f + 1].toNat : Int) = o.toNat := by rw [ho]
  clear ho
  rcases hcc with ⟨rfl, rfl⟩ | ⟨rfl, rfl⟩
  · have hof' : (s[f + 1].toNat : Int) = 40 := hof
    clear hof
    go_enter Tryd.func68, Tryd.ntmps68
    go_wp2
    go_loopw [7, 8] (fun dv iv wi => ∃ (i d : Nat), iv = .int .i64 i ∧ dv = .int .i64 d ∧ i ≤ s.size ∧ d ≤ i ∧ Hid (posI i (closeL 40 41 (s.data.toList.drop i) (d + 1)) = E) ∧ wi = w) (fun _ iv _ => s.size - (intOf iv).toNat)
    case atStart => exact ⟨f + 2, 0, by go_num, rfl, by omega, by omega, H0, rfl⟩
    case round =>
      obtain ⟨i, d, rfl, rfl, hi, hdi, hrel, hwr⟩ := hrel
      obtain rfl : w = wr := hwr.symm
      by_cases hlt : i < s.size
      · have q1 : (i : Int) < s.size := by omega
        have hst := close_drop 40 41 s i (d + 1) hlt
        rw [hrel.out] at hst
        by_cases h1 : s[i] = 40
        · have HR : Hid (posI (i + 1) (closeL 40 41 (s.data.toList.drop (i + 1)) (d + 1 + 1)) = E) := by unfold Hid; rw [h1] at hst; simpa using hst.symm
          have hx : (s[i].toNat : Int) = 40 := by rw [h1]; rfl
          clear h1 hst hrel
          go_wp2
          exact ⟨⟨i + 1, d + 1, by go_num, by go_num, by omega, by omega, HR, by trivial⟩, by simp [intOf]; omega⟩
        · by_cases h2 : s[i] = 41
          · have hx : (s[i].toNat : Int) = 41 := by rw [h2]; rfl
            rw [h2] at hst
            by_cases h3 : d = 0
            · subst h3
              have hE : E = (i : Int) := by simpa using hst
              subst hE
              clear h1 h2 hst hrel
              go_wp2
              go_ret
              exact ⟨rfl, rfl⟩
            · obtain ⟨e, he⟩ : ∃ e, d = e + 1 := ⟨d - 1, by omega⟩
              subst he
              have HR : Hid (posI (i + 1) (closeL 40 41 (s.data.toList.drop (i + 1)) (e + 1)) = E) := by unfold Hid; rw [hst]; simp
              have q5 : ¬ ((e : Int) + 1) = 0 := by omega
              clear h1 h2 hst hrel h3
              go_wp2
              exact ⟨⟨i + 1, e, by go_num, by go_num, by omega, by omega, HR, by trivial⟩, by simp [intOf]; omega⟩
          · have HR : Hid (posI (i + 1) (closeL 40 41 (s.data.toList.drop (i + 1)) (d + 1)) = E) := by unfold Hid; rw [hst]; simp [h1, h2]
            have n1 : ((s[i].toNat : Int) == 40) = false := by rw [beq_eq_false_iff_ne]; intro h; exact h1 (UInt8.toNat_inj.1 (by show s[i].toNat = 40; omega))
            have n2 : ((s[i].toNat : Int) == 41) = false := by rw [beq_eq_false_iff_ne]; intro h; exact h2 (UInt8.toNat_inj.1 (by show s[i].toNat = 41; omega))
            clear h1 h2 hst hrel
            go_wp2
            exact ⟨⟨i + 1, d, by go_num, rfl, by omega, by omega, HR, by trivial⟩, by simp [intOf]; omega⟩
      · have hE : E = -1 := by
          have := hrel.out
          rw [List.drop_eq_nil_of_le (by simp; omega)] at this
          exact this.symm
        subst hE
        go_wp2
        go_ret
        exact ⟨rfl, rfl⟩
  · have hof' : (s[f + 1].toNat : Int) = 123 := hof
    clear hof
    go_enter Tryd.func68, Tryd.ntmps68
    go_wp2
    go_loopw [7, 8] (fun dv iv wi => ∃ (i d : Nat), iv = .int .i64 i ∧ dv = .int .i64 d ∧ i ≤ s.size ∧ d ≤ i ∧ Hid (posI i (closeL 123 125 (s.data.toList.drop i) (d + 1)) = E) ∧ wi = w) (fun _ iv _ => s.size - (intOf iv).toNat)
    case atStart => exact ⟨f + 2, 0, by go_num, rfl, by omega, by omega, H0, rfl⟩
    case round =>
      obtain ⟨i, d, rfl, rfl, hi, hdi, hrel, hwr⟩ := hrel
      obtain rfl : w = wr := hwr.symm
      by_cases hlt : i < s.size
      · have q1 : (i : Int) < s.size := by omega
        have hst := close_drop 123 125 s i (d + 1) hlt
        rw [hrel.out] at hst
        by_cases h1 : s[i] = 123
        · have HR : Hid (posI (i + 1) (closeL 123 125 (s.data.toList.drop (i + 1)) (d + 1 + 1)) = E) := by unfold Hid; rw [h1] at hst; simpa using hst.symm
          have hx : (s[i].toNat : Int) = 123 := by rw [h1]; rfl
          clear h1 hst hrel
          go_wp2
          exact ⟨⟨i + 1, d + 1, by go_num, by go_num, by omega, by omega, HR, by trivial⟩, by simp [intOf]; omega⟩
        · by_cases h2 : s[i] = 125
          · have hx : (s[i].toNat : Int) = 125 := by rw [h2]; rfl
            rw [h2] at hst
            by_cases h3 : d = 0
            · subst h3
              have hE : E = (i : Int) := by simpa using hst
              subst hE
              clear h1 h2 hst hrel
              go_wp2
              go_ret
              exact ⟨rfl, rfl⟩
            · obtain ⟨e, he⟩ : ∃ e, d = e + 1 := ⟨d - 1, by omega⟩
              subst he
              have HR : Hid (posI (i + 1) (closeL 123 125 (s.data.toList.drop (i + 1)) (e + 1)) = E) := by unfold Hid; rw [hst]; simp
              have q5 : ¬ ((e : Int) + 1) = 0 := by omega
              clear h1 h2 hst hrel h3
              go_wp2
              exact ⟨⟨i + 1, e, by go_num, by go_num, by omega, by omega, HR, by trivial⟩, by simp [intOf]; omega⟩
          · have HR : Hid (posI (i + 1) (closeL 123 125 (s.data.toList.drop (i + 1)) (d + 1)) = E) := by unfold Hid; rw [hst]; simp [h1, h2]
            have n1 : ((s[i].toNat : Int) == 123) = false := by rw [beq_eq_false_iff_ne]; intro h; exact h1 (UInt8.toNat_inj.1 (by show s[i].toNat = 123; omega))
            have n2 : ((s[i].toNat : Int) == 125) = false := by rw [beq_eq_false_iff_ne]; intro h; exact h2 (UInt8.toNat_inj.1 (by show s[i].toNat = 125; omega))
            clear h1 h2 hst hrel
            go_wp2
            exact ⟨⟨i + 1, d, by go_num, rfl, by omega, by omega, HR, by trivial⟩, by simp [intOf]; omega⟩
      · have hE : E = -1 := by
          have := hrel.out
          rw [List.drop_eq_nil_of_le (by simp; omega)] at this
          exact this.symm
        subst hE
        go_wp2
        go_ret
        exact ⟨rfl, rfl⟩
end Go.Proofs.YtmcemaphhlcjfaaDoor
