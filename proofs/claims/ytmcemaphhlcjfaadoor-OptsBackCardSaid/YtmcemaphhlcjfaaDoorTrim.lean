/- Trim, of both; the reference's Blank; condition: texts of at most 2^47 - 4096 bytes. -/
import Derived.Test.YtmcemaphhlcjfaaDoorSplit
namespace Go.Proofs.YtmcemaphhlcjfaaDoor
open Go.RowKit

theorem blankR_any (c : UInt8) (w : World) : Calls Tryd.prog 71 #[.int .u8 c.toNat] w fun e w' => e = .returned (.bool (isB c)) ∧ w' = w := by
  by_cases h1 : c = 32
  · subst h1
    go_enter Tryd.func71, Tryd.ntmps71
    go_wp2
    go_ret
    exact ⟨rfl, rfl⟩
  by_cases h2 : c = 9
  · subst h2
    go_enter Tryd.func71, Tryd.ntmps71
    go_wp2
    go_ret
    exact ⟨rfl, rfl⟩
  by_cases h3 : c = 10
  · subst h3
    go_enter Tryd.func71, Tryd.ntmps71
    go_wp2
    go_ret
    exact ⟨rfl, rfl⟩
  have hi : isB c = false := by simp [isB, h1, h2, h3]
  have n1 : ((c.toNat : Int) == 32) = false := by simp; intro h; exact h1 (UInt8.toNat_inj.1 (by show _ = 32; omega))
  have n2 : ((c.toNat : Int) == 9) = false := by simp; intro h; exact h2 (UInt8.toNat_inj.1 (by show _ = 9; omega))
  have n3 : ((c.toNat : Int) == 10) = false := by simp; intro h; exact h3 (UInt8.toNat_inj.1 (by show _ = 10; omega))
  rw [hi]
  go_enter Tryd.func71, Tryd.ntmps71
  go_wp2
  go_ret
  exact ⟨rfl, rfl⟩

/-- from f to t: the text without the blanks at its beginning and end -/
structure TrimAt (s : ByteArray) (f t : Nat) : Prop where
  ft : f ≤ t
  ts : t ≤ s.size
  before : ∀ j, j < f → isB (s.get! j) = true
  first : f < s.size → isB (s.get! f) = false
  behind : ∀ j, t ≤ j → j < s.size → isB (s.get! j) = true
  last : f < t → isB (s.get! (t - 1)) = false
theorem TrimAt.one {s : ByteArray} {f t f' t' : Nat} (h : TrimAt s f t) (k : TrimAt s f' t') : f = f' ∧ t = t' := by
  have hf : f = f' := by
    rcases Nat.lt_trichotomy f f' with c | c | c
    · have h1 := h.first (by have := k.ft; have := k.ts; omega)
      rw [k.before f c] at h1; cases h1
    · exact c
    · have h1 := k.first (by have := h.ft; have := h.ts; omega)
      rw [h.before f' c] at h1; cases h1
  subst hf
  refine ⟨rfl, ?_⟩
  have := h.ft; have := k.ft; have := h.ts; have := k.ts
  rcases Nat.lt_trichotomy t t' with c | c | c
  · have h1 := k.last (by omega)
    rw [h.behind (t' - 1) (by omega) (by omega)] at h1; cases h1
  · exact c
  · have h1 := h.last (by omega)
    rw [k.behind (t - 1) (by omega) (by omega)] at h1; cases h1
open Classical in
noncomputable def trimB (s : ByteArray) : ByteArray := if h : ∃ f t, TrimAt s f t then s.extract h.choose h.choose_spec.choose else s
theorem TrimAt.is {s : ByteArray} {f t : Nat} (h : TrimAt s f t) : s.extract f t = trimB s := by
  have hx : ∃ f t, TrimAt s f t := ⟨f, t, h⟩
  unfold trimB
  rw [dif_pos hx]
  obtain ⟨e1, e2⟩ := h.one hx.choose_spec.choose_spec
  exact congr (congrArg s.extract e1) e2

set_option maxRecDepth 100000 in
set_option maxHeartbeats 1000000 in
theorem Trim26_any (s : ByteArray) (w : World) (hs : s.size ≤ 140737488351232) :
    Calls Tryd.prog 62 #[.string s] w fun e w' => e = .returned (.string (trimB s)) ∧ w' = w := by
  go_enter Tryd.func62, Tryd.ntmps62
  go_wp2
  go_loop [3] (fun i => ∃ f : Nat, i = .int .i64 f ∧ f ≤ s.size ∧ Hid (∀ j, j < f → isB (s.get! j) = true)) (fun i => s.size - (intOf i).toNat)
  case atStart => exact ⟨0, rfl, Nat.zero_le _, fun j hj => absurd hj (Nat.not_lt_zero _)⟩
  case round =>
    obtain ⟨f, rfl, hf, hrel⟩ := hrel
    have hrest : (f < s.size → isB (s.get! f) = false) → True := fun _ => trivial
    by_cases hlt : f < s.size
    · have hB := Lib.hid (blank_any (s[f]))
      cases hq : isB s[f]
      · rw [hq] at hB
        have HQ : Hid (isB (s.get! f) = false) := by unfold Hid; rw [← bget s f hlt]; exact hq
        clear hq hrest
        have HBe := hrel
        have HFi : Hid (f < s.size → isB (s.get! f) = false) := fun _ => HQ.out
        clear hrel
        go_wp2_with (go_at_call 93; refine (hB.out _).mono ?_; rintro e w' ⟨rfl, rfl⟩)
        go_loop [4] (fun i => ∃ t : Nat, i = .int .i64 t ∧ f ≤ t ∧ t ≤ s.size ∧ Hid (∀ j, t ≤ j → j < s.size → isB (s.get! j) = true)) (fun i => (intOf i).toNat)
        case atStart => exact ⟨s.size, rfl, hf, Nat.le_refl _, fun j h1 h2 => by omega⟩
        case round =>
          obtain ⟨t, rfl, hft, hts, hbe⟩ := hrel
          by_cases hlt2 : f < t
          · have wt : IntKind.i64.wrap ((t : Int) - 1) = ((t - 1 : Nat) : Int) := by rw [IntWalk.i64_in _ (by omega)]; omega
            have hlt3 : t - 1 < s.size := by omega
            have hB2 := Lib.hid (blank_any (s[t - 1]))
            cases hq2 : isB s[t - 1]
            · rw [hq2] at hB2
              have HQ2 : Hid (isB (s.get! (t - 1)) = false) := by unfold Hid; rw [← bget s (t - 1) hlt3]; exact hq2
              clear hq2
              have HT := Lib.hid (TrimAt.is ⟨hft, hts, HBe.out, HFi.out, hbe.out, fun _ => HQ2.out⟩)
              go_wp2_with (go_at_call 93; refine (hB2.out _).mono ?_; rintro e w' ⟨rfl, rfl⟩)
              go_ret
              exact ⟨ret_str HT.out, rfl⟩
            · rw [hq2] at hB2
              have HQ2 : Hid (isB (s.get! (t - 1)) = true) := by unfold Hid; rw [← bget s (t - 1) hlt3]; exact hq2
              clear hq2
              go_wp2_with (go_at_call 93; refine (hB2.out _).mono ?_; rintro e w' ⟨rfl, rfl⟩)
              exact ⟨⟨t - 1, rfl, by omega, by omega, fun j h1 h2 => by
                by_cases c : j = t - 1
                · rw [c]; exact HQ2.out
                · exact hbe.out j (by omega) h2⟩, by simp [intOf]; omega⟩
          · obtain rfl : f = t := by omega
            have HT := Lib.hid (TrimAt.is ⟨hft, hts, HBe.out, HFi.out, hbe.out, fun h => absurd h (Nat.lt_irrefl _)⟩)
            go_wp2
            go_ret
            exact ⟨ret_str (by rw [← HT.out]; simp), rfl⟩
      · rw [hq] at hB
        have HQ : Hid (isB (s.get! f) = true) := by unfold Hid; rw [← bget s f hlt]; exact hq
        clear hq
        go_wp2_with (go_at_call 93; refine (hB.out _).mono ?_; rintro e w' ⟨rfl, rfl⟩)
        exact ⟨⟨f + 1, by go_num, by omega, fun j hj => by
          rcases Nat.lt_or_eq_of_le (Nat.le_of_lt_succ hj) with c | c
          · exact hrel.out j c
          · rw [c]; exact HQ.out⟩, by simp [intOf]; omega⟩
    · have HBe := hrel
      have HFi : Hid (f < s.size → isB (s.get! f) = false) := fun h => absurd h hlt
      clear hrel hrest
      go_wp2
      go_loop [4] (fun i => ∃ t : Nat, i = .int .i64 t ∧ f ≤ t ∧ t ≤ s.size ∧ Hid (∀ j, t ≤ j → j < s.size → isB (s.get! j) = true)) (fun i => (intOf i).toNat)
      case atStart => exact ⟨s.size, rfl, hf, Nat.le_refl _, fun j h1 h2 => by omega⟩
      case round =>
        obtain ⟨t, rfl, hft, hts, hbe⟩ := hrel
        by_cases hlt2 : f < t
        · have wt : IntKind.i64.wrap ((t : Int) - 1) = ((t - 1 : Nat) : Int) := by rw [IntWalk.i64_in _ (by omega)]; omega
          have hlt3 : t - 1 < s.size := by omega
          have hB2 := Lib.hid (blank_any (s[t - 1]))
          cases hq2 : isB s[t - 1]
          · rw [hq2] at hB2
            have HQ2 : Hid (isB (s.get! (t - 1)) = false) := by unfold Hid; rw [← bget s (t - 1) hlt3]; exact hq2
            clear hq2
            have HT := Lib.hid (TrimAt.is ⟨hft, hts, HBe.out, HFi.out, hbe.out, fun _ => HQ2.out⟩)
            go_wp2_with (go_at_call 93; refine (hB2.out _).mono ?_; rintro e w' ⟨rfl, rfl⟩)
            go_ret
            exact ⟨ret_str HT.out, rfl⟩
          · rw [hq2] at hB2
            have HQ2 : Hid (isB (s.get! (t - 1)) = true) := by unfold Hid; rw [← bget s (t - 1) hlt3]; exact hq2
            clear hq2
            go_wp2_with (go_at_call 93; refine (hB2.out _).mono ?_; rintro e w' ⟨rfl, rfl⟩)
            exact ⟨⟨t - 1, rfl, by omega, by omega, fun j h1 h2 => by
              by_cases c : j = t - 1
              · rw [c]; exact HQ2.out
              · exact hbe.out j (by omega) h2⟩, by simp [intOf]; omega⟩
        · obtain rfl : f = t := by omega
          have HT := Lib.hid (TrimAt.is ⟨hft, hts, HBe.out, HFi.out, hbe.out, fun h => absurd h (Nat.lt_irrefl _)⟩)
          go_wp2
          go_ret
          exact ⟨ret_str (by rw [← HT.out]; simp), rfl⟩
set_option maxRecDepth 100000 in
set_option maxHeartbeats 1000000 in
theorem Trim27_any (s : ByteArray) (w : World) (hs : s.size ≤ 140737488351232) :
    Calls Tryd.prog 70 #[.string s] w fun e w' => e = .returned (.string (trimB s)) ∧ w' = w := by
  go_enter Tryd.func70, Tryd.ntmps70
  go_wp2
  go_loop [3] (fun i => ∃ f : Nat, i = .int .i64 f ∧ f ≤ s.size ∧ Hid (∀ j, j < f → isB (s.get! j) = true)) (fun i => s.size - (intOf i).toNat)
  case atStart => exact ⟨0, rfl, Nat.zero_le _, fun j hj => absurd hj (Nat.not_lt_zero _)⟩
  case round =>
    obtain ⟨f, rfl, hf, hrel⟩ := hrel
    have hrest : (f < s.size → isB (s.get! f) = false) → True := fun _ => trivial
    by_cases hlt : f < s.size
    · have hB := Lib.hid (blankR_any (s[f]))
      cases hq : isB s[f]
      · rw [hq] at hB
        have HQ : Hid (isB (s.get! f) = false) := by unfold Hid; rw [← bget s f hlt]; exact hq
        clear hq hrest
        have HBe := hrel
        have HFi : Hid (f < s.size → isB (s.get! f) = false) := fun _ => HQ.out
        clear hrel
        go_wp2_with (go_at_call 71; refine (hB.out _).mono ?_; rintro e w' ⟨rfl, rfl⟩)
        go_loop [4] (fun i => ∃ t : Nat, i = .int .i64 t ∧ f ≤ t ∧ t ≤ s.size ∧ Hid (∀ j, t ≤ j → j < s.size → isB (s.get! j) = true)) (fun i => (intOf i).toNat)
        case atStart => exact ⟨s.size, rfl, hf, Nat.le_refl _, fun j h1 h2 => by omega⟩
        case round =>
          obtain ⟨t, rfl, hft, hts, hbe⟩ := hrel
          by_cases hlt2 : f < t
          · have wt : IntKind.i64.wrap ((t : Int) - 1) = ((t - 1 : Nat) : Int) := by rw [IntWalk.i64_in _ (by omega)]; omega
            have hlt3 : t - 1 < s.size := by omega
            have hB2 := Lib.hid (blankR_any (s[t - 1]))
            cases hq2 : isB s[t - 1]
            · rw [hq2] at hB2
              have HQ2 : Hid (isB (s.get! (t - 1)) = false) := by unfold Hid; rw [← bget s (t - 1) hlt3]; exact hq2
              clear hq2
              have HT := Lib.hid (TrimAt.is ⟨hft, hts, HBe.out, HFi.out, hbe.out, fun _ => HQ2.out⟩)
              go_wp2_with (go_at_call 71; refine (hB2.out _).mono ?_; rintro e w' ⟨rfl, rfl⟩)
              go_ret
              exact ⟨ret_str HT.out, rfl⟩
            · rw [hq2] at hB2
              have HQ2 : Hid (isB (s.get! (t - 1)) = true) := by unfold Hid; rw [← bget s (t - 1) hlt3]; exact hq2
              clear hq2
              go_wp2_with (go_at_call 71; refine (hB2.out _).mono ?_; rintro e w' ⟨rfl, rfl⟩)
              exact ⟨⟨t - 1, rfl, by omega, by omega, fun j h1 h2 => by
                by_cases c : j = t - 1
                · rw [c]; exact HQ2.out
                · exact hbe.out j (by omega) h2⟩, by simp [intOf]; omega⟩
          · obtain rfl : f = t := by omega
            have HT := Lib.hid (TrimAt.is ⟨hft, hts, HBe.out, HFi.out, hbe.out, fun h => absurd h (Nat.lt_irrefl _)⟩)
            go_wp2
            go_ret
            exact ⟨ret_str (by rw [← HT.out]; simp), rfl⟩
      · rw [hq] at hB
        have HQ : Hid (isB (s.get! f) = true) := by unfold Hid; rw [← bget s f hlt]; exact hq
        clear hq
        go_wp2_with (go_at_call 71; refine (hB.out _).mono ?_; rintro e w' ⟨rfl, rfl⟩)
        exact ⟨⟨f + 1, by go_num, by omega, fun j hj => by
          rcases Nat.lt_or_eq_of_le (Nat.le_of_lt_succ hj) with c | c
          · exact hrel.out j c
          · rw [c]; exact HQ.out⟩, by simp [intOf]; omega⟩
    · have HBe := hrel
      have HFi : Hid (f < s.size → isB (s.get! f) = false) := fun h => absurd h hlt
      clear hrel hrest
      go_wp2
      go_loop [4] (fun i => ∃ t : Nat, i = .int .i64 t ∧ f ≤ t ∧ t ≤ s.size ∧ Hid (∀ j, t ≤ j → j < s.size → isB (s.get! j) = true)) (fun i => (intOf i).toNat)
      case atStart => exact ⟨s.size, rfl, hf, Nat.le_refl _, fun j h1 h2 => by omega⟩
      case round =>
        obtain ⟨t, rfl, hft, hts, hbe⟩ := hrel
        by_cases hlt2 : f < t
        · have wt : IntKind.i64.wrap ((t : Int) - 1) = ((t - 1 : Nat) : Int) := by rw [IntWalk.i64_in _ (by omega)]; omega
          have hlt3 : t - 1 < s.size := by omega
          have hB2 := Lib.hid (blankR_any (s[t - 1]))
          cases hq2 : isB s[t - 1]
          · rw [hq2] at hB2
            have HQ2 : Hid (isB (s.get! (t - 1)) = false) := by unfold Hid; rw [← bget s (t - 1) hlt3]; exact hq2
            clear hq2
            have HT := Lib.hid (TrimAt.is ⟨hft, hts, HBe.out, HFi.out, hbe.out, fun _ => HQ2.out⟩)
            go_wp2_with (go_at_call 71; refine (hB2.out _).mono ?_; rintro e w' ⟨rfl, rfl⟩)
            go_ret
            exact ⟨ret_str HT.out, rfl⟩
          · rw [hq2] at hB2
            have HQ2 : Hid (isB (s.get! (t - 1)) = true) := by unfold Hid; rw [← bget s (t - 1) hlt3]; exact hq2
            clear hq2
            go_wp2_with (go_at_call 71; refine (hB2.out _).mono ?_; rintro e w' ⟨rfl, rfl⟩)
            exact ⟨⟨t - 1, rfl, by omega, by omega, fun j h1 h2 => by
              by_cases c : j = t - 1
              · rw [c]; exact HQ2.out
              · exact hbe.out j (by omega) h2⟩, by simp [intOf]; omega⟩
        · obtain rfl : f = t := by omega
          have HT := Lib.hid (TrimAt.is ⟨hft, hts, HBe.out, HFi.out, hbe.out, fun h => absurd h (Nat.lt_irrefl _)⟩)
          go_wp2
          go_ret
          exact ⟨ret_str (by rw [← HT.out]; simp), rfl⟩
end Go.Proofs.YtmcemaphhlcjfaaDoor
