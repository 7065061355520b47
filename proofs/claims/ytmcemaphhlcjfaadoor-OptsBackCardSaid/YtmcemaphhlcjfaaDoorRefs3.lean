/- The first place of a stop that is not within a reference, in package refs and in the reference; conditions: texts of at most 2^47 - 4096 bytes. -/
import Derived.Test.YtmcemaphhlcjfaaDoorRefs2
import Derived.Test.YtmcemaphhlcjfaaDoorPatRef
namespace Go.Proofs.YtmcemaphhlcjfaaDoor
open Go.RowKit

def scanF (s t : ByteArray) : Nat → Nat → Int
  | 0, _ => -1
  | f + 1, i => if i < s.size then (if s.get! i = 36 then (if i + 1 < s.size ∧ (s.get! (i + 1) = 40 ∨ s.get! (i + 1) = 123) then (if endI s (i + 1) < 0 then -1 else scanF s t f ((endI s (i + 1)).toNat + 1)) else scanF s t f (i + 2)) else if 0 ≤ Lib.indexByte t.data.toList (s.get! i) then (i : Int) else scanF s t f (i + 1)) else -1
theorem scan_end (s t : ByteArray) : ∀ f i, s.size ≤ i → scanF s t f i = -1
  | 0, _, _ => rfl
  | f + 1, i, h => by rw [scanF, if_neg (by omega)]
def scanI (s t : ByteArray) : Int := scanF s t (s.size + 1) 0
theorem ib_back (c : UInt8) : (c.toNat : Int).toNat.toUInt8 = c := by simp

set_option maxRecDepth 100000 in
set_option maxHeartbeats 2000000 in
theorem Scan_any (s t : ByteArray) (w : World) (hs : s.size ≤ 140737488351232) (_ : t.size ≤ 140737488351232) :
    Calls Tryd.prog 33 #[.string s, .string t] w fun e w' => e = .returned (.int .i64 (scanI s t)) ∧ w' = w := by
  obtain ⟨E, hE⟩ : ∃ E, scanI s t = E := ⟨_, rfl⟩
  rw [hE]
  have HE := Lib.hid hE
  clear hE
  have HIX := Lib.hid (fun (c : UInt8) w => (show Calls Tryd.prog 50 #[.string t, .int .u8 c.toNat] w (fun e w' => e = .returned (.int .i64 (Lib.indexByte t.data.toList c)) ∧ w' = w) from by have h := Tryd.strings_IndexByte t c.toNat w; rw [ib_back] at h; exact h))
  have HEND := Lib.hid (fun (p : Nat) w (h1 : p + 1 < s.size) (h2 : s.get! (p + 1) = 40 ∨ s.get! (p + 1) = 123) => end_any s (p + 1) w hs h1 h2)
  go_enter Tryd.func33, Tryd.ntmps33
  go_wp2
  go_loopw [5] (fun iv wi => ∃ (i f : Nat), iv = .int .i64 i ∧ i ≤ s.size + 1 ∧ s.size < f + i ∧ Hid (scanF s t f i = E) ∧ wi = w) (fun iv _ => s.size + 1 - (intOf iv).toNat)
  case atStart => exact ⟨0, s.size + 1, rfl, by omega, by omega, HE, rfl⟩
  case round =>
    obtain ⟨i, f, rfl, hi, hf, hrel, hwr⟩ := hrel
    obtain rfl : w = wr := hwr.symm
    by_cases hlt : i < s.size
    · have q1 : (i : Int) < s.size := by omega
      obtain ⟨f, rfl⟩ : ∃ g, f = g + 1 := ⟨f - 1, by omega⟩
      have hst := hrel.out
      rw [scanF, if_pos hlt] at hst
      have hb := bget s i hlt
      by_cases h1 : s.get! i = 36
      · rw [if_pos h1] at hst
        have hx : (s[i].toNat : Int) = 36 := by rw [hb, h1]; rfl
        by_cases h2 : i + 1 < s.size
        · have q2 : (i : Int) + 1 < s.size := by omega
          have hb2 := bget s (i + 1) h2
          by_cases h3 : s.get! (i + 1) = 40 ∨ s.get! (i + 1) = 123
          · rw [if_pos ⟨h2, h3⟩] at hst
            have HEn := Lib.hid (HEND.out i w h2 h3)
            have hin := endI_in s (i + 1)
            obtain ⟨e0, he0⟩ : ∃ e0, endI s (i + 1) = e0 := ⟨_, rfl⟩
            rw [he0] at hst HEn hin
            clear he0
            have h4 : (s[i + 1].toNat : Int) = 40 ∨ (s[i + 1].toNat : Int) = 123 := by
              rcases h3 with h | h
              · left; rw [hb2, h]; rfl
              · right; rw [hb2, h]; rfl
            clear h1 h3 hb hb2 hrel
            rcases hin with rfl | ⟨k, rfl, hk1, hk2⟩
            · have hE : E = -1 := by simpa using hst.symm
              subst hE
              clear hst
              rcases h4 with h4 | h4
              all_goals
                go_wp2_with (go_at_call 60; refine HEn.out.mono ?_; rintro e w' ⟨rfl, rfl⟩)
                go_ret
                exact ⟨rfl, rfl⟩
            · have HS : Hid (scanF s t f (k + 1) = E) := by rw [if_neg (by omega)] at hst; simpa [Hid] using hst
              have q5 : ¬ (k : Int) < 0 := by omega
              clear hst
              rcases h4 with h4 | h4
              all_goals
                go_wp2_with (go_at_call 60; refine HEn.out.mono ?_; rintro e w' ⟨rfl, rfl⟩)
                exact ⟨⟨k + 1, f, by go_num, by omega, by omega, HS, by trivial⟩, by simp [intOf]; omega⟩
          · rw [if_neg (by intro h; exact h3 h.2)] at hst
            have HS := Lib.hid hst
            have n1 : ((s[i + 1].toNat : Int) == 40) = false := by rw [beq_eq_false_iff_ne]; intro h; exact h3 (.inl (by rw [← hb2]; exact UInt8.toNat_inj.1 (by show s[i + 1].toNat = 40; omega)))
            have n2 : ((s[i + 1].toNat : Int) == 123) = false := by rw [beq_eq_false_iff_ne]; intro h; exact h3 (.inr (by rw [← hb2]; exact UInt8.toNat_inj.1 (by show s[i + 1].toNat = 123; omega)))
            have m1 : ((s[i + 1].toNat : Int) != 40) = true := by rw [bne, n1]; rfl
            have m2 : ((s[i + 1].toNat : Int) != 123) = true := by rw [bne, n2]; rfl
            clear h1 h3 hb hb2 hrel hst
            go_wp2
            exact ⟨⟨i + 2, f, by go_num, by omega, by omega, HS, by trivial⟩, by simp [intOf]; omega⟩
        · rw [if_neg (by intro h; exact h2 h.1)] at hst
          have HS := Lib.hid hst
          have q2 : ¬ (i : Int) + 1 < s.size := by omega
          clear h1 hb hrel hst
          go_wp2
          exact ⟨⟨i + 2, f, by go_num, by omega, by omega, HS, by trivial⟩, by simp [intOf]; omega⟩
      · rw [if_neg h1] at hst
        have n1 : ((s[i].toNat : Int) == 36) = false := by rw [beq_eq_false_iff_ne]; intro h; exact h1 (by rw [← hb]; exact UInt8.toNat_inj.1 (by show s[i].toNat = 36; omega))
        have m1 : ((s[i].toNat : Int) != 36) = true := by rw [bne, n1]; rfl
        have HC := Lib.hid (HIX.out (s[i]) w)
        rw [hb] at HC
        have hge := Lib.indexByte_ge t.data.toList (s.get! i)
        obtain ⟨z, hz⟩ : ∃ z, Lib.indexByte t.data.toList (s.get! i) = z := ⟨_, rfl⟩
        rw [hz] at HC hst hge
        rw [← hb] at HC
        clear hz h1 hb hrel
        by_cases h5 : 0 ≤ z
        · rw [if_pos h5] at hst
          have hE : E = (i : Int) := hst.symm
          subst hE
          clear hst
          go_wp2_with (go_at_call 50; refine HC.out.mono ?_; rintro e w' ⟨rfl, rfl⟩)
          go_ret
          exact ⟨rfl, rfl⟩
        · rw [if_neg h5] at hst
          have HS := Lib.hid hst
          clear hst
          go_wp2_with (go_at_call 50; refine HC.out.mono ?_; rintro e w' ⟨rfl, rfl⟩)
          exact ⟨⟨i + 1, f, by go_num, by omega, by omega, HS, by trivial⟩, by simp [intOf]; omega⟩
    · have hE : E = -1 := by rw [← hrel.out, scan_end s t f i (by omega)]
      subst hE
      have q1 : ¬ (i : Int) < s.size := by omega
      go_wp2
      go_ret
      exact ⟨rfl, rfl⟩
set_option maxRecDepth 100000 in
set_option maxHeartbeats 2000000 in
theorem ScanR_any (s t : ByteArray) (w : World) (hs : s.size ≤ 140737488351232) (ht : t.size ≤ 140737488351232) :
    Calls Tryd.prog 38 #[.string s, .string t] w fun e w' => e = .returned (.int .i64 (scanI s t)) ∧ w' = w := by
  obtain ⟨E, hE⟩ : ∃ E, scanI s t = E := ⟨_, rfl⟩
  rw [hE]
  have HE := Lib.hid hE
  clear hE
  have HIX := Lib.hid (fun (c : UInt8) w => refIndex_any t c.toNat c rfl w ht)
  have HEND := Lib.hid (fun (p : Nat) w (h1 : p + 1 < s.size) (h2 : s.get! (p + 1) = 40 ∨ s.get! (p + 1) = 123) => closing_any s p w hs h1 h2)
  go_enter Tryd.func38, Tryd.ntmps38
  go_wp2
  go_loopw [5] (fun iv wi => ∃ (i f : Nat), iv = .int .i64 i ∧ i ≤ s.size + 1 ∧ s.size < f + i ∧ Hid (scanF s t f i = E) ∧ wi = w) (fun iv _ => s.size + 1 - (intOf iv).toNat)
  case atStart => exact ⟨0, s.size + 1, rfl, by omega, by omega, HE, rfl⟩
  case round =>
    obtain ⟨i, f, rfl, hi, hf, hrel, hwr⟩ := hrel
    obtain rfl : w = wr := hwr.symm
    by_cases hlt : i < s.size
    · have q1 : (i : Int) < s.size := by omega
      obtain ⟨f, rfl⟩ : ∃ g, f = g + 1 := ⟨f - 1, by omega⟩
      have hst := hrel.out
      rw [scanF, if_pos hlt] at hst
      have hb := bget s i hlt
      by_cases h1 : s.get! i = 36
      · rw [if_pos h1] at hst
        have hx : (s[i].toNat : Int) = 36 := by rw [hb, h1]; rfl
        by_cases h2 : i + 1 < s.size
        · have q2 : (i : Int) + 1 < s.size := by omega
          have hb2 := bget s (i + 1) h2
          by_cases h3 : s.get! (i + 1) = 40 ∨ s.get! (i + 1) = 123
          · rw [if_pos ⟨h2, h3⟩] at hst
            have HEn := Lib.hid (HEND.out i w h2 h3)
            have hin := endI_in s (i + 1)
            obtain ⟨e0, he0⟩ : ∃ e0, endI s (i + 1) = e0 := ⟨_, rfl⟩
            rw [he0] at hst HEn hin
            clear he0
            have h4 : (s[i + 1].toNat : Int) = 40 ∨ (s[i + 1].toNat : Int) = 123 := by
              rcases h3 with h | h
              · left; rw [hb2, h]; rfl
              · right; rw [hb2, h]; rfl
            clear h1 h3 hb hb2 hrel
            rcases hin with rfl | ⟨k, rfl, hk1, hk2⟩
            · have hE : E = -1 := by simpa using hst.symm
              subst hE
              clear hst
              rcases h4 with h4 | h4
              all_goals
                go_wp2_with (go_at_call 68; refine HEn.out.mono ?_; rintro e w' ⟨rfl, rfl⟩)
                go_ret
                exact ⟨rfl, rfl⟩
            · have HS : Hid (scanF s t f (k + 1) = E) := by rw [if_neg (by omega)] at hst; simpa [Hid] using hst
              have q5 : ¬ (k : Int) < 0 := by omega
              clear hst
              rcases h4 with h4 | h4
              all_goals
                go_wp2_with (go_at_call 68; refine HEn.out.mono ?_; rintro e w' ⟨rfl, rfl⟩)
                exact ⟨⟨k + 1, f, by go_num, by omega, by omega, HS, by trivial⟩, by simp [intOf]; omega⟩
          · rw [if_neg (by intro h; exact h3 h.2)] at hst
            have HS := Lib.hid hst
            have n1 : ((s[i + 1].toNat : Int) == 40) = false := by rw [beq_eq_false_iff_ne]; intro h; exact h3 (.inl (by rw [← hb2]; exact UInt8.toNat_inj.1 (by show s[i + 1].toNat = 40; omega)))
            have n2 : ((s[i + 1].toNat : Int) == 123) = false := by rw [beq_eq_false_iff_ne]; intro h; exact h3 (.inr (by rw [← hb2]; exact UInt8.toNat_inj.1 (by show s[i + 1].toNat = 123; omega)))
            have m1 : ((s[i + 1].toNat : Int) != 40) = true := by rw [bne, n1]; rfl
            have m2 : ((s[i + 1].toNat : Int) != 123) = true := by rw [bne, n2]; rfl
            clear h1 h3 hb hb2 hrel hst
            go_wp2
            exact ⟨⟨i + 2, f, by go_num, by omega, by omega, HS, by trivial⟩, by simp [intOf]; omega⟩
        · rw [if_neg (by intro h; exact h2 h.1), scan_end s t f (i + 2) (by omega)] at hst
          have HS : Hid (scanF s t f (i + 1) = E) := by unfold Hid; rw [scan_end s t f (i + 1) (by omega), hst]
          have q2 : ¬ (i : Int) + 1 < s.size := by omega
          clear h1 hb hrel hst
          go_wp2
          exact ⟨⟨i + 1, f, by go_num, by omega, by omega, HS, by trivial⟩, by simp [intOf]; omega⟩
      · rw [if_neg h1] at hst
        have n1 : ((s[i].toNat : Int) == 36) = false := by rw [beq_eq_false_iff_ne]; intro h; exact h1 (by rw [← hb]; exact UInt8.toNat_inj.1 (by show s[i].toNat = 36; omega))
        have m1 : ((s[i].toNat : Int) != 36) = true := by rw [bne, n1]; rfl
        have HC := Lib.hid (HIX.out (s[i]) w)
        rw [hb] at HC
        have hge := Lib.indexByte_ge t.data.toList (s.get! i)
        obtain ⟨z, hz⟩ : ∃ z, Lib.indexByte t.data.toList (s.get! i) = z := ⟨_, rfl⟩
        rw [hz] at HC hst hge
        rw [← hb] at HC
        clear hz h1 hb hrel
        by_cases h5 : 0 ≤ z
        · rw [if_pos h5] at hst
          have hE : E = (i : Int) := hst.symm
          subst hE
          clear hst
          go_wp2_with (go_at_call 45; refine HC.out.mono ?_; rintro e w' ⟨rfl, rfl⟩)
          go_ret
          exact ⟨rfl, rfl⟩
        · rw [if_neg h5] at hst
          have HS := Lib.hid hst
          clear hst
          go_wp2_with (go_at_call 45; refine HC.out.mono ?_; rintro e w' ⟨rfl, rfl⟩)
          exact ⟨⟨i + 1, f, by go_num, by omega, by omega, HS, by trivial⟩, by simp [intOf]; omega⟩
    · have hE : E = -1 := by rw [← hrel.out, scan_end s t f i (by omega)]
      subst hE
      have q1 : ¬ (i : Int) < s.size := by omega
      go_wp2
      go_ret
      exact ⟨rfl, rfl⟩
end Go.Proofs.YtmcemaphhlcjfaaDoor
