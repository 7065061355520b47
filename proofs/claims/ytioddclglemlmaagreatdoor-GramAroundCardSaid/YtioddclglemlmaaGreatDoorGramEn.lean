/- The laws' ends: does a text end with what parts commands; no condition. -/
import Derived.Test.YtioddclglemlmaaGreatDoorGramR
import Derived.Test.YtioddclglemlmaaGreatDoorPlB
import Derived.Test.YtioddclglemlmaaGreatDoorLexIL
namespace Go.Proofs.YtioddclglemlmaaGreatDoor
open Go.RowKit

/-- all bytes from k on are blanks -/
def BlankFrom (s : ByteArray) (k : Nat) : Prop := ∀ j, k ≤ j → j < s.size → s.get! j = 32 ∨ s.get! j = 9
theorem endB_at {s : ByteArray} {k : Nat} (h : EndB s.data.toList) (hb : BlankFrom s k) : ∃ j, j < k ∧ (s.get! j = 59 ∨ s.get! j = 10) ∧ BlankFrom s (j + 1) := by
  obtain ⟨p, c, q, h1, h2, h3⟩ := h
  have hs : s.size = p.length + (q.length + 1) := by
    have := congrArg List.length h1
    rw [Array.length_toList, List.length_append, List.length_cons] at this
    exact this
  have hc : s.get! p.length = c := by
    have hl : p.length < s.data.toList.length := by rw [Array.length_toList]; show p.length < s.size; omega
    rw [← get_list s p.length (by omega)]
    have : s.data.toList[p.length]? = some c := by rw [h1, List.getElem?_append_right (Nat.le_refl _), Nat.sub_self]; rfl
    rw [List.getElem?_eq_getElem hl] at this
    exact Option.some.inj this
  refine ⟨p.length, ?_, by rw [hc]; exact h2, fun j h4 h5 => ?_⟩
  · by_cases q1 : p.length < k
    · exact q1
    · have := hb p.length (by omega) (by omega)
      rw [hc] at this
      rcases h2 with e | e <;> rw [e] at this <;> rcases this with e2 | e2 <;> cases e2
  · have hl : j < s.data.toList.length := by rw [Array.length_toList]; exact h5
    have : s.data.toList[j]? = q[j - p.length - 1]? := by
      rw [h1, List.getElem?_append_right (by omega)]
      obtain ⟨m, hm⟩ : ∃ m, j - p.length = m + 1 := ⟨j - p.length - 1, by omega⟩
      rw [hm, List.getElem?_cons_succ]; rfl
    rw [List.getElem?_eq_getElem hl] at this
    have hm := List.mem_of_getElem? this.symm
    rw [get_list s j h5] at hm
    exact h3 _ hm

def EndA (s : ByteArray) (e : Ending) : Prop := ∃ b, e = .returned (.bool b) ∧ (EndB s.data.toList → b = true)
set_option maxRecDepth 100000 in
set_option maxHeartbeats 1000000 in
theorem lends_any (s : ByteArray) (hs : s.size ≤ 1000000) (w : World) : Calls Tryz.prog 9 #[.string s] w fun e w' => EndA s e ∧ ∃ m, w' = w.drewN m := by
  go_enter Tryz.func9, Tryz.ntmps9
  go_wp2
  go_loopw [3] (fun i wi => ∃ k : Nat, i = .int .i64 k ∧ k ≤ s.size ∧ Hid (BlankFrom s k) ∧ ∃ m, wi = w.drewN m) (fun i _ => (intOf i).toNat)
  case atStart => exact ⟨s.size, rfl, Nat.le_refl _, (fun j h1 h2 => absurd h2 (by omega) : BlankFrom s s.size), 0, rfl⟩
  case round =>
    obtain ⟨k, rfl, hk, hbf, m, hwr⟩ := hrel
    have HWR := Lib.hid hwr
    clear hwr
    cases k with
    | zero =>
      have hno : Hid (¬ EndB s.data.toList) := fun h => by
        obtain ⟨j, hj, _⟩ := endB_at h hbf.out
        omega
      go_wp2
      go_ret
      exact ⟨⟨false, rfl, fun h => absurd h hno.out⟩, _, HWR.out⟩
    | succ k =>
      have hk' : k < s.size := by omega
      have hg : s.get! k = s[k] := by rw [← get_list s k hk']; rfl
      have e1 : ((k + 1 : Nat) : Int) - 1 = k := by omega
      by_cases q : s[k] = 32 ∨ s[k] = 9
      · have hbf2 : Hid (BlankFrom s k) := fun j h1 h2 => by
          by_cases e : j = k
          · subst e; rw [hg]; exact q
          · exact hbf.out j (by omega) h2
        generalize hc : s[k] = c at q
        rcases q with rfl | rfl
        · go_wp2
          exact ⟨⟨k, by go_num, by omega, hbf2, _, HWR.out⟩, by simp [intOf]⟩
        · go_wp2
          exact ⟨⟨k, by go_num, by omega, hbf2, _, HWR.out⟩, by simp [intOf]⟩
      · have q32 : ¬ s[k] = 32 := fun e => q (.inl e)
        have q9 : ¬ s[k] = 9 := fun e => q (.inr e)
        have hend : Hid (EndB s.data.toList → s[k] = 59 ∨ s[k] = 10) := fun h => by
          obtain ⟨j, h1, h2, h3⟩ := endB_at h hbf.out
          by_cases e : j = k
          · subst e; rw [← hg]; exact h2
          · have := h3 k (by omega) hk'
            rw [hg] at this
            exact absurd this q
        generalize hc : s[k] = c at q32 q9 hend
        clear q hg
        have b32 : ((c.toNat : Int) == 32) = false := by have := u8_beq c 32; rw [show ((c.toNat : Int) == 32) = (c == 32) from this]; exact beq_eq_false_iff_ne.2 q32
        have b9 : ((c.toNat : Int) == 9) = false := by have := u8_beq c 9; rw [show ((c.toNat : Int) == 9) = (c == 9) from this]; exact beq_eq_false_iff_ne.2 q9
        by_cases p59 : c = 59
        · subst p59
          go_wp2
          go_ret
          exact ⟨⟨true, rfl, fun _ => rfl⟩, _, HWR.out⟩
        · have b59 : ((c.toNat : Int) == 59) = false := by have := u8_beq c 59; rw [show ((c.toNat : Int) == 59) = (c == 59) from this]; exact beq_eq_false_iff_ne.2 p59
          by_cases p10 : c = 10
          · subst p10
            go_wp2
            go_ret
            exact ⟨⟨true, rfl, fun _ => rfl⟩, _, HWR.out⟩
          · have b10 : ((c.toNat : Int) == 10) = false := by have := u8_beq c 10; rw [show ((c.toNat : Int) == 10) = (c == 10) from this]; exact beq_eq_false_iff_ne.2 p10
            go_wp2
            go_ret
            exact ⟨⟨false, rfl, fun h => absurd (hend.out h) (by rintro (e | e); exact p59 e; exact p10 e)⟩, _, HWR.out⟩
end Go.Proofs.YtioddclglemlmaaGreatDoor
