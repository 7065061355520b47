/- A command, deep within others: all functions of the parser together; conditions: a parser that stands among tokens, the last one the end. -/
import Derived.Test.YtioddclglemlmaaGreatDoorGramCm
import Derived.Test.YtioddclglemlmaaGreatDoorGramCh
import Derived.Test.YtioddclglemlmaaGreatDoorGramBr
import Derived.Test.YtioddclglemlmaaGreatDoorGramLW
import Derived.Test.YtioddclglemlmaaGreatDoorGramAo
import Derived.Test.YtioddclglemlmaaGreatDoorGramPi
namespace Go.Proofs.YtioddclglemlmaaGreatDoor
open Go.RowKit

theorem bind_ok {α β : Type} {r : PR α} {f : α → Nat → PR β} {t : β} {k : Nat} (h : r.bind f = .ok t k) : ∃ v j, r = .ok v j ∧ f v j = .ok t k := by
  cases r with
  | ok v j => exact ⟨v, j, rfl, h⟩
  | err n => cases h
theorem NoR.of (kind : Int) (no : Bool) (az ws : List ByteArray) (kids : List CmdT) (pats : List (List ByteArray)) (bodies : List CmdT) : NoR (.mk kind no az ws [] kids pats bodies) := ⟨_, _, _, _, _, _, _, rfl⟩
section
variable {T : List (Int × ByteArray)} {C : Nat → PR CmdT} {j k : Nat} {t : CmdT}
theorem sub_noR (h : subP T C j = .ok t k) : NoR t := by
  obtain ⟨_, _, _, h⟩ := bind_ok h
  obtain ⟨_, _, _, h⟩ := bind_ok h
  cases h; exact .of ..
theorem grp_noR (h : grpP T C j = .ok t k) : NoR t := by
  obtain ⟨_, _, _, h⟩ := bind_ok h
  obtain ⟨_, _, _, h⟩ := bind_ok h
  cases h; exact .of ..
theorem loo_noR {no : Bool} (h : looP T C no j = .ok t k) : NoR t := by
  obtain ⟨_, _, _, h⟩ := bind_ok h
  obtain ⟨_, _, _, h⟩ := bind_ok h
  obtain ⟨_, _, _, h⟩ := bind_ok h
  obtain ⟨_, _, _, h⟩ := bind_ok h
  cases h; exact .of ..
theorem bra_noR {f : Nat} (h : braF T C f j = .ok t k) : NoR t := by
  cases f with
  | zero => cases h
  | succ f =>
    rw [braF] at h
    obtain ⟨_, _, _, h⟩ := bind_ok h
    obtain ⟨_, _, _, h⟩ := bind_ok h
    obtain ⟨_, _, _, h⟩ := bind_ok h
    split at h
    · obtain ⟨_, _, _, h⟩ := bind_ok h
      cases h; exact .of ..
    · split at h
      · obtain ⟨_, _, _, h⟩ := bind_ok h
        obtain ⟨_, _, _, h⟩ := bind_ok h
        cases h; exact .of ..
      · obtain ⟨_, _, _, h⟩ := bind_ok h
        cases h; exact .of ..
theorem eacB_noR {ws : List ByteArray} (h : eacB T C ws j = .ok t k) : NoR t := by
  obtain ⟨_, _, _, h⟩ := bind_ok h
  obtain ⟨_, _, _, h⟩ := bind_ok h
  obtain ⟨_, _, _, h⟩ := bind_ok h
  cases h; exact .of ..
theorem eac_noR (h : eacP T C j = .ok t k) : NoR t := by
  obtain ⟨_, _, _, h⟩ := bind_ok h
  split at h
  · split at h
    · split at h
      · cases h
      · exact eacB_noR h
    · exact eacB_noR h
  · cases h
theorem cho_noR (h : choP T C j = .ok t k) : NoR t := by
  obtain ⟨_, _, _, h⟩ := bind_ok h
  obtain ⟨_, _, _, h⟩ := bind_ok h
  obtain ⟨_, _, _, h⟩ := bind_ok h
  obtain ⟨_, _, _, h⟩ := bind_ok h
  cases h; exact .of ..
end
section
variable {pb g cap : Nat} {T : List (Int × ByteArray)}
/-- the list of commands, what a command tells given -/
theorem list_of {d i0 : Nat} {C : Nat → PR CmdT} (HC : FnOK 75 pb T g cap d i0 C) : LsOK pb T g cap d i0 (aosP T C) ∧ FnOK 91 pb T g cap d i0 (lisP T C) := by
  have h1 := andors_any i0 (andor_any i0 (pipe_any i0 HC))
  exact ⟨h1, list_any i0 h1⟩
theorem form_some {d i : Nat} {C : Nat → PR CmdT} (HC : d + 1 ≤ 60 → FnOK 75 pb T g cap (d + 1) (i + 1) C) (P : Nat → PR CmdT) (h : formP T C i = some P) :
    ∃ fn, fvP pb T i = .func (.func fn) #[.pointer (some ⟨pb, 0, none⟩)] #[] ∧ (fn = 82 ∨ fn = 85 ∨ fn = 86 ∨ fn = 87 ∨ fn = 88 ∨ fn = 89 ∨ fn = 90) ∧ (d + 1 ≤ 60 → FnOK fn pb T g cap (d + 1) (i + 1) P) ∧ (∀ j t k, P j = .ok t k → NoR t) ∧ (tk T i).1 ≠ 4 := by
  unfold formP at h
  unfold fvP
  by_cases h1 : isO T i bOpen = true
  · rw [if_pos h1] at h
    rw [if_pos h1]
    cases h
    exact ⟨82, rfl, .inl rfl, fun hd => sub_any _ (list_of (HC hd)).2, fun _ _ _ e => sub_noR e, by rw [(isT_kind h1).1]; decide⟩
  · rw [if_neg h1] at h
    rw [if_neg h1]
    by_cases h2 : (tk T i).1 = 1
    · rw [if_pos h2] at h
      rw [if_pos h2]
      have h4 : (tk T i).1 ≠ 4 := by rw [h2]; decide
      unfold formV
      by_cases q1 : (tk T i).2 = bLB
      · rw [if_pos q1] at h
        rw [if_pos q1]
        cases h
        exact ⟨85, rfl, .inr (.inl rfl), fun hd => group_any _ (list_of (HC hd)).2, fun _ _ _ e => grp_noR e, h4⟩
      rw [if_neg q1] at h
      rw [if_neg q1]
      by_cases q2 : (tk T i).2 = bIf
      · rw [if_pos q2] at h
        rw [if_pos q2]
        cases h
        exact ⟨86, rfl, .inr (.inr (.inl rfl)), fun hd => branch_any _ (list_of (HC hd)).2, fun _ _ _ e => bra_noR e, h4⟩
      rw [if_neg q2] at h
      rw [if_neg q2]
      by_cases q3 : (tk T i).2 = bWhile
      · rw [if_pos q3] at h
        rw [if_pos q3]
        cases h
        exact ⟨87, rfl, .inr (.inr (.inr (.inl rfl))), fun hd => while_any _ (list_of (HC hd)).2, fun _ _ _ e => loo_noR e, h4⟩
      rw [if_neg q3] at h
      rw [if_neg q3]
      by_cases q4 : (tk T i).2 = bUntil
      · rw [if_pos q4] at h
        rw [if_pos q4]
        cases h
        exact ⟨88, rfl, .inr (.inr (.inr (.inr (.inl rfl)))), fun hd => until_any _ (list_of (HC hd)).2, fun _ _ _ e => loo_noR e, h4⟩
      rw [if_neg q4] at h
      rw [if_neg q4]
      by_cases q5 : (tk T i).2 = bFor
      · rw [if_pos q5] at h
        rw [if_pos q5]
        cases h
        exact ⟨89, rfl, .inr (.inr (.inr (.inr (.inr (.inl rfl))))), fun hd => each_any _ (list_of (HC hd)).2, fun _ _ _ e => eac_noR e, h4⟩
      rw [if_neg q5] at h
      rw [if_neg q5]
      by_cases q6 : (tk T i).2 = bCase
      · rw [if_pos q6] at h
        rw [if_pos q6]
        cases h
        exact ⟨90, rfl, .inr (.inr (.inr (.inr (.inr (.inr rfl))))), fun hd => choice_any _ (list_of (HC hd)).2, fun _ _ _ e => cho_noR e, h4⟩
      rw [if_neg q6] at h
      cases h
    · rw [if_neg h2] at h
      cases h
theorem form_none {i : Nat} {C : Nat → PR CmdT} (h : formP T C i = none) : fvP pb T i = .nilFunc := by
  unfold formP at h
  unfold fvP formV
  by_cases h1 : isO T i bOpen = true
  · rw [if_pos h1] at h; cases h
  rw [if_neg h1] at h
  rw [if_neg h1]
  by_cases h2 : (tk T i).1 = 1
  · rw [if_pos h2] at h
    rw [if_pos h2]
    by_cases q1 : (tk T i).2 = bLB
    · rw [if_pos q1] at h; cases h
    rw [if_neg q1] at h
    rw [if_neg q1]
    by_cases q2 : (tk T i).2 = bIf
    · rw [if_pos q2] at h; cases h
    rw [if_neg q2] at h
    rw [if_neg q2]
    by_cases q3 : (tk T i).2 = bWhile
    · rw [if_pos q3] at h; cases h
    rw [if_neg q3] at h
    rw [if_neg q3]
    by_cases q4 : (tk T i).2 = bUntil
    · rw [if_pos q4] at h; cases h
    rw [if_neg q4] at h
    rw [if_neg q4]
    by_cases q5 : (tk T i).2 = bFor
    · rw [if_pos q5] at h; cases h
    rw [if_neg q5] at h
    rw [if_neg q5]
    by_cases q6 : (tk T i).2 = bCase
    · rw [if_pos q6] at h; cases h
    rw [if_neg q6]
  · rw [if_neg h2]
/-- a command tells what its plain law tells -/
theorem command_any : ∀ (f d : Nat), d ≤ 60 → ∀ i w, T.length < f + i → PAt w pb T i d g cap → Calls Tryz.prog 75 #[.pointer (some ⟨pb, 0, none⟩)] w (PaR pb T g cap i d w (CmdR w.heap.size) (cmdF T f d i)) := by
  intro f
  induction f with
  | zero => intro d _ i w h1 h2; have := h2.lt; omega
  | succ f ih =>
    intro d hd i w h1 h2
    have HC : d + 1 ≤ 60 → FnOK 75 pb T g cap (d + 1) (i + 1) (cmdF T f (d + 1)) := fun h60 i' w' hi' hp' => ih (d + 1) h60 i' w' (by omega) hp'
    have := command_step (pb := pb) (g := g) (cap := cap) (d := d) (T := T) i w (formP T (cmdF T f (d + 1)) i) hd h2 (form_some HC) form_none
    have e : cmdR T d i (formP T (cmdF T f (d + 1)) i) = cmdF T (f + 1) d i := by rw [cmdF]; rfl
    rw [e] at this
    exact this
theorem command_ok (d : Nat) (hd : d ≤ 60) : FnOK 75 pb T g cap d 0 (cmdF T (T.length + 1) d) := fun i w _ h => command_any (T.length + 1) d hd i w (by omega) h
end
end Go.Proofs.YtioddclglemlmaaGreatDoor
