/- The words of a list as options, in plain words; a look into the table of long names; no condition. -/
import Derived.Test.YtmcemaphhlcjfaaDoorOptM
import Derived.Test.YtmcemaphhlcjfaaDoorTake9
import Derived.Test.YtmcemaphhlcjfaaDoorName
namespace Go.Proofs.YtmcemaphhlcjfaaDoor
open Go.RowKit Go.Maps

def nmT : List ByteArray := [⟨#[106, 111, 98, 115]⟩, ⟨#[102, 105, 108, 101]⟩, ⟨#[107, 101, 101, 112, 45, 103, 111, 105, 110, 103]⟩, ⟨#[100, 114, 121, 45, 114, 117, 110]⟩, ⟨#[106, 117, 115, 116, 45, 112, 114, 105, 110, 116]⟩, ⟨#[116, 111, 117, 99, 104]⟩, ⟨#[113, 117, 101, 115, 116, 105, 111, 110]⟩, ⟨#[115, 105, 108, 101, 110, 116]⟩, ⟨#[113, 117, 105, 101, 116]⟩, ⟨#[105, 103, 110, 111, 114, 101, 45, 101, 114, 114, 111, 114, 115]⟩, ⟨#[101, 110, 118, 105, 114, 111, 110, 109, 101, 110, 116, 45, 111, 118, 101, 114, 114, 105, 100, 101, 115]⟩, ⟨#[110, 111, 45, 98, 117, 105, 108, 116, 105, 110, 45, 114, 117, 108, 101, 115]⟩, ⟨#[97, 108, 119, 97, 121, 115, 45, 109, 97, 107, 101]⟩]
/-- where a long name stands in the table -/
def tabI (s : ByteArray) : Option Nat := nmT.findIdx? fun n => n.data.toList == s.data.toList
def valT (B : Nat → Nat) (k : Nat) : Value := if k = 0 then valV 106 107 else if k = 1 then valV 102 108 else flagV (tabC k) (B k)
theorem key_ne {a b : ByteArray} (h : a ≠ b) : (Lit.string a.data.toList) ≠ (Lit.string b.data.toList) := fun e => h (ba_ext (Lit.string.inj e))
theorem key_lit (a : ByteArray) : WideAt.IsKeyLit (.string a.data.toList) := by trivial
theorem look_step (D : DataW Value) (hD : IsMap D) (a s : ByteArray) (v z : DataW Value) :
    (a = s ∧ (D.put (.string a.data.toList) v).atKey (.string s.data.toList) z = v ∧ has (D.put (.string a.data.toList) v) (.string s.data.toList) = true) ∨
    (a ≠ s ∧ (D.put (.string a.data.toList) v).atKey (.string s.data.toList) z = D.atKey (.string s.data.toList) z ∧ has (D.put (.string a.data.toList) v) (.string s.data.toList) = has D (.string s.data.toList)) := by
  by_cases h : a = s
  · subst h
    exact .inl ⟨rfl, atKey_put_same hD (key_lit a) v z, has_put_same hD (key_lit a) v⟩
  · exact .inr ⟨h, atKey_put_other (key_ne (Ne.symm h)) v z, has_put_other (key_ne (Ne.symm h)) v⟩
theorem tabI_none (s : ByteArray) (h : ∀ n ∈ nmT, n ≠ s) : tabI s = none := by
  unfold tabI
  rw [List.findIdx?_eq_none_iff]
  intro n hn
  have := h n hn
  rw [beq_eq_false_iff_ne]
  exact fun e => this (ba_ext e)
theorem tab_look (Bx : Nat → Nat) (s : ByteArray) (z : DataW Value) :
    (∃ k, tabI s = some k ∧ k ≤ 12 ∧ (tabD Bx).atKey (.string s.data.toList) z = .held (valT Bx k) ∧ has (tabD Bx) (.string s.data.toList) = true) ∨
    (tabI s = none ∧ (tabD Bx).atKey (.string s.data.toList) z = z ∧ has (tabD Bx) (.string s.data.toList) = false) := by
  have m0 : IsMap (.map [] : DataW Value) := isMap_empty
  obtain ⟨d1, hd1⟩ : ∃ d, ((.map [] : DataW Value)).put (.string ((⟨#[106, 111, 98, 115]⟩ : ByteArray)).data.toList) (.held (valV 106 107)) = d := ⟨_, rfl⟩
  have m1 : IsMap d1 := by rw [← hd1]; exact m0.put _ _
  obtain ⟨d2, hd2⟩ : ∃ d, (d1).put (.string ((⟨#[102, 105, 108, 101]⟩ : ByteArray)).data.toList) (.held (valV 102 108)) = d := ⟨_, rfl⟩
  have m2 : IsMap d2 := by rw [← hd2]; exact m1.put _ _
  obtain ⟨d3, hd3⟩ : ∃ d, (d2).put (.string ((⟨#[107, 101, 101, 112, 45, 103, 111, 105, 110, 103]⟩ : ByteArray)).data.toList) (.held (flagV 107 (Bx 2))) = d := ⟨_, rfl⟩
  have m3 : IsMap d3 := by rw [← hd3]; exact m2.put _ _
  obtain ⟨d4, hd4⟩ : ∃ d, (d3).put (.string ((⟨#[100, 114, 121, 45, 114, 117, 110]⟩ : ByteArray)).data.toList) (.held (flagV 110 (Bx 3))) = d := ⟨_, rfl⟩
  have m4 : IsMap d4 := by rw [← hd4]; exact m3.put _ _
  obtain ⟨d5, hd5⟩ : ∃ d, (d4).put (.string ((⟨#[106, 117, 115, 116, 45, 112, 114, 105, 110, 116]⟩ : ByteArray)).data.toList) (.held (flagV 110 (Bx 4))) = d := ⟨_, rfl⟩
  have m5 : IsMap d5 := by rw [← hd5]; exact m4.put _ _
  obtain ⟨d6, hd6⟩ : ∃ d, (d5).put (.string ((⟨#[116, 111, 117, 99, 104]⟩ : ByteArray)).data.toList) (.held (flagV 116 (Bx 5))) = d := ⟨_, rfl⟩
  have m6 : IsMap d6 := by rw [← hd6]; exact m5.put _ _
  obtain ⟨d7, hd7⟩ : ∃ d, (d6).put (.string ((⟨#[113, 117, 101, 115, 116, 105, 111, 110]⟩ : ByteArray)).data.toList) (.held (flagV 113 (Bx 6))) = d := ⟨_, rfl⟩
  have m7 : IsMap d7 := by rw [← hd7]; exact m6.put _ _
  obtain ⟨d8, hd8⟩ : ∃ d, (d7).put (.string ((⟨#[115, 105, 108, 101, 110, 116]⟩ : ByteArray)).data.toList) (.held (flagV 115 (Bx 7))) = d := ⟨_, rfl⟩
  have m8 : IsMap d8 := by rw [← hd8]; exact m7.put _ _
  obtain ⟨d9, hd9⟩ : ∃ d, (d8).put (.string ((⟨#[113, 117, 105, 101, 116]⟩ : ByteArray)).data.toList) (.held (flagV 115 (Bx 8))) = d := ⟨_, rfl⟩
  have m9 : IsMap d9 := by rw [← hd9]; exact m8.put _ _
  obtain ⟨d10, hd10⟩ : ∃ d, (d9).put (.string ((⟨#[105, 103, 110, 111, 114, 101, 45, 101, 114, 114, 111, 114, 115]⟩ : ByteArray)).data.toList) (.held (flagV 105 (Bx 9))) = d := ⟨_, rfl⟩
  have m10 : IsMap d10 := by rw [← hd10]; exact m9.put _ _
  obtain ⟨d11, hd11⟩ : ∃ d, (d10).put (.string ((⟨#[101, 110, 118, 105, 114, 111, 110, 109, 101, 110, 116, 45, 111, 118, 101, 114, 114, 105, 100, 101, 115]⟩ : ByteArray)).data.toList) (.held (flagV 101 (Bx 10))) = d := ⟨_, rfl⟩
  have m11 : IsMap d11 := by rw [← hd11]; exact m10.put _ _
  obtain ⟨d12, hd12⟩ : ∃ d, (d11).put (.string ((⟨#[110, 111, 45, 98, 117, 105, 108, 116, 105, 110, 45, 114, 117, 108, 101, 115]⟩ : ByteArray)).data.toList) (.held (flagV 114 (Bx 11))) = d := ⟨_, rfl⟩
  have m12 : IsMap d12 := by rw [← hd12]; exact m11.put _ _
  obtain ⟨d13, hd13⟩ : ∃ d, (d12).put (.string ((⟨#[97, 108, 119, 97, 121, 115, 45, 109, 97, 107, 101]⟩ : ByteArray)).data.toList) (.held (flagV 66 (Bx 12))) = d := ⟨_, rfl⟩
  have m13 : IsMap d13 := by rw [← hd13]; exact m12.put _ _
  have hD : tabD Bx = d13 := by rw [← hd13, ← hd12, ← hd11, ← hd10, ← hd9, ← hd8, ← hd7, ← hd6, ← hd5, ← hd4, ← hd3, ← hd2, ← hd1]; rfl
  rw [hD]
  have s12 := look_step d12 m12 ⟨#[97, 108, 119, 97, 121, 115, 45, 109, 97, 107, 101]⟩ s (.held (flagV 66 (Bx 12))) z
  rw [hd13] at s12
  have s11 := look_step d11 m11 ⟨#[110, 111, 45, 98, 117, 105, 108, 116, 105, 110, 45, 114, 117, 108, 101, 115]⟩ s (.held (flagV 114 (Bx 11))) z
  rw [hd12] at s11
  have s10 := look_step d10 m10 ⟨#[101, 110, 118, 105, 114, 111, 110, 109, 101, 110, 116, 45, 111, 118, 101, 114, 114, 105, 100, 101, 115]⟩ s (.held (flagV 101 (Bx 10))) z
  rw [hd11] at s10
  have s9 := look_step d9 m9 ⟨#[105, 103, 110, 111, 114, 101, 45, 101, 114, 114, 111, 114, 115]⟩ s (.held (flagV 105 (Bx 9))) z
  rw [hd10] at s9
  have s8 := look_step d8 m8 ⟨#[113, 117, 105, 101, 116]⟩ s (.held (flagV 115 (Bx 8))) z
  rw [hd9] at s8
  have s7 := look_step d7 m7 ⟨#[115, 105, 108, 101, 110, 116]⟩ s (.held (flagV 115 (Bx 7))) z
  rw [hd8] at s7
  have s6 := look_step d6 m6 ⟨#[113, 117, 101, 115, 116, 105, 111, 110]⟩ s (.held (flagV 113 (Bx 6))) z
  rw [hd7] at s6
  have s5 := look_step d5 m5 ⟨#[116, 111, 117, 99, 104]⟩ s (.held (flagV 116 (Bx 5))) z
  rw [hd6] at s5
  have s4 := look_step d4 m4 ⟨#[106, 117, 115, 116, 45, 112, 114, 105, 110, 116]⟩ s (.held (flagV 110 (Bx 4))) z
  rw [hd5] at s4
  have s3 := look_step d3 m3 ⟨#[100, 114, 121, 45, 114, 117, 110]⟩ s (.held (flagV 110 (Bx 3))) z
  rw [hd4] at s3
  have s2 := look_step d2 m2 ⟨#[107, 101, 101, 112, 45, 103, 111, 105, 110, 103]⟩ s (.held (flagV 107 (Bx 2))) z
  rw [hd3] at s2
  have s1 := look_step d1 m1 ⟨#[102, 105, 108, 101]⟩ s (.held (valV 102 108)) z
  rw [hd2] at s1
  have s0 := look_step (.map [] : DataW Value) m0 ⟨#[106, 111, 98, 115]⟩ s (.held (valV 106 107)) z
  rw [hd1] at s0
  rcases s12 with ⟨n12, a12, b12⟩ | ⟨n12, a12, b12⟩
  · left
    refine ⟨12, by rw [← n12]; rfl, by omega, ?_, ?_⟩
    · rw [a12]; rfl
    · rw [b12]
  rcases s11 with ⟨n11, a11, b11⟩ | ⟨n11, a11, b11⟩
  · left
    refine ⟨11, by rw [← n11]; rfl, by omega, ?_, ?_⟩
    · rw [a12, a11]; rfl
    · rw [b12, b11]
  rcases s10 with ⟨n10, a10, b10⟩ | ⟨n10, a10, b10⟩
  · left
    refine ⟨10, by rw [← n10]; rfl, by omega, ?_, ?_⟩
    · rw [a12, a11, a10]; rfl
    · rw [b12, b11, b10]
  rcases s9 with ⟨n9, a9, b9⟩ | ⟨n9, a9, b9⟩
  · left
    refine ⟨9, by rw [← n9]; rfl, by omega, ?_, ?_⟩
    · rw [a12, a11, a10, a9]; rfl
    · rw [b12, b11, b10, b9]
  rcases s8 with ⟨n8, a8, b8⟩ | ⟨n8, a8, b8⟩
  · left
    refine ⟨8, by rw [← n8]; rfl, by omega, ?_, ?_⟩
    · rw [a12, a11, a10, a9, a8]; rfl
    · rw [b12, b11, b10, b9, b8]
  rcases s7 with ⟨n7, a7, b7⟩ | ⟨n7, a7, b7⟩
  · left
    refine ⟨7, by rw [← n7]; rfl, by omega, ?_, ?_⟩
    · rw [a12, a11, a10, a9, a8, a7]; rfl
    · rw [b12, b11, b10, b9, b8, b7]
  rcases s6 with ⟨n6, a6, b6⟩ | ⟨n6, a6, b6⟩
  · left
    refine ⟨6, by rw [← n6]; rfl, by omega, ?_, ?_⟩
    · rw [a12, a11, a10, a9, a8, a7, a6]; rfl
    · rw [b12, b11, b10, b9, b8, b7, b6]
  rcases s5 with ⟨n5, a5, b5⟩ | ⟨n5, a5, b5⟩
  · left
    refine ⟨5, by rw [← n5]; rfl, by omega, ?_, ?_⟩
    · rw [a12, a11, a10, a9, a8, a7, a6, a5]; rfl
    · rw [b12, b11, b10, b9, b8, b7, b6, b5]
  rcases s4 with ⟨n4, a4, b4⟩ | ⟨n4, a4, b4⟩
  · left
    refine ⟨4, by rw [← n4]; rfl, by omega, ?_, ?_⟩
    · rw [a12, a11, a10, a9, a8, a7, a6, a5, a4]; rfl
    · rw [b12, b11, b10, b9, b8, b7, b6, b5, b4]
  rcases s3 with ⟨n3, a3, b3⟩ | ⟨n3, a3, b3⟩
  · left
    refine ⟨3, by rw [← n3]; rfl, by omega, ?_, ?_⟩
    · rw [a12, a11, a10, a9, a8, a7, a6, a5, a4, a3]; rfl
    · rw [b12, b11, b10, b9, b8, b7, b6, b5, b4, b3]
  rcases s2 with ⟨n2, a2, b2⟩ | ⟨n2, a2, b2⟩
  · left
    refine ⟨2, by rw [← n2]; rfl, by omega, ?_, ?_⟩
    · rw [a12, a11, a10, a9, a8, a7, a6, a5, a4, a3, a2]; rfl
    · rw [b12, b11, b10, b9, b8, b7, b6, b5, b4, b3, b2]
  rcases s1 with ⟨n1, a1, b1⟩ | ⟨n1, a1, b1⟩
  · left
    refine ⟨1, by rw [← n1]; rfl, by omega, ?_, ?_⟩
    · rw [a12, a11, a10, a9, a8, a7, a6, a5, a4, a3, a2, a1]; rfl
    · rw [b12, b11, b10, b9, b8, b7, b6, b5, b4, b3, b2, b1]
  rcases s0 with ⟨n0, a0, b0⟩ | ⟨n0, a0, b0⟩
  · left
    refine ⟨0, by rw [← n0]; rfl, by omega, ?_, ?_⟩
    · rw [a12, a11, a10, a9, a8, a7, a6, a5, a4, a3, a2, a1, a0]; rfl
    · rw [b12, b11, b10, b9, b8, b7, b6, b5, b4, b3, b2, b1, b0]
  right
  refine ⟨tabI_none s (fun n hn => ?_), ?_, ?_⟩
  · have hc : n = ⟨#[106, 111, 98, 115]⟩ ∨ n = ⟨#[102, 105, 108, 101]⟩ ∨ n = ⟨#[107, 101, 101, 112, 45, 103, 111, 105, 110, 103]⟩ ∨ n = ⟨#[100, 114, 121, 45, 114, 117, 110]⟩ ∨ n = ⟨#[106, 117, 115, 116, 45, 112, 114, 105, 110, 116]⟩ ∨ n = ⟨#[116, 111, 117, 99, 104]⟩ ∨ n = ⟨#[113, 117, 101, 115, 116, 105, 111, 110]⟩ ∨ n = ⟨#[115, 105, 108, 101, 110, 116]⟩ ∨ n = ⟨#[113, 117, 105, 101, 116]⟩ ∨ n = ⟨#[105, 103, 110, 111, 114, 101, 45, 101, 114, 114, 111, 114, 115]⟩ ∨ n = ⟨#[101, 110, 118, 105, 114, 111, 110, 109, 101, 110, 116, 45, 111, 118, 101, 114, 114, 105, 100, 101, 115]⟩ ∨ n = ⟨#[110, 111, 45, 98, 117, 105, 108, 116, 105, 110, 45, 114, 117, 108, 101, 115]⟩ ∨ n = ⟨#[97, 108, 119, 97, 121, 115, 45, 109, 97, 107, 101]⟩ := by simpa [nmT] using hn
    rcases hc with rfl | rfl | rfl | rfl | rfl | rfl | rfl | rfl | rfl | rfl | rfl | rfl | rfl
    · exact n0
    · exact n1
    · exact n2
    · exact n3
    · exact n4
    · exact n5
    · exact n6
    · exact n7
    · exact n8
    · exact n9
    · exact n10
    · exact n11
    · exact n12
  · rw [a12, a11, a10, a9, a8, a7, a6, a5, a4, a3, a2, a1, a0]; rfl
  · rw [b12, b11, b10, b9, b8, b7, b6, b5, b4, b3, b2, b1, b0]; rfl

def bD : ByteArray := ⟨#[45]⟩
def bDD : ByteArray := ⟨#[45, 45]⟩
/-- what a long name does, with its value -/
def longP (nm v : ByteArray) (given : Bool) (x : Opx) : Option Opx := match tabI nm with
  | none => none
  | some k => if k = 0 then (if given then (jobsP v).map (fun n => { x with j := n }) else none)
    else if k = 1 then (if given then some { x with fs := x.fs ++ [v] } else none)
    else (if given then none else if plN (tabC k) ≠ 0 then some { x with bs := upd x.bs (plN (tabC k)) } else none)
def cutP (w : ByteArray) : ByteArray × ByteArray × Bool := (mk (Lib.cut (w.extract 2 w.size).data.toList [61]).1, mk (Lib.cut (w.extract 2 w.size).data.toList [61]).2.1, (Lib.cut (w.extract 2 w.size).data.toList [61]).2.2)
/-- one word: plain words behind it?, the options, the next word's place -/
noncomputable def wstep (own plain : Bool) (l : List ByteArray) (w : ByteArray) (p : Nat) (x : Opx) : Option (Bool × Opx × Nat) :=
  if w.data.toList = [] ∨ w.data.toList = [45] then some (plain, x, p)
  else if plain = false ∧ w.data.toList = [45, 45] then some (true, x, p)
  else if plain = false ∧ Lib.hasPrefix w.data.toList [45, 45] = true then (longP (cutP w).1 (cutP w).2.1 (cutP w).2.2 x).map fun x => (plain, x, p)
  else if plain = false ∧ w.get! 0 = 45 then (letF w l (w.size + 1) 1 p x).map fun q => (plain, q.1, q.2)
  else if (takeP w).k = 1 then some (plain, { x with vs := x.vs ++ [w] }, p)
  else if own = true then some (plain, { x with gs := x.gs ++ [nameB w] }, p)
  else some (plain, x, p)
noncomputable def wordsF (own : Bool) (l : List ByteArray) : Nat → Nat → Bool → Opx → Option Opx
  | 0, _, _, x => some x
  | f + 1, p, plain, x => match l[p]? with
    | none => some x
    | some w => match wstep own plain l w (p + 1) x with
      | none => none
      | some q => wordsF own l f q.2.2 q.1 q.2.1
end Go.Proofs.YtmcemaphhlcjfaaDoor
