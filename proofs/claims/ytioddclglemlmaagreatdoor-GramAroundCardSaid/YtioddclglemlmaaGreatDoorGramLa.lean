/- What Parse's answer holds, whatever it is; the laws' lists of texts; no condition. -/
import Derived.Test.YtioddclglemlmaaGreatDoorGramLv
import Derived.Test.YtioddclglemlmaaGreatDoorGramEn
import Derived.Test.YtioddclglemlmaaGreatDoorStrsIn
namespace Go.Proofs.YtioddclglemlmaaGreatDoor
open Go.RowKit

theorem PaA.gen {base : Nat} {R : Except Int CmdT} {e : Ending} {w' : World} (h : PaA base R e w') :
    ∃ (kind : Int) (no : Bool) (A2 : Option Addr) (l2 m2 : Nat) (A3 : Option Addr) (l3 m3 : Nat) (A4 : Option Addr) (l4 m4 : Nat) (A5 : Option Addr) (l5 m5 : Nat) (A6 : Option Addr) (l6 m6 : Nat) (n : Int),
      e = .returned (.tuple #[.agg #[.int .i64 kind, .bool no, .slice A2 l2 m2, .slice A3 l3 m3, .slice A4 l4 m4, .slice A5 l5 m5, .slice A6 l6 m6], .int .i64 n]) ∧
      ((∃ ks, R = .ok (.mk 5 false [] [] [] ks [] []) ∧ n = 0 ∧ l5 = ks.length ∧ kind = 5 ∧ CmdAt w' (fun k => base ≤ k ∧ k < w'.heap.size) [.int .i64 kind, .bool no, .slice A2 l2 m2, .slice A3 l3 m3, .slice A4 l4 m4, .slice A5 l5 m5, .slice A6 l6 m6] (.mk 5 false [] [] [] ks [] [])) ∨
        (R = .error n ∧ l5 = 0) ∨ (∃ t, R = .ok t ∧ ∀ ks, t ≠ .mk 5 false [] [] [] ks [] [])) := by
  cases R with
  | error n =>
    obtain rfl : e = _ := h
    exact ⟨0, false, none, 0, 0, none, 0, 0, none, 0, 0, none, 0, 0, none, 0, 0, n, rfl, .inr (.inl ⟨rfl, rfl⟩)⟩
  | ok t =>
    obtain ⟨u, rfl, cs, rfl, hc⟩ := h
    obtain ⟨kind, no, A2, l2, m2, A3, l3, m3, A4, l4, m4, A5, l5, m5, A6, l6, m6, rfl⟩ := hc.lit
    refine ⟨kind, no, A2, l2, m2, A3, l3, m3, A4, l4, m4, A5, l5, m5, A6, l6, m6, 0, rfl, ?_⟩
    by_cases q : ∃ ks, t = .mk 5 false [] [] [] ks [] []
    · obtain ⟨ks, rfl⟩ := q
      have hk : kind = 5 ∧ l5 = ks.length := by
        cases hc with
        | mk kc pc bc h0 h1 h2 h3 h4 h5 h6 h7 h8 h9 h10 h11 h12 =>
          obtain ⟨A, c, e⟩ := h4.form
          cases e
          exact ⟨rfl, rfl⟩
      exact .inl ⟨ks, rfl, rfl, hk.2, hk.1, hc⟩
    · exact .inr (.inr ⟨t, rfl, fun ks e => q ⟨ks, e⟩⟩)
/-- the laws' number, whatever the error is -/
theorem num_some (n : Int) (w : World) : Calls Tryz.prog 8 #[.int .i64 n] w fun e w' => e = .returned (.int .i64 n) ∧ w' = w := by
  go_enter Tryz.func8, Tryz.ntmps8
  go_wp2
  go_ret
  exact ⟨rfl, rfl⟩
theorem OneTexts.snoc {ts : List ByteArray} {ks : List CmdT} {t : ByteArray} {k : CmdT} (h : OneTexts ts ks) (h1 : OneText t k) : OneTexts (ts ++ [t]) (ks ++ [k]) := by
  induction h with
  | nil => exact .cons h1 .nil
  | cons h2 h3 ih => exact .cons h2 ih
def bytQ (lines : Bool) (l : List ByteArray) : List UInt8 := if lines then bytN l else bytS l
def sepQ (lines : Bool) (l : List ByteArray) : List UInt8 := if lines then [10] else match l with
  | [] => []
  | _ :: _ => [32, 59, 32]
theorem bytQ_cons (lines : Bool) (t : ByteArray) (l : List ByteArray) : bytQ lines (t :: l) = t.data.toList ++ sepQ lines l ++ bytQ lines l := by
  cases lines with
  | true => show t.data.toList ++ 10 :: bytN l = t.data.toList ++ [10] ++ bytN l; simp
  | false =>
    cases l with
    | nil => show t.data.toList = t.data.toList ++ [] ++ []; simp
    | cons u l => show t.data.toList ++ 32 :: 59 :: 32 :: bytS (u :: l) = t.data.toList ++ [32, 59, 32] ++ bytS (u :: l); simp
theorem bytQ_nil (lines : Bool) : bytQ lines [] = [] := by cases lines <;> rfl
theorem bytQ_step {lines : Bool} {S x : ByteArray} {xs : List ByteArray} {k : Nat} (h : S.data.toList ++ bytQ lines (xs.drop k) = bytQ lines xs) (hk : xs[k]? = some x) (S' : ByteArray) (hS : S'.data.toList = S.data.toList ++ x.data.toList ++ sepQ lines (xs.drop (k + 1))) :
    S'.data.toList ++ bytQ lines (xs.drop (k + 1)) = bytQ lines xs := by
  have hlt : k < xs.length := (List.getElem?_eq_some_iff.1 hk).1
  have hd : xs.drop k = x :: xs.drop (k + 1) := by
    rw [List.drop_eq_getElem_cons hlt]
    rw [List.getElem?_eq_getElem hlt] at hk
    rw [Option.some.inj hk]
  rw [← h, hd, bytQ_cons, hS]
  simp
theorem gram_listQ {lines : Bool} {ts : List ByteArray} {ks : List CmdT} (h : OneTexts ts ks) (hl : ts.length ≤ 15) (he : lines = true ∨ ∀ t ∈ ts, ¬ EndB t.data.toList) (s : ByteArray) (hs : s.data.toList = bytQ lines ts) : gramP s = .ok (.mk 5 false [] [] [] ks [] []) := by
  cases lines with
  | true => exact gram_listN h hl s hs
  | false => exact gram_listS h hl (he.resolve_left (by decide)) s hs
theorem EndB_nil : ¬ EndB [] := by rintro ⟨p, c, q, h, _⟩; exact absurd h (by simp)
end Go.Proofs.YtioddclglemlmaaGreatDoor
