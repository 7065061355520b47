/- The compounds by their first words; no condition. -/
import Derived.Test.YtioddclglemlmaaGreatDoorGramWN
import Derived.Maps.OwnSet
import Derived.StringKeys
namespace Go.Proofs.YtioddclglemlmaaGreatDoor
open Go.RowKit Go.Maps


def RV (v : Value) : Option (DataW Value × List MemPlace) := some (.held v, [])
theorem sk9 : Keyed Tryz.prog 9 := string_keyed Tryz.underlying9
theorem zero60 (w : World) : (zeroValue 60).run Tryz.prog w = .ok .nilFunc w := by kernel_rfl
theorem wpList_ins (w : World) {ops : Array Oper} {rest : List Oper} {o : Oper} {a : Act} {Q : Exit → Act → World → Prop}
    (hg : o.guard = none) (mm kx vx : Operand) (hop : o.op = Op.insert 135 mm kx vx) (m n : Nat) (hn : n < 1000) (D : DataW Value) (hown : w.ownsMap Tryz.prog 9 RV m n D) (k : ByteArray) (v : Value)
    (hm : a.eval mm = .map (some m)) (hx : a.eval kx = .string k) (hv : a.eval vx = v) (hk : k.size ≤ maxLen)
    (hK : ∀ w', w'.ownsMap Tryz.prog 9 RV m (n + 1) (D.put (.string k.data.toList) (.held v)) → w.grownBy w' (some m) → wpList Tryz.prog ops Q rest (a.put o.dst undef) w') :
    wpList Tryz.prog ops Q (o :: rest) a w := by
  refine wpList_plain hg fun K' hK' => ?_
  obtain ⟨w', hrun, ho, hgr⟩ := hown.update sk9 Tryz.underlying135 (by unfold maxLen; omega) (val := v) (d := .held v) (ps := []) (Go.WideMaps.keyOf_string_mk Tryz.underlying9 hk) rfl
  have h1 := hK w' ho hgr
  unfold Oper.wp
  simp [execOp, hop, hm, hx, hv, hrun, Result.andThen]
  exact hK' _ _ h1
theorem key_ne {a b : ByteArray} (h : a ≠ b) : (Lit.string a.data.toList) ≠ (Lit.string b.data.toList) := fun e => h (ba_ext (Lit.string.inj e))
theorem key_lit (a : ByteArray) : WideAt.IsKeyLit (.string a.data.toList) := by trivial
theorem look_step (D : DataW Value) (hD : IsMap D) (a s : ByteArray) (v z : DataW Value) :
    (D.put (.string a.data.toList) v).atKey (.string s.data.toList) z = if s = a then v else D.atKey (.string s.data.toList) z := by
  by_cases h : s = a
  · subst h
    rw [if_pos rfl]
    exact atKey_put_same hD (key_lit s) v z
  · rw [if_neg h]
    exact atKey_put_other (key_ne h) v z
/-- the form that a word begins -/
def formV (pb : Nat) (s : ByteArray) : Value := if s = bLB then (Value.func (.func 85) #[.pointer (some ⟨pb, 0, none⟩)] #[]) else if s = bIf then (Value.func (.func 86) #[.pointer (some ⟨pb, 0, none⟩)] #[]) else if s = bWhile then (Value.func (.func 87) #[.pointer (some ⟨pb, 0, none⟩)] #[]) else if s = bUntil then (Value.func (.func 88) #[.pointer (some ⟨pb, 0, none⟩)] #[]) else if s = bFor then (Value.func (.func 89) #[.pointer (some ⟨pb, 0, none⟩)] #[]) else if s = bCase then (Value.func (.func 90) #[.pointer (some ⟨pb, 0, none⟩)] #[]) else Value.nilFunc
def tabD (pb : Nat) : DataW Value := (((((((.map [] : DataW Value)).put (.string (⟨#[123]⟩ : ByteArray).data.toList) (.held (.func (.func 85) #[.pointer (some ⟨pb, 0, none⟩)] #[]))).put (.string (⟨#[105, 102]⟩ : ByteArray).data.toList) (.held (.func (.func 86) #[.pointer (some ⟨pb, 0, none⟩)] #[]))).put (.string (⟨#[119, 104, 105, 108, 101]⟩ : ByteArray).data.toList) (.held (.func (.func 87) #[.pointer (some ⟨pb, 0, none⟩)] #[]))).put (.string (⟨#[117, 110, 116, 105, 108]⟩ : ByteArray).data.toList) (.held (.func (.func 88) #[.pointer (some ⟨pb, 0, none⟩)] #[]))).put (.string (⟨#[102, 111, 114]⟩ : ByteArray).data.toList) (.held (.func (.func 89) #[.pointer (some ⟨pb, 0, none⟩)] #[]))).put (.string (⟨#[99, 97, 115, 101]⟩ : ByteArray).data.toList) (.held (.func (.func 90) #[.pointer (some ⟨pb, 0, none⟩)] #[]))
theorem tab_look (pb : Nat) (s : ByteArray) : (tabD pb).atKey (.string s.data.toList) (.held .nilFunc) = .held (formV pb s) := by
  have m0 : IsMap (.map [] : DataW Value) := isMap_empty
  obtain ⟨d1, hd1⟩ : ∃ d, ((.map [] : DataW Value)).put (.string ((⟨#[123]⟩ : ByteArray)).data.toList) (.held (.func (.func 85) #[.pointer (some ⟨pb, 0, none⟩)] #[])) = d := ⟨_, rfl⟩
  have m1 : IsMap d1 := by rw [← hd1]; exact m0.put _ _
  obtain ⟨d2, hd2⟩ : ∃ d, (d1).put (.string ((⟨#[105, 102]⟩ : ByteArray)).data.toList) (.held (.func (.func 86) #[.pointer (some ⟨pb, 0, none⟩)] #[])) = d := ⟨_, rfl⟩
  have m2 : IsMap d2 := by rw [← hd2]; exact m1.put _ _
  obtain ⟨d3, hd3⟩ : ∃ d, (d2).put (.string ((⟨#[119, 104, 105, 108, 101]⟩ : ByteArray)).data.toList) (.held (.func (.func 87) #[.pointer (some ⟨pb, 0, none⟩)] #[])) = d := ⟨_, rfl⟩
  have m3 : IsMap d3 := by rw [← hd3]; exact m2.put _ _
  obtain ⟨d4, hd4⟩ : ∃ d, (d3).put (.string ((⟨#[117, 110, 116, 105, 108]⟩ : ByteArray)).data.toList) (.held (.func (.func 88) #[.pointer (some ⟨pb, 0, none⟩)] #[])) = d := ⟨_, rfl⟩
  have m4 : IsMap d4 := by rw [← hd4]; exact m3.put _ _
  obtain ⟨d5, hd5⟩ : ∃ d, (d4).put (.string ((⟨#[102, 111, 114]⟩ : ByteArray)).data.toList) (.held (.func (.func 89) #[.pointer (some ⟨pb, 0, none⟩)] #[])) = d := ⟨_, rfl⟩
  have m5 : IsMap d5 := by rw [← hd5]; exact m4.put _ _
  obtain ⟨d6, hd6⟩ : ∃ d, (d5).put (.string ((⟨#[99, 97, 115, 101]⟩ : ByteArray)).data.toList) (.held (.func (.func 90) #[.pointer (some ⟨pb, 0, none⟩)] #[])) = d := ⟨_, rfl⟩
  have m6 : IsMap d6 := by rw [← hd6]; exact m5.put _ _
  have hD : tabD pb = d6 := by rw [← hd6, ← hd5, ← hd4, ← hd3, ← hd2, ← hd1]; rfl
  rw [hD, ← hd6, look_step _ m5 ⟨#[99, 97, 115, 101]⟩ s, ← hd5, look_step _ m4 ⟨#[102, 111, 114]⟩ s, ← hd4, look_step _ m3 ⟨#[117, 110, 116, 105, 108]⟩ s, ← hd3, look_step _ m2 ⟨#[119, 104, 105, 108, 101]⟩ s, ← hd2, look_step _ m1 ⟨#[105, 102]⟩ s, ← hd1, look_step _ m0 ⟨#[123]⟩ s]
  unfold formV
  have he : (DataW.map [] : DataW Value).atKey (.string s.data.toList) (.held .nilFunc) = .held .nilFunc := rfl
  rw [he]
  show (if s = bCase then _ else if s = bFor then _ else if s = bUntil then _ else if s = bWhile then _ else if s = bIf then _ else if s = bLB then _ else _) = _
  by_cases h0 : s = bLB
  · subst h0; rfl
  by_cases h1 : s = bIf
  · subst h1; rfl
  by_cases h2 : s = bWhile
  · subst h2; rfl
  by_cases h3 : s = bUntil
  · subst h3; rfl
  by_cases h4 : s = bFor
  · subst h4; rfl
  by_cases h5 : s = bCase
  · subst h5; rfl
  rw [if_neg h5, if_neg h4, if_neg h3, if_neg h2, if_neg h1, if_neg h0, if_neg h0, if_neg h1, if_neg h2, if_neg h3, if_neg h4, if_neg h5]
set_option maxRecDepth 100000 in
set_option maxHeartbeats 4000000 in
theorem comp_any (pb : Nat) (w : World) : Calls Tryz.prog 81 #[.pointer (some ⟨pb, 0, none⟩)] w fun e w' => ∃ mb, e = .returned (.map (some mb)) ∧ Below w.heap.size w w' ∧ ∀ s : ByteArray, s.size ≤ 70000 → (Instr.lookup 135 (.map (some mb)) (.string s) false).run Tryz.prog w' = .ok (formV pb s) w' := by
  have hmm := @run_makeMap Tryz.prog
  have hmf : ∀ (fn : Fn) (first cap : Array Value) (w : World), (Instr.makeFunc fn first cap).run Tryz.prog w = .ok (.func fn first cap) w := fun _ _ _ _ => rfl
  have hown := World.ownsMap_made w Tryz.prog 9 RV
  go_enter Tryz.func81, Tryz.ntmps81
  go_wp2_with (first | (refine wpList_ins _ rfl _ _ _ rfl w.heap.size 0 (by decide) _ hown ⟨#[123]⟩ (.func (.func 85) #[.pointer (some ⟨pb, 0, none⟩)] #[]) rfl rfl rfl (by decide) ?_; intro y0 ho0 gy0) | (refine wpList_ins _ rfl _ _ _ rfl w.heap.size 1 (by decide) _ ho0 ⟨#[105, 102]⟩ (.func (.func 86) #[.pointer (some ⟨pb, 0, none⟩)] #[]) rfl rfl rfl (by decide) ?_; intro y1 ho1 gy1) | (refine wpList_ins _ rfl _ _ _ rfl w.heap.size 2 (by decide) _ ho1 ⟨#[119, 104, 105, 108, 101]⟩ (.func (.func 87) #[.pointer (some ⟨pb, 0, none⟩)] #[]) rfl rfl rfl (by decide) ?_; intro y2 ho2 gy2) | (refine wpList_ins _ rfl _ _ _ rfl w.heap.size 3 (by decide) _ ho2 ⟨#[117, 110, 116, 105, 108]⟩ (.func (.func 88) #[.pointer (some ⟨pb, 0, none⟩)] #[]) rfl rfl rfl (by decide) ?_; intro y3 ho3 gy3) | (refine wpList_ins _ rfl _ _ _ rfl w.heap.size 4 (by decide) _ ho3 ⟨#[102, 111, 114]⟩ (.func (.func 89) #[.pointer (some ⟨pb, 0, none⟩)] #[]) rfl rfl rfl (by decide) ?_; intro y4 ho4 gy4) | (refine wpList_ins _ rfl _ _ _ rfl w.heap.size 5 (by decide) _ ho4 ⟨#[99, 97, 115, 101]⟩ (.func (.func 90) #[.pointer (some ⟨pb, 0, none⟩)] #[]) rfl rfl rfl (by decide) ?_; intro y5 ho5 gy5) | fail)
  go_ret
  have hD : y5.ownsMap Tryz.prog 9 RV w.heap.size 6 (tabD pb) := ho5
  have hb0 : Below w.heap.size w (w.alloc (.map #[] 0)) := (Below.refl _ w).alloc (Nat.le_refl _) _
  have hb1 : Below w.heap.size w y0 := hb0.trans ⟨gy0.os, gy0.tape, gy0.output, gy0.size, fun k hk => gy0.block k (Nat.lt_of_lt_of_le hk hb0.size) (fun e => by cases e; omega)⟩
  have hb2 : Below w.heap.size w y1 := hb1.trans ⟨gy1.os, gy1.tape, gy1.output, gy1.size, fun k hk => gy1.block k (Nat.lt_of_lt_of_le hk hb1.size) (fun e => by cases e; omega)⟩
  have hb3 : Below w.heap.size w y2 := hb2.trans ⟨gy2.os, gy2.tape, gy2.output, gy2.size, fun k hk => gy2.block k (Nat.lt_of_lt_of_le hk hb2.size) (fun e => by cases e; omega)⟩
  have hb4 : Below w.heap.size w y3 := hb3.trans ⟨gy3.os, gy3.tape, gy3.output, gy3.size, fun k hk => gy3.block k (Nat.lt_of_lt_of_le hk hb3.size) (fun e => by cases e; omega)⟩
  have hb5 : Below w.heap.size w y4 := hb4.trans ⟨gy4.os, gy4.tape, gy4.output, gy4.size, fun k hk => gy4.block k (Nat.lt_of_lt_of_le hk hb4.size) (fun e => by cases e; omega)⟩
  have hb6 : Below w.heap.size w y5 := hb5.trans ⟨gy5.os, gy5.tape, gy5.output, gy5.size, fun k hk => gy5.block k (Nat.lt_of_lt_of_le hk hb5.size) (fun e => by cases e; omega)⟩
  refine ⟨w.heap.size, rfl, hb6, fun s hs => ?_⟩
  obtain ⟨v, ps, h1, h2⟩ := hD.lookup sk9 Tryz.underlying135 (zero60 y5) (zd := .held .nilFunc) (zp := []) rfl (Go.WideMaps.keyOf_string_mk Tryz.underlying9 (show s.size ≤ maxLen by unfold maxLen; omega))
  rw [tab_look] at h2
  obtain ⟨e1, _⟩ := Prod.mk.inj (Option.some.inj h2)
  obtain rfl := DataW.held.inj e1
  exact h1
end Go.Proofs.YtioddclglemlmaaGreatDoor
