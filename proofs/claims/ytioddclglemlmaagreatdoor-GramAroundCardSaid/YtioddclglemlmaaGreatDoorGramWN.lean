/- The parser's small functions. The parser's functions that take a token. The parser's small functions on words, and where a command may begin. Names, a word, and where a command may begin. Names. Conditions: as each part says. -/
import Derived.Test.YtioddclglemlmaaGreatDoorGramR
import Derived.Test.YtioddclglemlmaaGreatDoorLexW
/- The parser's small functions; conditions: a parser that stands among tokens, the last one the end. -/
namespace Go.Proofs.YtioddclglemlmaaGreatDoor
open Go.RowKit

theorem bt_self (a : ByteArray) : (a == a) = true := by
  cases a with | mk d => show (ByteArray.mk d == ByteArray.mk d) = true; exact (show (d == d) = true from beq_self_eq_true d)
theorem bt_ne {a b : ByteArray} (h : a ≠ b) : (a == b) = false := by
  cases a with | mk d => cases b with | mk e => exact (show (d == e) = false from beq_eq_false_iff_ne.2 fun k => h (by rw [k]))
theorem run_eqin_i (d : Nat) (a b : Int) (w : World) : (Op.equalIn (d + 1) 3 (.int .i64 a) (.int .i64 b)).run Tryz.prog w = .ok (a == b) w := by
  simp [Op.equalIn, run_underlying Tryz.underlying3]
theorem run_eqin_s (d : Nat) (a b : ByteArray) (w : World) : (Op.equalIn (d + 1) 9 (.string a) (.string b)).run Tryz.prog w = .ok (a == b) w := by
  simp [Op.equalIn, run_underlying Tryz.underlying9]
theorem part_i (x y : Value) (w : World) : (part 3 #[x, y] 0).run Tryz.prog w = .ok x w := by kernel_rfl
theorem part_s (x y : Value) (w : World) : (part 9 #[x, y] 1).run Tryz.prog w = .ok y w := by kernel_rfl
theorem run_eqin_tok (d : Nat) (a b : Int) (s t : ByteArray) (w : World) : (Op.equalIn (d + 2) 116 (.agg #[.int .i64 a, .string s]) (.agg #[.int .i64 b, .string t])).run Tryz.prog w = .ok ((a == b) && (s == t)) w := by
  rw [Op.equalIn]
  simp only [run_underlying Tryz.underlying116, Sem.run_bind, Result.andThen_ok]
  simp [part_i, part_s, run_eqin_i, run_eqin_s]
  cases h : (a == b) <;> cases h2 : (s == t) <;> simp_all
theorem run_eql_tok (a b : Int) (s t : ByteArray) (w : World) : (binOp .eql 116 (.agg #[.int .i64 a, .string s]) (.agg #[.int .i64 b, .string t])).run Tryz.prog w = .ok (.bool ((a == b) && (s == t))) w := by
  simp only [binOp]
  simp [show Op.equal 116 (.agg #[.int .i64 a, .string s]) (.agg #[.int .i64 b, .string t]) = Op.equalIn (9998 + 2) 116 (.agg #[.int .i64 a, .string s]) (.agg #[.int .i64 b, .string t]) from rfl, run_eqin_tok 9998 a b s t w]
section
variable {pb i d g cap : Nat} {T : List (Int × ByteArray)} {w : World}
set_option maxRecDepth 100000 in
theorem pfail_any (n : Int) (h : PAt w pb T i d g cap) : Calls Tryz.prog 31 #[.pointer (some ⟨pb, 0, none⟩), .int .i64 n] w fun e w' => e = .panicked (faultV i n) ∧ w' = w := by
  obtain ⟨c0, c1, c2, f0, f1, f2⟩ := h.cells
  clear h
  go_enter Tryz.func31, Tryz.ntmps31
  go_wp2
  exact ⟨rfl, rfl, rfl⟩
set_option maxRecDepth 100000 in
theorem kind_q (h : PAt w pb T i d g cap) : Calls Tryz.prog 30 #[.pointer (some ⟨pb, 0, none⟩)] w fun e w' => e = .returned (.int .i64 (tk T i).1) ∧ ∃ m, w' = w.drewN m := by
  obtain ⟨c0, c1, c2, f0, f1, f2⟩ := h.cells
  obtain ⟨t0, t1⟩ := h.tok i h.lt
  have hl := h.lt
  have hs := h.small
  obtain ⟨k, hk⟩ : ∃ k, (tk T i).1 = k := ⟨_, rfl⟩
  obtain ⟨n, hn⟩ : ∃ n, T.length = n := ⟨_, rfl⟩
  rw [hk] at t0 ⊢
  rw [hn] at c0 hl hs
  have q : (i : Int) < n := by omega
  clear h hk hn
  go_enter Tryz.func30, Tryz.ntmps30
  go_wp2
  go_quiet (fail)
  go_wp2
  go_ret
  exact ⟨rfl, _, rfl⟩
set_option maxRecDepth 100000 in
theorem is_q (k : Int) (x : ByteArray) (h : PAt w pb T i d g cap) : Calls Tryz.prog 61 #[.pointer (some ⟨pb, 0, none⟩), .int .i64 k, .string x] w fun e w' => e = .returned (.bool (isT T i k x)) ∧ ∃ m, w' = w.drewN m := by
  obtain ⟨c0, c1, c2, f0, f1, f2⟩ := h.cells
  obtain ⟨t0, t1⟩ := h.tok i h.lt
  have hl := h.lt
  have hs := h.small
  have hE : isT T i k x = (((tk T i).1 == k) && ((tk T i).2 == x)) := by
    unfold isT
    obtain ⟨a, b⟩ := tk T i
    by_cases q : a = k
    · by_cases r : b = x
      · subst q; subst r; rw [decide_eq_true rfl, beq_self_eq_true, bt_self]; rfl
      · rw [decide_eq_false (fun e => r (congrArg Prod.snd e)), bt_ne r, Bool.and_false]
    · rw [decide_eq_false (fun e => q (congrArg Prod.fst e)), beq_eq_false_iff_ne.2 q, Bool.false_and]
  obtain ⟨k1, hk⟩ : ∃ k, (tk T i).1 = k := ⟨_, rfl⟩
  obtain ⟨x1, hx⟩ : ∃ k, (tk T i).2 = k := ⟨_, rfl⟩
  obtain ⟨n, hn⟩ : ∃ n, T.length = n := ⟨_, rfl⟩
  rw [hk] at t0 hE
  rw [hx] at t1 hE
  rw [hn] at c0 hl hs
  rw [hE]
  have q : (i : Int) < n := by omega
  have EQ := run_eql_tok k1 k x1 x
  clear h hk hn hx hE
  go_enter Tryz.func61, Tryz.ntmps61
  go_wp2
  go_quiet (fail)
  go_wp2
  go_ret
  exact ⟨rfl, _, rfl⟩
end
end Go.Proofs.YtioddclglemlmaaGreatDoor

/- The parser's functions that take a token; conditions: a parser that stands among tokens, the last one the end. -/
namespace Go.Proofs.YtioddclglemlmaaGreatDoor
open Go.RowKit

def bump (b : Bool) (i : Nat) : Nat := if b then i + 1 else i
section
variable {pb i d g cap : Nat} {T : List (Int × ByteArray)} {w : World}
theorem isT_kind {k : Int} {x : ByteArray} (h : isT T i k x = true) : (tk T i).1 = k ∧ (tk T i).2 = x := by
  have := of_decide_eq_true h
  rw [this]; exact ⟨rfl, rfl⟩
theorem i64_succ {i n : Nat} (h : i < n) (hn : n ≤ 5001) : IntKind.i64.wrap ((i : Int) + 1) = (i : Int) + 1 := IntWalk.i64_in _ (by omega)
set_option maxRecDepth 100000 in
theorem take_any (k : Int) (x : ByteArray) (hk : k ≠ 4) (h : PAt w pb T i d g cap) : Calls Tryz.prog 46 #[.pointer (some ⟨pb, 0, none⟩), .int .i64 k, .string x] w fun e w' =>
    e = .returned (.bool (isT T i k x)) ∧ PAt w' pb T (bump (isT T i k x) i) d g cap ∧ Kept (Own1 pb) w w' := by
  have HI := Lib.hid (is_q k x h)
  have HP := Lib.hid h
  clear h
  obtain ⟨b, hb⟩ : ∃ b, isT T i k x = b := ⟨_, rfl⟩
  rw [hb] at HI ⊢
  have HB := Lib.hid hb
  clear hb
  cases b with
  | false =>
    go_enter Tryz.func46, Tryz.ntmps46
    go_wp2_with fail
    refine HI.out.mono ?_
    rintro e w1 ⟨rfl, m, hw1⟩
    obtain rfl := hw1.symm
    go_wp2
    go_ret
    exact ⟨rfl, HP.out.drewN m, (Kept.refl _ _).drewN m⟩
  | true =>
    have hmore := HP.out.more (by rw [(isT_kind HB.out).1]; exact hk)
    have wr := i64_succ (HP.out.lt) HP.out.small
    go_enter Tryz.func46, Tryz.ntmps46
    go_wp2_with fail
    refine HI.out.mono ?_
    rintro e w1 ⟨rfl, m, hw1⟩
    have hp1 := HP.out.drewN m
    rw [← hw1] at hp1
    obtain ⟨c0, c1, c2, f0, f1, f2⟩ := hp1.cells
    have HP1 := Lib.hid (hp1.at_ (i + 1) hmore)
    have HK1 := Lib.hid (show Kept (Own1 pb) w (w1.setCell ⟨pb, 1, none⟩ (.int .i64 (i + 1 : Nat))) from by rw [hw1]; exact ((Kept.refl _ _).drewN m).pset 1 _)
    clear hp1 hw1
    go_wp2
    go_ret
    exact ⟨rfl, HP1.out, HK1.out⟩
set_option maxRecDepth 100000 in
theorem op_any (x : ByteArray) (h : PAt w pb T i d g cap) : Calls Tryz.prog 63 #[.pointer (some ⟨pb, 0, none⟩), .string x] w fun e w' =>
    e = .returned (.bool (isO T i x)) ∧ PAt w' pb T (bump (isO T i x) i) d g cap ∧ Kept (Own1 pb) w w' := by
  have HT := Lib.hid (take_any 2 x (by decide) h)
  clear h
  unfold isO
  obtain ⟨b, hb⟩ : ∃ b, isT T i 2 x = b := ⟨_, rfl⟩
  rw [hb] at HT ⊢
  clear hb
  go_enter Tryz.func63, Tryz.ntmps63
  go_wp2_with fail
  refine HT.out.mono ?_
  rintro e w1 ⟨rfl, h⟩
  have H := Lib.hid h
  clear h
  go_wp2
  go_ret
  exact ⟨rfl, H.out⟩
set_option maxRecDepth 100000 in
theorem word_any (x : ByteArray) (h : PAt w pb T i d g cap) : Calls Tryz.prog 74 #[.pointer (some ⟨pb, 0, none⟩), .string x] w fun e w' =>
    e = .returned (.bool (isW T i x)) ∧ PAt w' pb T (bump (isW T i x) i) d g cap ∧ Kept (Own1 pb) w w' := by
  have HT := Lib.hid (take_any 1 x (by decide) h)
  clear h
  unfold isW
  obtain ⟨b, hb⟩ : ∃ b, isT T i 1 x = b := ⟨_, rfl⟩
  rw [hb] at HT ⊢
  clear hb
  go_enter Tryz.func74, Tryz.ntmps74
  go_wp2_with fail
  refine HT.out.mono ?_
  rintro e w1 ⟨rfl, h⟩
  have H := Lib.hid h
  clear h
  go_wp2
  go_ret
  exact ⟨rfl, H.out⟩
set_option maxRecDepth 100000 in
theorem must_any (b : Bool) (h : PAt w pb T i d g cap) : Calls Tryz.prog 92 #[.pointer (some ⟨pb, 0, none⟩), .bool b] w fun e w' =>
    w' = w ∧ e = if b then .returned (.tuple #[]) else .panicked (faultV i 31) := by
  have HF := Lib.hid (pfail_any 31 h)
  clear h
  cases b with
  | true =>
    go_enter Tryz.func92, Tryz.ntmps92
    go_wp2
    first | go_end0 | refine bodyPost_ret (results_none rfl _ _ _) rfl ?_
    exact ⟨rfl, rfl⟩
  | false =>
    go_enter Tryz.func92, Tryz.ntmps92
    go_wp2_with fail
    refine HF.out.mono ?_
    rintro e w1 ⟨rfl, hw1⟩
    obtain rfl := hw1.symm
    go_wp2
    exact ⟨rfl, rfl, rfl⟩
theorem iOf_p (h : PAt w pb T i d g cap) : iOf w pb = i := by
  obtain ⟨c0, c1, c2, f0, f1, f2⟩ := h.cells
  unfold iOf
  rw [c1]; rfl
set_option maxRecDepth 100000 in
theorem lines_any (h : PAt w pb T i d g cap) : Calls Tryz.prog 27 #[.pointer (some ⟨pb, 0, none⟩)] w fun e w' =>
    e = .returned (.tuple #[]) ∧ PAt w' pb T (lineP T i) d g cap ∧ Kept (Own1 pb) w w' ∧ i ≤ lineP T i := by
  obtain ⟨R, hR⟩ : ∃ R, lineP T i = R := ⟨_, rfl⟩
  rw [hR]
  have HR := Lib.hid hR
  have HX := Lib.hid h
  clear hR h
  go_enter Tryz.func27, Tryz.ntmps27
  go_wp2
  go_loopw [] (fun wi => ∃ j f : Nat, i ≤ j ∧ T.length ≤ f + j ∧ PAt wi pb T j d g cap ∧ Kept (Own1 pb) w wi ∧ Hid (lineF T f j = R)) (fun wi => T.length - iOf wi pb)
  case atStart => exact ⟨i, T.length, Nat.le_refl _, by omega, HX.out, Kept.refl _ _, HR⟩
  case round =>
    obtain ⟨j, f, hj, hf, hx, hb, hr⟩ := hrel
    have hlt := hx.lt
    obtain ⟨f, rfl⟩ : ∃ g, f = g + 1 := ⟨f - 1, by omega⟩
    have hst := hr.out
    rw [lineF] at hst
    have HM := Lib.hid (iOf_p hx)
    have HT := Lib.hid (take_any 3 ⟨#[10]⟩ (by decide) hx)
    have HB := Lib.hid hb
    have hnl : nlT T j = isT T j 3 ⟨#[10]⟩ := rfl
    rw [hnl] at hst
    obtain ⟨b, hbb⟩ : ∃ b, isT T j 3 ⟨#[10]⟩ = b := ⟨_, rfl⟩
    rw [hbb] at hst HT
    clear hr hx hb hnl hbb
    go_wp2_with fail
    refine HT.out.mono ?_
    rintro e w1 ⟨rfl, h1, h2⟩
    have HM1 := Lib.hid (iOf_p h1)
    have H1 := Lib.hid h1
    have H2 := Lib.hid (HB.out.trans h2)
    clear h1 h2
    have HS := Lib.hid hst
    clear hst
    cases b with
    | true =>
      go_wp2
      exact ⟨⟨j + 1, f, by omega, by omega, H1.out, H2.out, HS⟩, by rw [HM.out, show iOf w1 pb = j + 1 from HM1.out]; omega⟩
    | false =>
      go_wp2
      first | go_end0 | refine bodyPost_ret (results_none rfl _ _ _) rfl ?_
      have e : j = R := HS.out
      subst e
      exact ⟨rfl, H1.out, H2.out, hj⟩
set_option maxRecDepth 100000 in
theorem sep_any (h : PAt w pb T i d g cap) : Calls Tryz.prog 50 #[.pointer (some ⟨pb, 0, none⟩)] w fun e w' =>
    e = .returned (.bool (sepP T i).isSome) ∧ PAt w' pb T ((sepP T i).getD i) d g cap ∧ Kept (Own1 pb) w w' ∧ i ≤ (sepP T i).getD i ∧ ((sepP T i).isSome = true → i < (sepP T i).getD i) := by
  have HO := Lib.hid (op_any bSemi h)
  unfold sepP
  obtain ⟨b, hb⟩ : ∃ b, isO T i bSemi = b := ⟨_, rfl⟩
  rw [hb] at HO ⊢
  clear hb h
  have HL := Lib.hid fun (w1 : World) (i : Nat) (h : PAt w1 pb T i d g cap) => lines_any h
  unfold bSemi at HO
  cases b with
  | true =>
    simp only [Bool.true_or, if_true, Option.isSome_some, Option.getD_some]
    go_enter Tryz.func50, Tryz.ntmps50
    go_wp2_with fail
    refine HO.out.mono ?_
    rintro e w1 ⟨rfl, h1, h2⟩
    have HL := Lib.hid (HL.out _ _ h1)
    have H2 := Lib.hid h2
    clear h1 h2
    go_wp2_with fail
    refine HL.out.mono ?_
    rintro e w2 ⟨rfl, h3, h4, h5⟩
    have H3 := Lib.hid h3
    have H4 := Lib.hid (H2.out.trans h4)
    clear h3 h4
    go_wp2
    go_ret
    exact ⟨rfl, H3.out, H4.out, Nat.le_trans (Nat.le_succ _) h5, fun _ => (show i + 1 ≤ _ from h5)⟩
  | false =>
    rw [Bool.false_or]
    have HT := Lib.hid fun (w1 : World) (h : PAt w1 pb T i d g cap) => take_any 3 ⟨#[10]⟩ (by decide) h
    have hnl : nlT T i = isT T i 3 ⟨#[10]⟩ := rfl
    rw [hnl]
    obtain ⟨b, hb⟩ : ∃ b, isT T i 3 ⟨#[10]⟩ = b := ⟨_, rfl⟩
    rw [hb] at HT ⊢
    clear hb hnl
    go_enter Tryz.func50, Tryz.ntmps50
    go_wp2_with fail
    refine HO.out.mono ?_
    rintro e w1 ⟨rfl, h1, h2⟩
    have HT := Lib.hid (HT.out _ h1)
    have H2 := Lib.hid h2
    clear h1 h2
    go_wp2_with fail
    refine HT.out.mono ?_
    rintro e w2 ⟨rfl, h1, h3⟩
    have H3 := Lib.hid (H2.out.trans h3)
    cases b with
    | true =>
      have HL := Lib.hid (HL.out _ _ h1)
      clear h1 h3
      go_wp2_with fail
      refine HL.out.mono ?_
      rintro e w3 ⟨rfl, h3, h4, h5⟩
      have H4 := Lib.hid (H3.out.trans h4)
      have H1 := Lib.hid h3
      clear h3 h4
      go_wp2
      go_ret
      exact ⟨rfl, H1.out, H4.out, Nat.le_trans (Nat.le_succ _) h5, (show i + 1 ≤ _ from h5)⟩
    | false =>
      have H1 := Lib.hid h1
      clear h1 h3
      go_wp2
      go_ret
      exact ⟨rfl, H1.out, H3.out⟩
end
end Go.Proofs.YtioddclglemlmaaGreatDoor

/- The parser's small functions on words, and where a command may begin; conditions: a parser that stands among tokens, the last one the end. -/
namespace Go.Proofs.YtioddclglemlmaaGreatDoor
open Go.RowKit

theorem tl_eq {s : ByteArray} {l : List UInt8} (h : s.toList = l) : s = ⟨l.toArray⟩ := by
  subst h; apply ba_ext; rw [ba_toList]
theorem tl_ne {s : ByteArray} {l : List UInt8} (h : ¬ s.toList = l) : decide (s = ⟨l.toArray⟩) = false := by
  apply decide_eq_false
  rintro rfl
  exact h (by rw [ba_toList])

set_option maxRecDepth 100000 in
set_option maxHeartbeats 2000000 in
theorem ends_any (s : ByteArray) (w : World) : Calls Tryz.prog 47 #[.string s] w fun e w' => e = .returned (.bool (endsB s)) ∧ ∃ m, w' = w.drewN m := by
  by_cases h0 : s.toList = [116, 104, 101, 110]
  · obtain rfl := tl_eq h0
    have e : endsB ⟨#[116, 104, 101, 110]⟩ = true := by decide
    show Calls Tryz.prog 47 #[.string ⟨#[116, 104, 101, 110]⟩] w fun e w' => e = .returned (.bool (endsB ⟨#[116, 104, 101, 110]⟩)) ∧ _
    rw [e]
    clear e h0
    go_enter Tryz.func47, Tryz.ntmps47
    go_wp2
    go_ret
    exact ⟨rfl, 0, rfl⟩
  by_cases h1 : s.toList = [101, 108, 105, 102]
  · obtain rfl := tl_eq h1
    have e : endsB ⟨#[101, 108, 105, 102]⟩ = true := by decide
    show Calls Tryz.prog 47 #[.string ⟨#[101, 108, 105, 102]⟩] w fun e w' => e = .returned (.bool (endsB ⟨#[101, 108, 105, 102]⟩)) ∧ _
    rw [e]
    clear e h0 h1
    go_enter Tryz.func47, Tryz.ntmps47
    go_wp2
    go_ret
    exact ⟨rfl, 0, rfl⟩
  by_cases h2 : s.toList = [101, 108, 115, 101]
  · obtain rfl := tl_eq h2
    have e : endsB ⟨#[101, 108, 115, 101]⟩ = true := by decide
    show Calls Tryz.prog 47 #[.string ⟨#[101, 108, 115, 101]⟩] w fun e w' => e = .returned (.bool (endsB ⟨#[101, 108, 115, 101]⟩)) ∧ _
    rw [e]
    clear e h0 h1 h2
    go_enter Tryz.func47, Tryz.ntmps47
    go_wp2
    go_ret
    exact ⟨rfl, 0, rfl⟩
  by_cases h3 : s.toList = [102, 105]
  · obtain rfl := tl_eq h3
    have e : endsB ⟨#[102, 105]⟩ = true := by decide
    show Calls Tryz.prog 47 #[.string ⟨#[102, 105]⟩] w fun e w' => e = .returned (.bool (endsB ⟨#[102, 105]⟩)) ∧ _
    rw [e]
    clear e h0 h1 h2 h3
    go_enter Tryz.func47, Tryz.ntmps47
    go_wp2
    go_ret
    exact ⟨rfl, 0, rfl⟩
  by_cases h4 : s.toList = [100, 111]
  · obtain rfl := tl_eq h4
    have e : endsB ⟨#[100, 111]⟩ = true := by decide
    show Calls Tryz.prog 47 #[.string ⟨#[100, 111]⟩] w fun e w' => e = .returned (.bool (endsB ⟨#[100, 111]⟩)) ∧ _
    rw [e]
    clear e h0 h1 h2 h3 h4
    go_enter Tryz.func47, Tryz.ntmps47
    go_wp2
    go_ret
    exact ⟨rfl, 0, rfl⟩
  by_cases h5 : s.toList = [100, 111, 110, 101]
  · obtain rfl := tl_eq h5
    have e : endsB ⟨#[100, 111, 110, 101]⟩ = true := by decide
    show Calls Tryz.prog 47 #[.string ⟨#[100, 111, 110, 101]⟩] w fun e w' => e = .returned (.bool (endsB ⟨#[100, 111, 110, 101]⟩)) ∧ _
    rw [e]
    clear e h0 h1 h2 h3 h4 h5
    go_enter Tryz.func47, Tryz.ntmps47
    go_wp2
    go_ret
    exact ⟨rfl, 0, rfl⟩
  by_cases h6 : s.toList = [101, 115, 97, 99]
  · obtain rfl := tl_eq h6
    have e : endsB ⟨#[101, 115, 97, 99]⟩ = true := by decide
    show Calls Tryz.prog 47 #[.string ⟨#[101, 115, 97, 99]⟩] w fun e w' => e = .returned (.bool (endsB ⟨#[101, 115, 97, 99]⟩)) ∧ _
    rw [e]
    clear e h0 h1 h2 h3 h4 h5 h6
    go_enter Tryz.func47, Tryz.ntmps47
    go_wp2
    go_ret
    exact ⟨rfl, 0, rfl⟩
  by_cases h7 : s.toList = [125]
  · obtain rfl := tl_eq h7
    have e : endsB ⟨#[125]⟩ = true := by decide
    show Calls Tryz.prog 47 #[.string ⟨#[125]⟩] w fun e w' => e = .returned (.bool (endsB ⟨#[125]⟩)) ∧ _
    rw [e]
    clear e h0 h1 h2 h3 h4 h5 h6 h7
    go_enter Tryz.func47, Tryz.ntmps47
    go_wp2
    go_ret
    exact ⟨rfl, 0, rfl⟩
  have e : endsB s = false := by
    unfold endsB
    rw [show decide (s = bThen) = false from tl_ne h0, show decide (s = bElif) = false from tl_ne h1, show decide (s = bElse) = false from tl_ne h2, show decide (s = bFi) = false from tl_ne h3, show decide (s = bDo) = false from tl_ne h4, show decide (s = bDone) = false from tl_ne h5, show decide (s = bEsac) = false from tl_ne h6, show decide (s = bRB) = false from tl_ne h7]
    rfl
  have q0 : (s.toList == [116, 104, 101, 110]) = false := beq_eq_false_iff_ne.2 h0
  have q1 : (s.toList == [101, 108, 105, 102]) = false := beq_eq_false_iff_ne.2 h1
  have q2 : (s.toList == [101, 108, 115, 101]) = false := beq_eq_false_iff_ne.2 h2
  have q3 : (s.toList == [102, 105]) = false := beq_eq_false_iff_ne.2 h3
  have q4 : (s.toList == [100, 111]) = false := beq_eq_false_iff_ne.2 h4
  have q5 : (s.toList == [100, 111, 110, 101]) = false := beq_eq_false_iff_ne.2 h5
  have q6 : (s.toList == [101, 115, 97, 99]) = false := beq_eq_false_iff_ne.2 h6
  have q7 : (s.toList == [125]) = false := beq_eq_false_iff_ne.2 h7
  rw [e]
  clear e
  go_enter Tryz.func47, Tryz.ntmps47
  go_wp2
  go_ret
  exact ⟨rfl, 0, rfl⟩
set_option maxRecDepth 100000 in
set_option maxHeartbeats 2000000 in
theorem rd_any (s : ByteArray) (w : World) : Calls Tryz.prog 48 #[.string s] w fun e w' => e = .returned (.bool (rdB s)) ∧ ∃ m, w' = w.drewN m := by
  by_cases h0 : s.toList = [60]
  · obtain rfl := tl_eq h0
    have e : rdB ⟨#[60]⟩ = true := by decide
    show Calls Tryz.prog 48 #[.string ⟨#[60]⟩] w fun e w' => e = .returned (.bool (rdB ⟨#[60]⟩)) ∧ _
    rw [e]
    clear e h0
    go_enter Tryz.func48, Tryz.ntmps48
    go_wp2
    go_ret
    exact ⟨rfl, 0, rfl⟩
  by_cases h1 : s.toList = [62]
  · obtain rfl := tl_eq h1
    have e : rdB ⟨#[62]⟩ = true := by decide
    show Calls Tryz.prog 48 #[.string ⟨#[62]⟩] w fun e w' => e = .returned (.bool (rdB ⟨#[62]⟩)) ∧ _
    rw [e]
    clear e h0 h1
    go_enter Tryz.func48, Tryz.ntmps48
    go_wp2
    go_ret
    exact ⟨rfl, 0, rfl⟩
  by_cases h2 : s.toList = [62, 62]
  · obtain rfl := tl_eq h2
    have e : rdB ⟨#[62, 62]⟩ = true := by decide
    show Calls Tryz.prog 48 #[.string ⟨#[62, 62]⟩] w fun e w' => e = .returned (.bool (rdB ⟨#[62, 62]⟩)) ∧ _
    rw [e]
    clear e h0 h1 h2
    go_enter Tryz.func48, Tryz.ntmps48
    go_wp2
    go_ret
    exact ⟨rfl, 0, rfl⟩
  have e : rdB s = false := by
    unfold rdB
    rw [show decide (s = bLt) = false from tl_ne h0, show decide (s = bGt) = false from tl_ne h1, show decide (s = bGG) = false from tl_ne h2]
    rfl
  have q0 : (s.toList == [60]) = false := beq_eq_false_iff_ne.2 h0
  have q1 : (s.toList == [62]) = false := beq_eq_false_iff_ne.2 h1
  have q2 : (s.toList == [62, 62]) = false := beq_eq_false_iff_ne.2 h2
  rw [e]
  clear e
  go_enter Tryz.func48, Tryz.ntmps48
  go_wp2
  go_ret
  exact ⟨rfl, 0, rfl⟩
end Go.Proofs.YtioddclglemlmaaGreatDoor

/- Names, a word, and where a command may begin; conditions: a parser that stands among tokens, the last one the end. -/
namespace Go.Proofs.YtioddclglemlmaaGreatDoor
open Go.RowKit

set_option maxRecDepth 100000 in
set_option maxHeartbeats 2000000 in
theorem letter_any (c : UInt8) (w : World) : Calls Tryz.prog 99 #[.int .u8 c.toNat] w fun e w' => e = .returned (.bool (lettB c)) ∧ w' = w := by
  have h95 : (c == 95) = decide (c.toNat = 95) := by
    by_cases q : c = 95
    · subst q; rfl
    · rw [beq_eq_false_iff_ne.2 q, decide_eq_false]; intro e; exact q (UInt8.toNat_inj.1 e)
  unfold lettB
  rw [h95]
  clear h95
  obtain ⟨n, hn⟩ : ∃ n, c.toNat = n := ⟨_, rfl⟩
  rw [hn]
  clear hn
  by_cases q1 : 97 ≤ n
  · have i1 : (97 : Int) ≤ n := by omega
    have i3 : (65 : Int) ≤ n := by omega
    have i4 : ¬ (n : Int) ≤ 90 := by omega
    have n4 : ¬ n ≤ 90 := by omega
    have n3 : 65 ≤ n := by omega
    have i5 : ¬ (n : Int) = 95 := by omega
    have n5 : ¬ n = 95 := by omega
    by_cases q2 : n ≤ 122
    · have i2 : (n : Int) ≤ 122 := by omega
      go_enter Tryz.func99, Tryz.ntmps99
      go_wp2
      go_ret
      exact ⟨ret_bool (by simp_all), rfl⟩
    · have i2 : ¬ (n : Int) ≤ 122 := by omega
      go_enter Tryz.func99, Tryz.ntmps99
      go_wp2
      go_ret
      exact ⟨ret_bool (by simp_all), rfl⟩
  · have i1 : ¬ (97 : Int) ≤ n := by omega
    by_cases q3 : 65 ≤ n
    · have i3 : (65 : Int) ≤ n := by omega
      by_cases q4 : n ≤ 90
      · have i4 : (n : Int) ≤ 90 := by omega
        go_enter Tryz.func99, Tryz.ntmps99
        go_wp2
        go_ret
        exact ⟨ret_bool (by simp_all), rfl⟩
      · have i4 : ¬ (n : Int) ≤ 90 := by omega
        by_cases q5 : n = 95
        · subst q5
          go_enter Tryz.func99, Tryz.ntmps99
          go_wp2
          go_ret
          exact ⟨rfl, rfl⟩
        · have i5 : ¬ (n : Int) = 95 := by omega
          go_enter Tryz.func99, Tryz.ntmps99
          go_wp2
          go_ret
          exact ⟨ret_bool (by simp_all), rfl⟩
    · have i3 : ¬ (65 : Int) ≤ n := by omega
      have i5 : ¬ (n : Int) = 95 := by omega
      have n5 : ¬ n = 95 := by omega
      go_enter Tryz.func99, Tryz.ntmps99
      go_wp2
      go_ret
      exact ⟨ret_bool (by simp_all), rfl⟩
section
variable {pb i d g cap : Nat} {T : List (Int × ByteArray)} {w : World}
set_option maxRecDepth 100000 in
set_option maxHeartbeats 1000000 in
theorem begins_any (h : PAt w pb T i d g cap) : Calls Tryz.prog 28 #[.pointer (some ⟨pb, 0, none⟩)] w fun e w' => e = .returned (.bool (begP T i)) ∧ ∃ m, w' = w.drewN m := by
  have HK := Lib.hid (kind_q h)
  unfold begP
  obtain ⟨c0, c1, c2, f0, f1, f2⟩ := h.cells
  obtain ⟨t0, t1⟩ := h.tok i h.lt
  have hl := h.lt
  have hs := h.small
  obtain ⟨k, hk⟩ : ∃ k, (tk T i).1 = k := ⟨_, rfl⟩
  obtain ⟨x, hx⟩ : ∃ k, (tk T i).2 = k := ⟨_, rfl⟩
  obtain ⟨n, hn⟩ : ∃ n, T.length = n := ⟨_, rfl⟩
  rw [hk] at t0 HK ⊢
  rw [hx] at t1 ⊢
  rw [hn] at c0 hl hs
  have q : (i : Int) < n := by omega
  have EA := Lib.hid fun w => ends_any x w
  have HP := Lib.hid h
  have HQ1 := Lib.hid hk
  have HQ2 := Lib.hid hx
  have HQ3 := Lib.hid hn
  have RA := Lib.hid fun w => rd_any x w
  clear h hk hn hx
  by_cases k1 : k = 1
  · subst k1
    rw [if_pos rfl]
    obtain ⟨b, hb⟩ : ∃ b, endsB x = b := ⟨_, rfl⟩
    rw [hb] at EA ⊢
    clear hb
    go_enter Tryz.func28, Tryz.ntmps28
    go_wp2_with fail
    refine HK.out.mono ?_
    rintro e w1 ⟨rfl, m, hw1⟩
    have hp1 := HP.out.drewN m
    rw [← hw1] at hp1
    clear c0 c1 c2 f0 f1 f2 t0 t1
    obtain ⟨c0, c1, c2, f0, f1, f2⟩ := hp1.cells
    obtain ⟨t0, t1⟩ := hp1.tok i hp1.lt
    rw [HQ1.out] at t0
    rw [HQ2.out] at t1
    rw [HQ3.out] at c0
    have HW := Lib.hid hw1
    clear hp1 hw1
    go_wp2
    go_quiet (first | (go_at_call 47; exact Calls.quiet_of (EA.out _)) | fail)
    go_wp2
    go_ret
    exact ⟨rfl, by rw [HW.out, World.drewN_drewN]; exact ⟨_, rfl⟩⟩
  · rw [if_neg k1]
    have k1' : (k == 1) = false := beq_eq_false_iff_ne.2 k1
    by_cases k2 : k = 2
    · subst k2
      rw [if_pos rfl]
      by_cases x1 : x.toList = [40]
      · obtain rfl := tl_eq x1
        rw [show decide ((⟨#[40]⟩ : ByteArray) = bOpen) = true from rfl, Bool.true_or]
        clear x1
        go_enter Tryz.func28, Tryz.ntmps28
        go_wp2_with fail
        refine HK.out.mono ?_
        rintro e w1 ⟨rfl, m, hw1⟩
        obtain rfl := hw1.symm
        go_wp2
        go_quiet (fail)
        go_wp2
        go_ret
        exact ⟨rfl, _, rfl⟩
      · rw [show decide (x = bOpen) = false from tl_ne x1, Bool.false_or]
        have x1' : (x.toList == [40]) = false := beq_eq_false_iff_ne.2 x1
        obtain ⟨b, hb⟩ : ∃ b, rdB x = b := ⟨_, rfl⟩
        rw [hb] at RA ⊢
        clear hb
        go_enter Tryz.func28, Tryz.ntmps28
        go_wp2_with fail
        refine HK.out.mono ?_
        rintro e w1 ⟨rfl, m, hw1⟩
        obtain rfl := hw1.symm
        go_wp2
        go_quiet (fail)
        go_wp2_with fail
        refine (RA.out _).mono ?_
        rintro e w1 ⟨rfl, m2, hw2⟩
        obtain rfl := hw2.symm
        go_wp2
        go_ret
        exact ⟨rfl, _, rfl⟩
    · rw [if_neg k2]
      have k2' : (k == 2) = false := beq_eq_false_iff_ne.2 k2
      go_enter Tryz.func28, Tryz.ntmps28
      go_wp2_with fail
      refine HK.out.mono ?_
      rintro e w1 ⟨rfl, m, hw1⟩
      obtain rfl := hw1.symm
      go_wp2
      go_ret
      exact ⟨rfl, _, rfl⟩
set_option maxRecDepth 100000 in
set_option maxHeartbeats 1000000 in
theorem text_any (h : PAt w pb T i d g cap) : Calls Tryz.prog 93 #[.pointer (some ⟨pb, 0, none⟩)] w fun e w' => PaR pb T g cap i d w (fun _ u s => u = .string s) (textP T i) e w' := by
  have HK := Lib.hid (kind_q h)
  have HF := Lib.hid fun m => pfail_any 31 (h.drewN m)
  have HP := Lib.hid h
  unfold textP
  obtain ⟨c0, c1, c2, f0, f1, f2⟩ := h.cells
  obtain ⟨t0, t1⟩ := h.tok i h.lt
  have hs := h.small
  obtain ⟨k, hk⟩ : ∃ k, (tk T i).1 = k := ⟨_, rfl⟩
  obtain ⟨x, hx⟩ : ∃ k, (tk T i).2 = k := ⟨_, rfl⟩
  rw [hk] at t0 HK ⊢
  rw [hx] at t1 ⊢
  by_cases k1 : k = 1
  · subst k1
    rw [if_pos rfl]
    have hm := h.more (by rw [hk]; decide)
    have wr := i64_succ h.lt h.small
    have ws : IntKind.i64.wrap ((i : Int) + 1 - 1) = i := by rw [IntWalk.i64_in _ (by omega)]; omega
    have HA := Lib.hid fun m => (h.drewN m).at_ (i + 1) hm
    obtain ⟨n, hn⟩ : ∃ n, T.length = n := ⟨_, rfl⟩
    rw [hn] at c0 hs hm
    have q : (i : Int) < n := by omega
    have ng := h.ne
    clear h hk hx hn
    go_enter Tryz.func93, Tryz.ntmps93
    go_wp2_with fail
    refine HK.out.mono ?_
    rintro e w1 ⟨rfl, m, hw1⟩
    obtain rfl := hw1.symm
    go_wp2
    go_quiet (fail)
    go_wp2
    go_ret
    exact ⟨(((Kept.refl _ _).drewN m).pset 1 _).drewN _, _, rfl, rfl, (HA.out m).drewN _, Nat.le_succ _⟩
  · rw [if_neg k1]
    have k1' : (k == 1) = false := beq_eq_false_iff_ne.2 k1
    clear h hk hx
    go_enter Tryz.func93, Tryz.ntmps93
    go_wp2_with fail
    refine HK.out.mono ?_
    rintro e w1 ⟨rfl, m, hw1⟩
    obtain rfl := hw1.symm
    go_wp2_with fail
    refine (HF.out m).mono ?_
    rintro e w1 ⟨rfl, hw1⟩
    obtain rfl := hw1.symm
    go_wp2
    exact ⟨rfl, (Kept.refl _ _).drewN m, _, rfl⟩
end
end Go.Proofs.YtioddclglemlmaaGreatDoor

/- Names; no condition beside the text's size. -/
namespace Go.Proofs.YtioddclglemlmaaGreatDoor
open Go.RowKit

theorem namedL_drop (l : List UInt8) (j : Nat) (f : Bool) (h : j < l.length) : namedL f (l.drop j) = ((lettB (l[j]) || (!f && 48 ≤ (l[j]).toNat && (l[j]).toNat ≤ 57)) && namedL false (l.drop (j + 1))) := by
  rw [List.drop_eq_getElem_cons h, namedL]
set_option maxRecDepth 100000 in
set_option maxHeartbeats 2000000 in
theorem named_any (s : ByteArray) (w : World) (hs : s.size ≤ 70000) : Calls Tryz.prog 95 #[.string s] w fun e w' => e = .returned (.bool (namedB s)) ∧ w' = w := by
  have HE : Hid (namedB s = (!(s.toList == []) && namedL true s.data.toList)) := by unfold namedB; rw [ba_toList]; rfl
  have LA := Lib.hid fun c => letter_any c w
  have HN : Hid (namedL true (s.data.toList.drop 0) = namedL true s.data.toList) := Lib.hid (by rw [List.drop_zero])
  obtain ⟨R, hR⟩ : ∃ R, namedB s = R := ⟨_, rfl⟩
  rw [hR] at HE ⊢
  clear hR
  obtain ⟨N, hN⟩ : ∃ N, namedL true s.data.toList = N := ⟨_, rfl⟩
  rw [hN] at HE HN
  clear hN
  go_enter Tryz.func95, Tryz.ntmps95
  go_wp2
  go_loopw [6] (fun v wi => ∃ j : Nat, v = .int .i64 j ∧ j ≤ s.size ∧ wi = w ∧ Hid (namedL (decide (j = 0)) (s.data.toList.drop j) = N)) (fun v wi => s.size - (match v with | .int _ n => n.toNat | _ => 0))
  case atStart => exact ⟨0, rfl, Nat.zero_le _, rfl, HN⟩
  case round =>
    obtain ⟨j, rfl, hj, rfl, hr⟩ := hrel
    by_cases hlt : j < s.size
    · have hb2 := bget s j hlt
      have hgl : s.data.toList[j]'(by simpa using hlt) = s.get! j := get_list s j hlt
      have hst := hr.out
      rw [namedL_drop _ _ _ (by simpa using hlt), hgl] at hst
      obtain ⟨c, hc⟩ : ∃ c, s.get! j = c := ⟨_, rfl⟩
      rw [hc] at hst hb2
      have qj : (j : Int) < s.size := by omega
      have wj : IntKind.i64.wrap ((j : Int) + 1) = (j : Int) + 1 := IntWalk.i64_in _ (by omega)
      have LA := Lib.hid (LA.out c)
      obtain ⟨b, hb⟩ : ∃ b, lettB c = b := ⟨_, rfl⟩
      rw [hb] at LA hst
      clear hr hgl hc hb
      cases b with
      | true =>
        rw [Bool.true_or, Bool.true_and] at hst
        have HS := Lib.hid hst
        clear hst
        go_wp2_with fail
        refine LA.out.mono ?_
        rintro e w1 ⟨rfl, hw1⟩
        obtain rfl := hw1.symm
        go_wp2
        refine ⟨⟨j + 1, by simp, hlt, by simpa using HS⟩, by simp; omega⟩
      | false =>
        rw [Bool.false_or] at hst
        by_cases hj0 : j = 0
        · subst hj0
          have hN : N = false := by rw [← hst]; rfl
          have HE := Lib.hid (show R = false from by rw [HE.out, hN, Bool.and_false])
          clear hst hN
          go_wp2_with fail
          refine LA.out.mono ?_
          rintro e w1 ⟨rfl, hw1⟩
          obtain rfl := hw1.symm
          go_wp2
          go_ret
          exact ⟨ret_bool HE.out.symm, rfl⟩
        · have hj1 : ((j : Int) == 0) = false := beq_eq_false_iff_ne.2 (by omega)
          have hj2 : ¬ (j : Int) = 0 := by omega
          rw [decide_eq_false hj0, Bool.not_false, Bool.true_and] at hst
          by_cases h48 : 48 ≤ c.toNat
          · have i48 : decide ((c.toNat : Int) < 48) = false := decide_eq_false (by omega)
            have j48 : ¬ (c.toNat : Int) < 48 := by omega
            by_cases h57 : c.toNat ≤ 57
            · have i57 : decide ((57 : Int) < (c.toNat : Int)) = false := decide_eq_false (by omega)
              have j57 : ¬ (57 : Int) < (c.toNat : Int) := by omega
              rw [decide_eq_true h48, decide_eq_true h57, Bool.and_self, Bool.true_and] at hst
              have HS := Lib.hid hst
              clear hst
              go_wp2_with fail
              refine LA.out.mono ?_
              rintro e w1 ⟨rfl, hw1⟩
              obtain rfl := hw1.symm
              go_wp2
              exact ⟨⟨j + 1, by simp, hlt, by simpa using HS⟩, by simp; omega⟩
            · have i57 : decide ((57 : Int) < (c.toNat : Int)) = true := decide_eq_true (by omega)
              have j57 : (57 : Int) < (c.toNat : Int) := by omega
              have hN : N = false := by rw [← hst, decide_eq_false h57, Bool.and_false, Bool.false_and]
              have HE := Lib.hid (show R = false from by rw [HE.out, hN, Bool.and_false])
              clear hst hN
              go_wp2_with fail
              refine LA.out.mono ?_
              rintro e w1 ⟨rfl, hw1⟩
              obtain rfl := hw1.symm
              go_wp2
              go_ret
              exact ⟨ret_bool HE.out.symm, rfl⟩
          · have i48 : decide ((c.toNat : Int) < 48) = true := decide_eq_true (by omega)
            have j48 : (c.toNat : Int) < 48 := by omega
            have hN : N = false := by rw [← hst, decide_eq_false h48, Bool.false_and, Bool.false_and]
            have HE := Lib.hid (show R = false from by rw [HE.out, hN, Bool.and_false])
            clear hst hN
            go_wp2_with fail
            refine LA.out.mono ?_
            rintro e w1 ⟨rfl, hw1⟩
            obtain rfl := hw1.symm
            go_wp2
            go_ret
            exact ⟨ret_bool HE.out.symm, rfl⟩
    · have qj : decide ((j : Int) < s.size) = false := decide_eq_false (by omega)
      have hst := hr.out
      rw [List.drop_eq_nil_of_le (by simp; omega), namedL] at hst
      subst hst
      have HE := HE.out
      rw [Bool.and_true] at HE
      have HE := Lib.hid HE
      clear hr
      go_wp2
      go_ret
      exact ⟨ret_bool (by rw [HE.out]; cases s.toList <;> rfl), rfl⟩
end Go.Proofs.YtioddclglemlmaaGreatDoor
