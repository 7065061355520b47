/- A command; conditions: a parser that stands among tokens, the last one the end; what the compounds tell of what lies within. -/
import Derived.Test.YtioddclglemlmaaGreatDoorGramMp
import Derived.Test.YtioddclglemlmaaGreatDoorGramLL
namespace Go.Proofs.YtioddclglemlmaaGreatDoor
open Go.RowKit


/-- a command without redirections -/
def NoR (t : CmdT) : Prop := ∃ kind no az ws kids pats bodies, t = .mk kind no az ws [] kids pats bodies
/-- the function that a form is -/
def fvP (pb : Nat) (T : List (Int × ByteArray)) (i : Nat) : Value := if isO T i bOpen then .func (.func 82) #[.pointer (some ⟨pb, 0, none⟩)] #[] else if (tk T i).1 = 1 then formV pb (tk T i).2 else .nilFunc
theorem run_eqin_fn60 (d : Nat) (fn : Fn) (first cap : Array Value) (w : World) : (Op.equalIn (d + 1) 60 (.func fn first cap) .nilFunc).run Tryz.prog w = .ok false w := by
  simp [Op.equalIn, run_underlying Tryz.underlying60]
theorem run_eqin_nil60 (d : Nat) (w : World) : (Op.equalIn (d + 1) 60 .nilFunc .nilFunc).run Tryz.prog w = .ok true w := by
  simp [Op.equalIn, run_underlying Tryz.underlying60]
theorem run_eq_fn60 (fn : Fn) (first cap : Array Value) (w : World) : (binOp .eql 60 (.func fn first cap) .nilFunc).run Tryz.prog w = .ok (.bool false) w := by
  simp only [binOp]
  simp [show Op.equal 60 (.func fn first cap) .nilFunc = Op.equalIn (9999 + 1) 60 (.func fn first cap) .nilFunc from rfl, run_eqin_fn60 9999 fn first cap w]
theorem run_eq_nil60 (w : World) : (binOp .eql 60 .nilFunc .nilFunc).run Tryz.prog w = .ok (.bool true) w := by
  simp only [binOp]
  simp [show Op.equal 60 .nilFunc .nilFunc = Op.equalIn (9999 + 1) 60 .nilFunc .nilFunc from rfl, run_eqin_nil60 9999 w]
/-- a command that was told lies in a variable: redirections may be put to it -/
theorem BT.ofCmd {W : World} {rb cb base a n : Nat} {kind : Int} {no : Bool} {v2 v3 v5 v6 : Value} {az ws : List ByteArray} {kids : List CmdT} {pats : List (List ByteArray)} {bodies : List CmdT}
    (hrow : W.heap[cb]? = some (.cells #[.int .i64 kind, .bool no, v2, v3, .slice none 0 0, v5, v6] 28 (0, 0))) (hrr : ∃ z0 z1 z2 z3 z4 z5 z6, W.heap[rb]? = some (.cells #[z0, z1, z2, z3, z4, z5, z6] 28 (0, 0)))
    (hc : CmdAt W (fun k => a ≤ k ∧ k < n) [.int .i64 kind, .bool no, v2, v3, .slice none 0 0, v5, v6] (.mk kind no az ws [] kids pats bodies)) (hb : base ≤ rb) (hra : rb < a) (han : a ≤ n) (hn : n ≤ cb) :
    ∃ V N X col, BT W rb cb base kind no (fun f => decide (f ≠ 4)) az ws [] kids pats bodies V N X col := by
  obtain ⟨h2, h3, h4, ⟨kc, h5, hk⟩, pc, bc, h6, hm⟩ := hc.kids
  have hcb := lt_of_block hrow
  have low : ∀ {e : TypeId} {s : Nat} {v : Value} {m : Nat} {xs : List Value}, RdG W (fun k => a ≤ k ∧ k < n) e s v m xs → OwnG W base e s v m xs := fun {e s v m xs} h => by
    obtain ⟨g1, g2⟩ := h
    refine ⟨g1.1, ?_⟩
    rcases g1.2 with e1 | ⟨g, cap, cur, e1, e2, e3⟩
    · exact .inl e1
    · have := g2 g (by rw [e1]; simp [Value.ownBlock])
      exact .inr ⟨g, cap, cur, e1, by omega, e3⟩
  refine ⟨fun f => if f = 2 then v2 else if f = 3 then v3 else if f = 4 then .slice none 0 0 else if f = 5 then v5 else v6, fun f => if f = 2 then az.length else if f = 3 then ws.length else if f = 4 then 0 else if f = 5 then kids.length else pats.length, fun f => if f = 2 then strV az else if f = 3 then strV ws else if f = 4 then [] else if f = 5 then kc.flatten else ArmC pc bc, fun k => if k = cb then 1 else if k = rb then 8 else if a ≤ k ∧ k < n then 0 else 7, ⟨hrow, hrr, fun f f2 f6 => ?_, fun f f2 f6 k hk => ?_, if_pos rfl, by rw [if_neg (by omega), if_pos rfl], by omega, hb, fun k hk => ?_, fun _ => rfl⟩, rfl, rfl, rfl, rfl, rfl, rfl, rfl, ⟨kc, rfl, hk.move (fun k e => ?_) fun _ _ => rfl⟩, rfl, pc, bc, rfl, hm.move (fun k e => ?_) fun _ _ => rfl⟩
  · obtain rfl | rfl | rfl | rfl | rfl : f = 2 ∨ f = 3 ∨ f = 4 ∨ f = 5 ∨ f = 6 := by omega
    · exact low h2
    · exact low h3
    · exact OwnG.nil _ _ _ _
    · exact low h5
    · exact low h6
  · have key : ∀ v : Value, (∀ k, v.ownBlock = some k → a ≤ k ∧ k < n) → v.ownBlock = some k → (if k = cb then 1 else if k = rb then 8 else if a ≤ k ∧ k < n then 0 else 7) = 0 := fun v hv e => by
      have := hv k e
      rw [if_neg (by omega), if_neg (by omega), if_pos this]
    obtain rfl | rfl | rfl | rfl | rfl : f = 2 ∨ f = 3 ∨ f = 4 ∨ f = 5 ∨ f = 6 := by omega
    · exact .inr ⟨key v2 h2.2 hk, rfl⟩
    · exact .inr ⟨key v3 h3.2 hk, rfl⟩
    · exact absurd hk (by simp [Value.ownBlock])
    · exact .inr ⟨key v5 h5.2 hk, rfl⟩
    · exact .inr ⟨key v6 h6.2 hk, rfl⟩
  · split at hk
    · cases hk
    · split at hk
      · cases hk
      · split at hk
        · omega
        · cases hk
  · show (if k = cb then 1 else if k = rb then 8 else if a ≤ k ∧ k < n then 0 else 7) = 0
    rw [if_neg (by omega), if_neg (by omega), if_pos e]
  · show (if k = cb then 1 else if k = rb then 8 else if a ≤ k ∧ k < n then 0 else 7) = 0
    rw [if_neg (by omega), if_neg (by omega), if_pos e]
/-- what a command tells behind its form -/
def cmdR (T : List (Int × ByteArray)) (d i : Nat) (F : Option (Nat → PR CmdT)) : PR CmdT := match F with
  | none => simP T i
  | some P => if 60 < d + 1 then .err 42 else (P (i + 1)).bind fun c j => rdsF T (T.length + 1) j c
section
variable {pb d g cap : Nat} {T : List (Int × ByteArray)}
set_option maxRecDepth 100000 in
set_option maxHeartbeats 8000000 in
theorem command_step (i : Nat) (w : World) (F : Option (Nat → PR CmdT)) (hd : d ≤ 60) (h : PAt w pb T i d g cap)
    (HF : ∀ P, F = some P → ∃ fn, fvP pb T i = .func (.func fn) #[.pointer (some ⟨pb, 0, none⟩)] #[] ∧ (fn = 82 ∨ fn = 85 ∨ fn = 86 ∨ fn = 87 ∨ fn = 88 ∨ fn = 89 ∨ fn = 90) ∧ (d + 1 ≤ 60 → FnOK fn pb T g cap (d + 1) (i + 1) P) ∧ (∀ j t k, P j = .ok t k → NoR t) ∧ (tk T i).1 ≠ 4)
    (HN : F = none → fvP pb T i = .nilFunc) :
    Calls Tryz.prog 75 #[.pointer (some ⟨pb, 0, none⟩)] w (PaR pb T g cap i d w (CmdR w.heap.size) (cmdR T d i F)) := by
  obtain ⟨R, hR⟩ : ∃ R, cmdR T d i F = R := ⟨_, rfl⟩
  rw [hR]
  have HR := Lib.hid hR
  clear hR
  have HF := Lib.hid HF
  have HN := Lib.hid HN
  have hbl := h.blt
  have hb1 := h.p1
  have NF := run_eq_fn60
  have NN := run_eq_nil60
  have hp0 := h.alloc (.cells #[.int .i64 0, .bool false, .slice none 0 0, .slice none 0 0, .slice none 0 0, .slice none 0 0, .slice none 0 0] 28)
  have HK := Lib.hid (kind_q hp0)
  have HP0 := Lib.hid hp0
  obtain ⟨k, hk⟩ : ∃ k, (tk T i).1 = k := ⟨_, rfl⟩
  obtain ⟨x, hx⟩ : ∃ k, (tk T i).2 = k := ⟨_, rfl⟩
  have hxs : x.size ≤ 70000 := by rw [← hx]; exact h.txt i
  rw [hk] at HK
  have HQ1 := Lib.hid hk
  have HQ2 := Lib.hid hx
  have HZ : Hid ((w.alloc (.cells #[.int .i64 0, .bool false, .slice none 0 0, .slice none 0 0, .slice none 0 0, .slice none 0 0, .slice none 0 0] 28)).heap[w.heap.size]? = some (.cells #[.int .i64 0, .bool false, .slice none 0 0, .slice none 0 0, .slice none 0 0, .slice none 0 0, .slice none 0 0] 28 (0, 0))) := heap_alloc_last w _
  have HK0 : Hid (Kept (Own1 pb) w (w.alloc (.cells #[.int .i64 0, .bool false, .slice none 0 0, .slice none 0 0, .slice none 0 0, .slice none 0 0, .slice none 0 0] 28))) := (Kept.refl _ _).alloc _
  have hs0 : (w.alloc (.cells #[.int .i64 0, .bool false, .slice none 0 0, .slice none 0 0, .slice none 0 0, .slice none 0 0, .slice none 0 0] 28)).heap.size = w.heap.size + 1 := by simp
  clear h hk hx hp0
  go_enter Tryz.func75, Tryz.ntmps75
  go_wp2_with fail
  refine HK.out.mono ?_
  rintro e w1 ⟨rfl, m, hw1⟩
  obtain ⟨w0, hw0⟩ : ∃ w0, w.alloc (.cells #[.int .i64 0, .bool false, .slice none 0 0, .slice none 0 0, .slice none 0 0, .slice none 0 0, .slice none 0 0] 28) = w0 := ⟨_, rfl⟩
  rw [hw0] at hw1 HP0 HZ HK0 hs0
  have HP1 := Lib.hid (by rw [hw1]; exact HP0.out.drewN m : PAt w1 pb T i d g cap)
  have HK1 := Lib.hid (by rw [hw1]; exact HK0.out.drewN m : Kept (Own1 pb) w w1)
  have HZ1 := Lib.hid (by rw [hw1]; exact HZ.out : w1.heap[w.heap.size]? = some (.cells #[.int .i64 0, .bool false, .slice none 0 0, .slice none 0 0, .slice none 0 0, .slice none 0 0, .slice none 0 0] 28 (0, 0)))
  clear hw1 hw0 HP0 HZ HK0 hs0 HK
  go_upto_if 7 with fail
  go_cut [3] from 22 (fun s3 wi => Hid (s3 = (if k = 1 then formV pb x else .nilFunc) ∧ PAt wi pb T i d g cap ∧ Kept (Own1 pb) w wi ∧ wi.heap[w.heap.size]? = some (.cells #[.int .i64 0, .bool false, .slice none 0 0, .slice none 0 0, .slice none 0 0, .slice none 0 0, .slice none 0 0] 28 (0, 0))))
  case first =>
    by_cases k1 : k = 1
    · subst k1
      have HCP := Lib.hid (comp_any pb w1.drew)
      obtain ⟨c0, c1, c2, f0, f1, f2⟩ := HP1.out.cells
      obtain ⟨t0, t1⟩ := HP1.out.tok i HP1.out.lt
      rw [HQ2.out] at t1
      have hl := HP1.out.lt
      have hs := HP1.out.small
      obtain ⟨n, hn⟩ : ∃ n, T.length = n := ⟨_, rfl⟩
      rw [hn] at c0 hl hs
      have HNN := Lib.hid hn
      have q : (i : Int) < n := by omega
      clear t0 hn
      go_upto_region 3 with fail
      first | (go_region_law (first
        | (go_simp; go_at_call 81; refine HCP.out.mono ?_; rintro e w3 ⟨mb, rfl, hb3, hlk⟩; have hp3 := (HP1.out.drewN 1).keep (S := fun _ => False) (Kept.of_below hb3) id id id; have LK := hlk x hxs; obtain ⟨d0, d1, _, _, _, _⟩ := hp3.cells; obtain ⟨_, d3⟩ := hp3.tok i hp3.lt; rw [HQ2.out] at d3; rw [HNN.out] at d0; have HP3 := Lib.hid hp3; have HK3 := Lib.hid ((HK1.out.drew).trans (Kept.of_below hb3)); have HZ3 := Lib.hid ((hb3.block _ (lt_of_block HZ1.out)).trans HZ1.out); clear hp3 hb3 hlk)
        | fail)) | fail
      all_goals
        go_wp2
        go_meet
        case rel => exact ⟨by simp, HP3.out, HK3.out, HZ3.out⟩
    · have k1' : (k == 1) = false := beq_eq_false_iff_ne.2 k1
      have HI := Lib.hid (show _ = _ from (if_neg k1 : (if k = 1 then formV pb x else .nilFunc) = .nilFunc).symm)
      go_wp2
      go_meet
      case rel => exact ⟨HI.out, HP1.out, HK1.out, HZ1.out⟩
  case rest =>
    obtain ⟨hs3, hp2, hk2, hz2⟩ := hcut.out
    have HS3 := Lib.hid hs3
    clear hs3
    have HIS := Lib.hid (is_q 2 ⟨#[40]⟩ hp2)
    obtain ⟨q1, hq1⟩ : ∃ q, isT T i 2 ⟨#[40]⟩ = q := ⟨_, rfl⟩
    have hfv : fvP pb T i = if q1 then .func (.func 82) #[.pointer (some ⟨pb, 0, none⟩)] #[] else if k = 1 then formV pb x else .nilFunc := by
      unfold fvP
      rw [HQ1.out, HQ2.out, show isO T i bOpen = q1 from hq1]
    rw [hq1] at HIS
    have HFV := Lib.hid hfv
    have HP2 := Lib.hid hp2
    have HK2 := Lib.hid hk2
    have HZ2 := Lib.hid hz2
    clear hcut hp2 hk2 hz2 hq1 hfv HP1 HK1 HZ1
    go_wp2_with fail
    refine HIS.out.mono ?_
    rintro e w3 ⟨rfl, m, hw3⟩
    have HP3 := Lib.hid (by rw [hw3]; exact HP2.out.drewN m : PAt w3 pb T i d g cap)
    have HK3 := Lib.hid (by rw [hw3]; exact HK2.out.drewN m : Kept (Own1 pb) w w3)
    have HZ3 := Lib.hid (by rw [hw3]; exact HZ2.out : w3.heap[w.heap.size]? = some (.cells #[.int .i64 0, .bool false, .slice none 0 0, .slice none 0 0, .slice none 0 0, .slice none 0 0, .slice none 0 0] 28 (0, 0)))
    clear hw3 HP2 HK2 HZ2 HIS
    go_upto_if 23 with fail
    go_cut [3] from 26 (fun s3 wi => Hid (s3 = fvP pb T i ∧ PAt wi pb T i d g cap ∧ Kept (Own1 pb) w wi ∧ wi.heap[w.heap.size]? = some (.cells #[.int .i64 0, .bool false, .slice none 0 0, .slice none 0 0, .slice none 0 0, .slice none 0 0, .slice none 0 0] 28 (0, 0))))
    case first =>
      cases q1 with
      | true =>
        have HV := Lib.hid (show _ = _ from HFV.out.symm)
        go_wp2
        go_meet
        case rel => exact ⟨HV.out, HP3.out, HK3.out, HZ3.out⟩
      | false =>
        have HV := Lib.hid (HS3.out.trans (show _ = _ from HFV.out.symm))
        go_wp2
        go_meet
        case rel => exact ⟨HV.out, HP3.out, HK3.out, HZ3.out⟩
    case rest =>
      obtain ⟨h3, hp4, hk4, hz4⟩ := hcut.out
      have HP4 := Lib.hid hp4
      have HK4 := Lib.hid hk4
      have HZ4 := Lib.hid hz4
      clear hcut HP3 HK3 HZ3 HFV hp4 hk4 hz4
      cases F with
      | none =>
        rw [HN.out rfl] at h3
        subst h3
        have HSI := Lib.hid (simple_any (pb := pb) (g := g) (cap := cap) (d := d) (T := T) 0 i _ (Nat.zero_le _) HP4.out)
        obtain ⟨r, hr⟩ : ∃ r, simP T i = r := ⟨_, rfl⟩
        have hRR : r = R := by rw [← hr]; exact HR.out
        rw [hr] at HSI
        subst hRR
        clear hr
        cases r with
        | err n =>
          go_wp2_with fail
          refine HSI.out.mono ?_
          rintro e w5 ⟨hk5, k2, rfl⟩
          have HK5 := Lib.hid (HK4.out.trans hk5)
          clear hk5
          go_wp2
          exact ⟨rfl, HK5.out, _, rfl⟩
        | ok c j =>
          go_wp2_with fail
          refine HSI.out.mono ?_
          rintro e w5 ⟨hk5, u, rfl, ⟨cs, rfl, hc5⟩, hp5, hj5⟩
          obtain ⟨kc0, nc0, B2, q2, p2, B3, q3, p3, B4, q4, p4, B5, q5, p5, B6, q6, p6, rfl⟩ := hc5.lit
          have hz5 := (hk5.block _ (lt_of_block HZ4.out) (by show ¬ _ = pb; omega)).trans HZ4.out
          have hsz4 : w.heap.size < wc.heap.size := lt_of_block HZ4.out
          have HRT := Lib.hid (put_fin (base := w.heap.size) ⟨_, _, _, _, _, _, _, hz5⟩ hc5 (fun k e => ⟨by omega, e.2, by omega⟩))
          have HP5 := Lib.hid hp5
          have HK5 := Lib.hid (HK4.out.trans hk5)
          obtain ⟨y0, g0⟩ := rowc hz5 (j := 0) (v := .int .i64 0) rfl
          obtain ⟨y1, g1⟩ := rowc hz5 (j := 1) (v := .bool false) rfl
          obtain ⟨y2, g2⟩ := rowc hz5 (j := 2) (v := .slice none 0 0) rfl
          obtain ⟨y3, g3⟩ := rowc hz5 (j := 3) (v := .slice none 0 0) rfl
          obtain ⟨y4, g4⟩ := rowc hz5 (j := 4) (v := .slice none 0 0) rfl
          obtain ⟨y5, g5⟩ := rowc hz5 (j := 5) (v := .slice none 0 0) rfl
          obtain ⟨y6, g6⟩ := rowc hz5 (j := 6) (v := .slice none 0 0) rfl
          clear hk5 hp5 hz5 hc5
          go_wp2
          obtain ⟨W6, hW6, hl6, hc6, hk6⟩ := HRT.out
          rw [hW6]
          exact bodyPost_ret (results_cell (t := 2) (by kernel_rfl) rfl hl6) rfl ⟨HK5.out.on hk6 (fun k e => .inr (Nat.le_of_eq e.symm)), _, rfl, hc6, HP5.out.keep hk6 (by show ¬ pb = _; omega) (by show ¬ g = _; omega) (by show ¬ 1 = _; omega), hj5⟩
      | some P =>
        obtain ⟨fn, hfn, hfnn, hok, hno, hk4'⟩ := HF.out P rfl
        rw [hfn] at h3
        subst h3
        have hR2 : (if 60 < d + 1 then PR.err 42 else (P (i + 1)).bind fun c j => rdsF T (T.length + 1) j c) = R := HR.out
        obtain ⟨c0, c1, c2, f0, f1, f2⟩ := HP4.out.cells
        have wd : IntKind.i64.wrap ((d : Int) + 1) = (d : Int) + 1 := IntWalk.i64_in _ (by omega)
        have hp5 : PAt (wc.setCell ⟨pb, 2, none⟩ (.int .i64 ((d : Int) + 1))) pb T i (d + 1) g cap := by
          have := HP4.out.dp (d + 1) (by omega)
          rw [show ((d + 1 : Nat) : Int) = (d : Int) + 1 by omega] at this
          exact this
        have hk5 : Kept (Own1 pb) w (wc.setCell ⟨pb, 2, none⟩ (.int .i64 ((d : Int) + 1))) := HK4.out.pset 2 _
        have hz5 : (wc.setCell ⟨pb, 2, none⟩ (.int .i64 ((d : Int) + 1))).heap[w.heap.size]? = some (.cells #[.int .i64 0, .bool false, .slice none 0 0, .slice none 0 0, .slice none 0 0, .slice none 0 0, .slice none 0 0] 28 (0, 0)) := (Below.heap_setCell _ _ _ _ (by show ¬ w.heap.size = pb; omega)).trans HZ4.out
        by_cases h60 : 60 < d + 1
        · have e : R = .err 42 := by rw [← hR2, if_pos h60]
          subst e
          have i60 : (60 : Int) < (d : Int) + 1 := by omega
          obtain ⟨w5, hw5⟩ : ∃ w5, wc.setCell ⟨pb, 2, none⟩ (.int .i64 ((d : Int) + 1)) = w5 := ⟨_, rfl⟩
          rw [hw5] at hp5 hk5
          have HF5 := Lib.hid (pfail_any 42 hp5)
          have HK5 := Lib.hid hk5
          obtain ⟨_, _, e2, _, _, _⟩ := hp5.cells
          rw [show ((d + 1 : Nat) : Int) = (d : Int) + 1 by omega] at e2
          clear hp5 hk5 hz5
          go_wp2_with fail
          refine HF5.out.mono ?_
          rintro e w9 ⟨rfl, hw9⟩
          obtain rfl := hw9.symm
          go_wp2
          exact ⟨rfl, HK5.out, _, rfl⟩
        · rw [if_neg h60] at hR2
          have i60 : ¬ (60 : Int) < (d : Int) + 1 := by omega
          have hm : i + 1 < T.length := HP4.out.more hk4'
          have wi : IntKind.i64.wrap ((i : Int) + 1) = (i : Int) + 1 := i64_succ HP4.out.lt HP4.out.small
          obtain ⟨w5, hw5⟩ : ∃ w5, wc.setCell ⟨pb, 2, none⟩ (.int .i64 ((d : Int) + 1)) = w5 := ⟨_, rfl⟩
          rw [hw5] at hp5 hk5 hz5
          have hp6 : PAt (w5.setCell ⟨pb, 1, none⟩ (.int .i64 ((i : Int) + 1))) pb T (i + 1) (d + 1) g cap := by
            have := hp5.at_ (i + 1) hm
            rw [show ((i + 1 : Nat) : Int) = (i : Int) + 1 by omega] at this
            exact this
          have hk6 : Kept (Own1 pb) w (w5.setCell ⟨pb, 1, none⟩ (.int .i64 ((i : Int) + 1))) := hk5.pset 1 _
          have hz6 : (w5.setCell ⟨pb, 1, none⟩ (.int .i64 ((i : Int) + 1))).heap[w.heap.size]? = some (.cells #[.int .i64 0, .bool false, .slice none 0 0, .slice none 0 0, .slice none 0 0, .slice none 0 0, .slice none 0 0] 28 (0, 0)) := (Below.heap_setCell _ _ _ _ (by show ¬ w.heap.size = pb; omega)).trans hz5
          obtain ⟨w6, hw6⟩ : ∃ w6, w5.setCell ⟨pb, 1, none⟩ (.int .i64 ((i : Int) + 1)) = w6 := ⟨_, rfl⟩
          rw [hw6] at hp6 hk6 hz6
          have HCF := Lib.hid (hok (by omega) (i + 1) w6 (Nat.le_refl _) hp6)
          obtain ⟨r, hr⟩ : ∃ r, P (i + 1) = r := ⟨_, rfl⟩
          rw [hr] at HCF hR2
          have HNO := Lib.hid (hno (i + 1))
          rw [hr] at HNO
          have HR2 := Lib.hid hR2
          obtain ⟨_, e1, e2, _, e4, _⟩ := hp5.cells
          rw [show ((d + 1 : Nat) : Int) = (d : Int) + 1 by omega] at e2
          have HK6 := Lib.hid hk6
          have HZ6 := Lib.hid hz6
          clear hp5 hk5 hz5 hp6 hk6 hz6 hr hR2 hok hno
          go_upto_region 12 with fail
          clear hw5 hw6
          go_cut [4] from 53 (fun s4 wi => Hid (∃ (cb : Nat) (kd : Int) (nd : Bool) (az ws : List ByteArray) (kids : List CmdT) (pats : List (List ByteArray)) (bodies : List CmdT) (V : Nat → Value) (N : Nat → Nat) (X : Nat → List Value) (col : Nat → Nat) (j : Nat), s4 = .pointer (some ⟨cb, 0, none⟩) ∧ PAt wi pb T j (d + 1) g cap ∧ BT wi w.heap.size cb w.heap.size kd nd (fun f => decide (f ≠ 4)) az ws [] kids pats bodies V N X col ∧ Kept (Own1 pb) w wi ∧ w.heap.size < cb ∧ i < j ∧ Hid (rdsF T (T.length + 1) j (.mk kd nd az ws [] kids pats bodies) = R)))
          case first =>
            have h7f := hfnn
            rcases h7f with rfl | rfl | rfl | rfl | rfl | rfl | rfl
            all_goals
              cases r with
              | err n =>
                have e : R = .err n := HR2.out.symm
                subst e
                go_wp2_with fail
                refine HCF.out.mono ?_
                rintro e w9 ⟨hk9, k2, rfl⟩
                have HK9 := Lib.hid (HK6.out.trans hk9)
                clear hk9
                go_wp2
                exact ⟨rfl, HK9.out, _, rfl⟩
              | ok t j =>
                have HR3 : Hid (rdsF T (T.length + 1) j t = R) := HR2.out
                obtain ⟨kd, nd, az, ws, kids, pats, bodies, rfl⟩ := HNO.out t j rfl
                go_wp2_with fail
                refine HCF.out.mono ?_
                rintro e w7 ⟨hk7, u, rfl, ⟨cs, rfl, hc7⟩, hp7, hj7⟩
                obtain ⟨kc0, nc0, B2, q2, p2, B3, q3, p3, B4, q4, p4, B5, q5, p5, B6, q6, p6, rfl⟩ := hc7.lit
                have hkk : kd = kc0 ∧ nd = nc0 := by cases hc7; exact ⟨rfl, rfl⟩
                obtain ⟨rfl, rfl⟩ := hkk
                have hv4 := hc7.r0
                rw [hv4] at hc7
                have hz7 := (hk7.block _ (lt_of_block HZ6.out) (by show ¬ _ = pb; omega)).trans HZ6.out
                have hs6 : w.heap.size < w6.heap.size := lt_of_block HZ6.out
                have hs7 := hk7.size
                have hv4' : (Value.slice B4 q4 p4) = .slice none 0 0 := hv4
                obtain ⟨rfl, rfl, rfl⟩ : B4 = none ∧ q4 = 0 ∧ p4 = 0 := by cases hv4'; exact ⟨rfl, rfl, rfl⟩
                obtain ⟨w8, hw8⟩ : ∃ w8, w7.alloc (.cells #[.int .i64 kd, .bool nd, .slice B2 q2 p2, .slice B3 q3 p3, .slice none 0 0, .slice B5 q5 p5, .slice B6 q6 p6] 28) = w8 := ⟨_, rfl⟩
                have h8o : ∀ k, k < w7.heap.size → w8.heap[k]? = w7.heap[k]? := fun k hk => by rw [← hw8]; exact Below.heap_alloc _ _ _ hk
                have hbt := BT.ofCmd (W := w8) (rb := w.heap.size) (cb := w7.heap.size) (base := w.heap.size) (a := w6.heap.size) (n := w7.heap.size) (by rw [← hw8]; exact heap_alloc_last w7 _) ⟨_, _, _, _, _, _, _, (h8o _ (by omega)).trans hz7⟩ (hc7.move (fun _ e => e) fun k e => h8o k e.2) (Nat.le_refl _) hs6 hs7 (Nat.le_refl _)
                have HP8 := Lib.hid (by rw [← hw8]; exact hp7.alloc _ : PAt w8 pb T j (d + 1) g cap)
                have HK8 := Lib.hid (by rw [← hw8]; exact (HK6.out.trans hk7).alloc _ : Kept (Own1 pb) w w8)
                obtain ⟨V0, N0, X0, col0, hbt⟩ := hbt
                have HB8 := Lib.hid hbt
                have HW8 := Lib.hid hw8
                have hcb2 : w.heap.size < w7.heap.size := by omega
                have hij : i < j := by omega
                clear hk7 hp7 hc7 hz7 hbt hv4 hv4' h8o hw8
                go_wp2
                rw [HW8.out]
                go_meet
                case rel => exact ⟨_, _, _, _, _, _, _, _, _, _, _, _, j, rfl, HP8.out, HB8.out, HK8.out, hcb2, hij, HR3⟩
          case rest =>
            obtain ⟨cb, kd, nd, az, ws, kids, pats, bodies, V0, N0, X0, col0, j, rfl, hp8, hb8, hk8, hcb2, hij, hr8⟩ := hcut.out
            have hp9 := hp8.dp d (by omega)
            have hk9 := hk8.pset 2 (.int .i64 (d : Int))
            obtain ⟨w9, hw9⟩ : ∃ w9, wc.setCell ⟨pb, 2, none⟩ (.int .i64 (d : Int)) = w9 := ⟨_, rfl⟩
            rw [hw9] at hp9 hk9
            have HB9 := Lib.hid (by rw [← hw9]; exact hb8.keep (T := Own1 pb) ((Kept.refl _ _).pset 2 _) (by intro k (e : k = pb); omega) : BT w9 w.heap.size cb w.heap.size kd nd (fun f => decide (f ≠ 4)) az ws [] kids pats bodies V0 N0 X0 col0)
            have HP9 := Lib.hid hp9
            have HK9 := Lib.hid hk9
            have HW9 := Lib.hid hw9
            have HR9 := Lib.hid hr8.out
            obtain ⟨_, _, b2, _, _, b5⟩ := hp8.cells
            rw [show ((d + 1 : Nat) : Int) = (d : Int) + 1 by omega] at b2
            have wd2 : IntKind.i64.wrap ((d : Int) + 1 - 1) = d := by rw [IntWalk.i64_in _ (by omega)]; omega
            clear hcut hp8 hb8 hk8 hr8 hp9 hk9 hw9 HP4 HK4 HZ4 HCF HNO HR2 HK6 HZ6 c0 c1 c2 f0 f1 f2
            go_wp2
            rw [HW9.out]
            clear HW9 b2 b5
            go_loopw [] (fun wi => ∃ (j f : Nat) (rs : List (ByteArray × ByteArray)) (V : Nat → Value) (N : Nat → Nat) (X : Nat → List Value) (col : Nat → Nat), PAt wi pb T j d g cap ∧ BT wi w.heap.size cb w.heap.size kd nd (fun f => decide (f ≠ 4)) az ws rs kids pats bodies V N X col ∧ Kept (Own1 pb) w wi ∧ i < j ∧ T.length < f + j ∧ rs.length ≤ j ∧ Hid (rdsF T f j (.mk kd nd az ws rs kids pats bodies) = R)) (fun wi => T.length - iOf wi pb)
            case atStart => exact ⟨j, T.length + 1, [], _, _, _, _, HP9.out, HB9.out, HK9.out, hij, by omega, by simp, HR9⟩
            case round =>
              clear HP9 HB9 HK9 HR9
              obtain ⟨j, f, rs, V, N, X, col, hp, hb, hk, hij, hf, hlen, hr⟩ := hrel
              have hlt := hp.lt
              have hsm := hp.small
              obtain ⟨f, rfl⟩ : ∃ g, f = g + 1 := ⟨f - 1, by omega⟩
              have hst := hr.out
              rw [rdsF] at hst
              have HM := Lib.hid (iOf_p hp)
              have HP5 := Lib.hid hp
              have HB5 := Lib.hid hb
              have HK5 := Lib.hid hk
              by_cases hq : rdQ T j = true
              · rw [if_pos hq] at hst
                have HRD := Lib.hid (redir_yes hp hq hb rfl (by omega) (by omega) (by omega))
                obtain ⟨r, hr2⟩ : ∃ r, textP T (j + 1) = r := ⟨_, rfl⟩
                rw [hr2] at HRD hst
                clear hr hp hb hk hq hr2
                go_wp2_with fail
                refine HRD.out.mono ?_
                rintro e w4 ⟨hk4, ha⟩
                have HK4 := Lib.hid (HK5.out.on hk4 (fun k e => e))
                cases r with
                | err n =>
                  obtain ⟨k2, rfl⟩ := ha
                  have e : R = .err n := hst.symm
                  subst e
                  clear hk4 hst
                  go_wp2
                  exact ⟨rfl, HK4.out, _, rfl⟩
                | ok y j2 =>
                  obtain ⟨rfl, ⟨V2, N2, X2, col2, hb4⟩, hp4, hj4⟩ := ha
                  have HB4 := Lib.hid hb4
                  have HP4 := Lib.hid hp4
                  have HM4 := Lib.hid (iOf_p hp4)
                  have HS : Hid (rdsF T f j2 (.mk kd nd az ws (rs ++ [((tk T j).2, y)]) kids pats bodies) = R) := hst
                  clear hk4 hst hb4 hp4
                  go_wp2
                  exact ⟨⟨j2, f, _, _, _, _, _, HP4.out, HB4.out, HK4.out, by omega, by omega, by simp; omega, HS⟩, by rw [HM.out, HM4.out]; omega⟩
              · rw [if_neg hq] at hst
                rw [Bool.not_eq_true] at hq
                have HRD := Lib.hid (redir_no (cb := cb) hp hq)
                have e : R = .ok (.mk kd nd az ws rs kids pats bodies) j := hst.symm
                subst e
                clear hr hp hb hk hq hst
                go_wp2_with fail
                refine HRD.out.mono ?_
                rintro e w4 ⟨rfl, m4, hw4⟩
                have HP6 := Lib.hid (by rw [hw4]; exact HP5.out.drewN _ : PAt w4 pb T j d g cap)
                have HK6 := Lib.hid (by rw [hw4]; exact HK5.out.drewN _ : Kept (Own1 pb) w w4)
                have HB6 := Lib.hid (by rw [hw4]; exact HB5.out.keep (T := fun _ => False) ((Kept.refl _ _).drewN _) (fun _ e => e.elim) : BT w4 w.heap.size cb w.heap.size kd nd (fun f => decide (f ≠ 4)) az ws rs kids pats bodies V N X col)
                have hij2 : i ≤ j := by omega
                clear hw4
                obtain ⟨A2, m2, A3, m3, A4, m4, A5, m5, A6, m6, k0, k1, k2, k3, k4, k5, k6, ⟨z0, z1, z2, z3, z4, z5, z6, ⟨y0, g0⟩, ⟨y1, g1⟩, ⟨y2, g2⟩, ⟨y3, g3⟩, ⟨y4, g4⟩, ⟨y5, g5⟩, ⟨y6, g6⟩⟩, hfin⟩ := BT.fin' HB6.out
                have HRT := Lib.hid hfin
                clear hfin
                go_wp2
                obtain ⟨W6, hW6, hl6, hc6, hk6⟩ := HRT.out
                rw [hW6]
                exact bodyPost_ret (results_cell (t := 2) (by kernel_rfl) rfl hl6) rfl ⟨HK6.out.on hk6 (fun k e => .inr (Nat.le_of_eq e.symm)), _, rfl, hc6, HP6.out.keep hk6 (by show ¬ pb = _; omega) (by show ¬ g = _; omega) (by show ¬ 1 = _; omega), hij2⟩
end
end Go.Proofs.YtioddclglemlmaaGreatDoor
