/- Parse; conditions: a text of at most 65,536 bytes without backslashes and #, the library's number and its one type in their cells. -/
import Derived.Test.YtioddclglemlmaaGreatDoorGramPP
import Derived.Test.YtioddclglemlmaaGreatDoorPlB
import Derived.Test.YtioddclglemlmaaGreatDoorGramAs
import Derived.Test.YtioddclglemlmaaGreatDoorLexG
namespace Go.Proofs.YtioddclglemlmaaGreatDoor
open Go.RowKit


theorem results_c2 {P : Program} {fn : Func} {tmps : Array Value} {t i : Tmp} {ty : TypeId} {a : Addr} {v x : Value} {w : World} (h : fn.results = #[.cell t ty, .tmp i]) (hp : tmps.getD t undef = .pointer (some a)) (hl : (loadVar ty a).run P w = .ok v w) (hx : tmps.getD i undef = x) :
    (results fn tmps).run P w = .ok (.tuple #[v, x]) w := by
  have ha : (asAddr (tmps.getD t undef)).run P w = .ok a w := by rw [hp]; rfl
  unfold results
  rw [h]
  simp only [List.mapM_toArray, List.mapM_cons, List.mapM_nil, Sem.run_map, Sem.run_bind, Sem.run_pure, Result.andThen_ok, ha, hl, hx]
  rfl
def exR (r : PR CmdT) : Except Int CmdT := match r with
  | .ok c _ => .ok c
  | .err n => .error n
def exG (r : Except Int (List (Int × ByteArray))) : Except Int CmdT := match r with
  | .error n => .error n
  | .ok L => exR (scrP L)
theorem exG_ok (L : List (Int × ByteArray)) : exG (.ok L) = exR (scrP L) := rfl
theorem exG_err (n : Int) : exG (.error n) = .error n := rfl
theorem gram_exG (s : ByteArray) : gramP s = exG (lexF s (s.size + 1) 0 []) := by
  unfold gramP exG
  cases lexF s (s.size + 1) 0 [] with
  | error n => rfl
  | ok L =>
    show (match scrP L with | .ok c _ => Except.ok c | .err n => .error n) = exR (scrP L)
    generalize scrP L = r
    cases r <;> rfl
/-- what Parse tells -/
def PaA (base : Nat) (r : Except Int CmdT) (e : Ending) (w' : World) : Prop := match r with
  | .ok t => ∃ u, e = .returned (.tuple #[u, .int .i64 0]) ∧ CmdR base w' u t
  | .error n => e = .returned (.tuple #[zeroCmd, .int .i64 n])
def ErrT : Value := .iface 87 (.agg #[.pointer (some ⟨4, 45, none⟩)])
theorem lexP_ne (s : ByteArray) (n : Int) (h : lexF s (s.size + 1) 0 [] = .error n) : n ≠ 0 := by
  rcases lex_bad s _ _ _ _ h with e | e | e <;> rw [e] <;> decide
set_option maxRecDepth 100000 in
set_option maxHeartbeats 8000000 in
theorem Parse_any (s : ByteArray) (w : World) (hs : s.size ≤ 65536) (nob : ∀ c ∈ s.data.toList, c ≠ 92 ∧ c ≠ 35) (m : Int) (hm : w.cell? ⟨1, 0, none⟩ = some (.int .i64 m)) (hg : w.cell? ⟨0, 0, none⟩ = some ErrT) (hw : 1 < w.heap.size) :
    Calls Tryz.prog 7 #[.string s] w fun e w' => Below w.heap.size w w' ∧ PaA w.heap.size (gramP s) e w' := by
  obtain ⟨w1, hw1⟩ : ∃ w1, w.alloc (.cells #[.int .i64 0, .bool false, .slice none 0 0, .slice none 0 0, .slice none 0 0, .slice none 0 0, .slice none 0 0] 28) = w1 := ⟨_, rfl⟩
  have s1 : w1.heap.size = w.heap.size + 1 := by rw [← hw1]; simp
  have k1 : Below w.heap.size w w1 := by rw [← hw1]; exact (Below.refl _ w).alloc (Nat.le_refl _) _
  have r1 : w1.heap[w.heap.size]? = some (.cells #[.int .i64 0, .bool false, .slice none 0 0, .slice none 0 0, .slice none 0 0, .slice none 0 0, .slice none 0 0] 28 (0, 0)) := by rw [← hw1]; exact heap_alloc_last w _
  have hm1 : w1.cell? ⟨1, 0, none⟩ = some (.int .i64 m) := (k1.cell (p := ⟨1, 0, none⟩) hw).trans hm
  have HLX := Lib.hid (Lex_any s w1 hs (fun c hc => (nob c hc).1) m hm1)
  have hgp := gram_exG s
  have hlt := fun R => lex_tokens (R := R) hs nob
  have hne := lexP_ne s
  obtain ⟨r, hr⟩ : ∃ r, lexF s (s.size + 1) 0 [] = r := ⟨_, rfl⟩
  rw [hr] at HLX hgp hlt hne
  rw [hgp]
  have HW1 := Lib.hid hw1
  have HR1 := Lib.hid r1
  have HK1 := Lib.hid k1
  have HG1 : Hid (w1.cell? ⟨0, 0, none⟩ = some ErrT) := (k1.cell (p := ⟨0, 0, none⟩) (show 0 < w.heap.size by omega)).trans hg
  have HM1 := Lib.hid hm1
  clear hw1 r1 k1 hm1 hm hg hgp hr nob
  cases r with
  | error n =>
    have hn : n ≠ 0 := hne n rfl
    have hn0 : (n != 0) = true := by unfold bne; rw [beq_eq_false_iff_ne.2 hn]; rfl
    have hn1 : (n == 0) = false := beq_eq_false_iff_ne.2 hn
    rw [exG_err]
    clear hlt hne
    go_enter Tryz.func7, Tryz.ntmps7
    go_wp2_with fail
    rw [HW1.out]
    refine HLX.out.mono ?_
    rintro e w2 ⟨ha, hb2⟩
    obtain rfl : e = _ := ha
    have hs2 := hb2.size
    have r2 := (hb2.block _ (lt_of_block HR1.out)).trans HR1.out
    have HB2 := Lib.hid (HK1.out.trans (hb2.mono (by omega)))
    obtain ⟨w3, hw3⟩ : ∃ w3, w2.alloc (.cells #[.int .i64 n] 29) = w3 := ⟨_, rfl⟩
    have hr3 : w3.heap[w.heap.size]? = some (.cells #[.int .i64 0, .bool false, .slice none 0 0, .slice none 0 0, .slice none 0 0, .slice none 0 0, .slice none 0 0] 28 (0, 0)) := by rw [← hw3]; exact (Below.heap_alloc _ _ _ (lt_of_block r2)).trans r2
    have he3 : w3.cell? ⟨w2.heap.size, 0, none⟩ = some (.int .i64 n) := by rw [← hw3]; exact (rowc (heap_alloc_last w2 _) (j := 0) rfl).1
    obtain ⟨y0, g0⟩ := rowc hr3 (j := 0) (v := .int .i64 0) rfl
    obtain ⟨y1, g1⟩ := rowc hr3 (j := 1) (v := .bool false) rfl
    obtain ⟨y2, g2⟩ := rowc hr3 (j := 2) (v := .slice none 0 0) rfl
    obtain ⟨y3, g3⟩ := rowc hr3 (j := 3) (v := .slice none 0 0) rfl
    obtain ⟨y4, g4⟩ := rowc hr3 (j := 4) (v := .slice none 0 0) rfl
    obtain ⟨y5, g5⟩ := rowc hr3 (j := 5) (v := .slice none 0 0) rfl
    obtain ⟨y6, g6⟩ := rowc hr3 (j := 6) (v := .slice none 0 0) rfl
    have HB3 : Hid (Below w.heap.size w w3) := by rw [← hw3]; exact HB2.out.alloc (by omega) _
    have HR3 := Lib.hid hr3
    have HS7 := Lib.hid (set7 hr3 (.int .i64 0) (.bool false) (.slice none 0 0) (.slice none 0 0) (.slice none 0 0) (.slice none 0 0) (.slice none 0 0))
    have HK7 := Lib.hid (put7_kept (Kept.of_below (T := fun _ => False) HB3.out) (.inr (Nat.le_refl _)) (.int .i64 0) (.bool false) (.slice none 0 0) (.slice none 0 0) (.slice none 0 0) (.slice none 0 0) (.slice none 0 0))
    clear r2 hr3 hb2
    have hneb : ¬ w2.heap.size = w.heap.size := by omega
    have hneb2 : ¬ w.heap.size = w2.heap.size := by omega
    obtain ⟨w7, hw7⟩ : ∃ w7, put7 w3 w.heap.size (.int .i64 0) (.bool false) (.slice none 0 0) (.slice none 0 0) (.slice none 0 0) (.slice none 0 0) (.slice none 0 0) = w7 := ⟨_, rfl⟩
    rw [hw7] at HS7 HK7
    have hl7 := load7 (W := w7.drew) HS7.out
    have HL7 := Lib.hid hl7
    unfold put7 at hw7
    have HW7 := Lib.hid hw7
    have HBF := Lib.hid (HK7.out.drew.to_below (B := w.heap.size) (Nat.le_refl _) (fun _ e => e.elim))
    clear hw7 hl7
    go_upto_region 3 with fail
    go_region
    all_goals
      go_wp2
      rw [HW7.out]
      exact bodyPost_ret (results_c2 (t := 2) (i := 3) (by kernel_rfl) rfl HL7.out rfl) rfl ⟨HBF.out, rfl⟩
  | ok L =>
    obtain ⟨l0, l5, llast, ltx⟩ := hlt L rfl
    clear hlt hne
    obtain ⟨rp, hrp⟩ : ∃ rp, scrP L = rp := ⟨_, rfl⟩
    rw [exG_ok]
    rw [hrp]
    go_enter Tryz.func7, Tryz.ntmps7
    go_wp2_with fail
    rw [HW1.out]
    refine HLX.out.mono ?_
    rintro e w2 ⟨ha, hb2⟩
    obtain ⟨vt, rfl, ho⟩ := ha
    have hs2 := hb2.size
    have r2 := (hb2.block _ (lt_of_block HR1.out)).trans HR1.out
    have hbw2 := HK1.out.trans (hb2.mono (by omega))
    obtain ⟨g, cap, rfl⟩ : ∃ g cap, vt = .slice (some ⟨g, 0, none⟩) L.length cap := by
      rcases ho.2 with ⟨_, h0⟩ | ⟨g, cap, cur, e, _⟩
      · omega
      · exact ⟨g, cap, e⟩
    obtain ⟨w3, hw3⟩ : ∃ w3, w2.alloc (.cells #[.int .i64 0] 29) = w3 := ⟨_, rfl⟩
    have s3 : w3.heap.size = w2.heap.size + 1 := by rw [← hw3]; simp
    have hb3 : Below w.heap.size w w3 := by rw [← hw3]; exact hbw2.alloc (by omega) _
    have r3 : w3.heap[w.heap.size]? = some (.cells #[.int .i64 0, .bool false, .slice none 0 0, .slice none 0 0, .slice none 0 0, .slice none 0 0, .slice none 0 0] 28 (0, 0)) := by rw [← hw3]; exact (Below.heap_alloc _ _ _ (lt_of_block r2)).trans r2
    have e3 : w3.heap[w2.heap.size]? = some (.cells #[.int .i64 0] 29 (0, 0)) := by rw [← hw3]; exact heap_alloc_last w2 _
    have o3 : OwnG w3 0 116 2 (.slice (some ⟨g, 0, none⟩) L.length cap) L.length (tokV L) := (ho.lower (Nat.zero_le _)).move fun k hk => by rw [← hw3]; exact Below.heap_alloc _ _ _ (ho.block_lt k hk).2
    have m3 : w3.cell? ⟨1, 0, none⟩ = some (.int .i64 m) := ((hb3.cell (p := ⟨1, 0, none⟩) hw)).trans ((HK1.out.cell (p := ⟨1, 0, none⟩) hw).symm.trans HM1.out)
    have g3 : w3.cell? ⟨0, 0, none⟩ = some ErrT := ((hb3.cell (p := ⟨0, 0, none⟩) (show 0 < w.heap.size by omega))).trans ((HK1.out.cell (p := ⟨0, 0, none⟩) (show 0 < w.heap.size by omega)).symm.trans HG1.out)
    have HPA := Lib.hid (parse_any g cap L w3 o3 l0 l5 llast ltx m m3 (by omega))
    rw [hrp] at HPA
    obtain ⟨x3, f3⟩ := rowc e3 (j := 0) (v := .int .i64 0) rfl
    have HR3 := Lib.hid r3
    have HE3 := Lib.hid e3
    have HG3 := Lib.hid g3
    have HB3 := Lib.hid hb3
    have HW3 := Lib.hid hw3
    clear ho r2 hbw2 r3 e3 o3 m3 g3 hb3 hrp l0 l5 llast ltx hb2 hw3
    go_wp2_with fail
    rw [HW3.out]
    refine HPA.out.mono ?_
    rintro e w4 ⟨hb4, ha⟩
    have hs4 := hb4.size
    have r4 := (hb4.block _ (lt_of_block HR3.out)).trans HR3.out
    have e4 := (hb4.block _ (lt_of_block HE3.out)).trans HE3.out
    have g4 := (hb4.cell (p := ⟨0, 0, none⟩) (show 0 < w3.heap.size by omega)).trans HG3.out
    have hb04 := HB3.out.trans (hb4.mono (by omega))
    cases rp with
    | ok t j =>
      obtain ⟨u, rfl, ⟨cs, rfl, hc4⟩⟩ := ha
      obtain ⟨kc0, nc0, B2, q2, p2, B3, q3, p3, B4, q4, p4, B5, q5, p5, B6, q6, p6, rfl⟩ := hc4.lit
      obtain ⟨w5, hw5⟩ : ∃ w5, w4.alloc (.cells #[.int .i64 kc0, .bool nc0, .slice B2 q2 p2, .slice B3 q3 p3, .slice B4 q4 p4, .slice B5 q5 p5, .slice B6 q6 p6] 28) = w5 := ⟨_, rfl⟩
      have s5 : w5.heap.size = w4.heap.size + 1 := by rw [← hw5]; simp
      have r5 : w5.heap[w.heap.size]? = some (.cells #[.int .i64 0, .bool false, .slice none 0 0, .slice none 0 0, .slice none 0 0, .slice none 0 0, .slice none 0 0] 28 (0, 0)) := by rw [← hw5]; exact (Below.heap_alloc _ _ _ (lt_of_block r4)).trans r4
      have c5 : w5.heap[w4.heap.size]? = some (.cells #[.int .i64 kc0, .bool nc0, .slice B2 q2 p2, .slice B3 q3 p3, .slice B4 q4 p4, .slice B5 q5 p5, .slice B6 q6 p6] 28 (0, 0)) := by rw [← hw5]; exact heap_alloc_last w4 _
      have b5 : Below w.heap.size w w5 := by rw [← hw5]; exact hb04.alloc (by omega) _
      have m5 : CmdAt w5 (fun k => w3.heap.size ≤ k ∧ k < w4.heap.size) [.int .i64 kc0, .bool nc0, .slice B2 q2 p2, .slice B3 q3 p3, .slice B4 q4 p4, .slice B5 q5 p5, .slice B6 q6 p6] t := hc4.move (fun _ e => e) fun k e => by rw [← hw5]; exact Below.heap_alloc _ _ _ e.2
      have hfn := fin_of (W := w5) (rb := w.heap.size) (b := w4.heap.size) (base := w.heap.size) (kind := kc0) (no := nc0) (v2 := .slice B2 q2 p2) (v3 := .slice B3 q3 p3) (v4 := .slice B4 q4 p4) (v5 := .slice B5 q5 p5) (v6 := .slice B6 q6 p6) (rowc c5 (j := 0) rfl).1 (rowc c5 (j := 1) rfl).1 (rowc c5 (j := 2) rfl).1 (rowc c5 (j := 3) rfl).1 (rowc c5 (j := 4) rfl).1 (rowc c5 (j := 5) rfl).1 (rowc c5 (j := 6) rfl).1 ⟨_, _, _, _, _, _, _, r5⟩ m5 (fun k e => ⟨by omega, by omega, by omega⟩)
      have HAN := Lib.hid (as_nil (.iface 49 (.pointer (some ⟨w2.heap.size, 0, none⟩))) w5)
      have HB5 := Lib.hid b5
      have HW5 := Lib.hid hw5
      clear r4 e4 g4 hb04 hb4 hc4 r5 c5 b5 m5 hw5
      go_wp2_with fail
      rw [HW5.out]
      refine HAN.out.mono ?_
      rintro e w6 ⟨rfl, hw6⟩
      obtain rfl := hw6.symm
      obtain ⟨k0, k1, k2, k3, k4, k5, k6, ⟨z0, z1, z2, z3, z4, z5, z6, ⟨y0, g0⟩, ⟨y1, g1⟩, ⟨y2, g2⟩, ⟨y3, g3⟩, ⟨y4, g4⟩, ⟨y5, g5⟩, ⟨y6, g6⟩⟩, hfin⟩ := hfn
      have HRT := Lib.hid hfin
      clear hfin
      go_wp2
      obtain ⟨W6, hW6, hl6, hc6, hk6⟩ := HRT.out
      rw [hW6]
      exact bodyPost_ret (results_c2 (t := 2) (i := 3) (by kernel_rfl) rfl hl6 rfl) rfl ⟨HB5.out.trans (hk6.to_below (by omega) (fun k e => Nat.le_of_eq e.symm)), _, rfl, hc6⟩
    | err n =>
      obtain ⟨k2, rfl⟩ := ha
      obtain ⟨w5, hw5⟩ : ∃ w5, w4.alloc (.cells #[.int .i64 0, .bool false, .slice none 0 0, .slice none 0 0, .slice none 0 0, .slice none 0 0, .slice none 0 0] 28) = w5 := ⟨_, rfl⟩
      have s5 : w5.heap.size = w4.heap.size + 1 := by rw [← hw5]; simp
      have r5 : w5.heap[w.heap.size]? = some (.cells #[.int .i64 0, .bool false, .slice none 0 0, .slice none 0 0, .slice none 0 0, .slice none 0 0, .slice none 0 0] 28 (0, 0)) := by rw [← hw5]; exact (Below.heap_alloc _ _ _ (lt_of_block r4)).trans r4
      have e5 : w5.heap[w2.heap.size]? = some (.cells #[.int .i64 0] 29 (0, 0)) := by rw [← hw5]; exact (Below.heap_alloc _ _ _ (lt_of_block e4)).trans e4
      have b5 : Below w.heap.size w w5 := by rw [← hw5]; exact hb04.alloc (by omega) _
      have g5 : w5.cell? ⟨0, 0, none⟩ = some ErrT := ((b5.cell (p := ⟨0, 0, none⟩) (show 0 < w.heap.size by omega))).trans ((HK1.out.cell (p := ⟨0, 0, none⟩) (show 0 < w.heap.size by omega)).symm.trans HG1.out)
      have HAH := Lib.hid (as_hit k2 n ⟨w2.heap.size, 0, none⟩ (.int .i64 0) w5 g5 (rowc e5 (j := 0) rfl).1 (rowc e5 (j := 0) (v := .int .i64 0) rfl).2)
      have HB5 := Lib.hid b5
      have HR5 := Lib.hid r5
      have HE5 := Lib.hid e5
      have HW5 := Lib.hid hw5
      unfold fltV at HAH
      unfold zeroCmd fv
      clear r4 e4 g4 hb04 hb4 r5 e5 b5 g5 hw5
      go_wp2_with fail
      rw [HW5.out]
      refine HAH.out.mono ?_
      rintro e w9 ⟨rfl, w6, hb6, rfl⟩
      have hs6 := hb6.size
      obtain ⟨w8, hw8⟩ : ∃ w8, w6.setCell ⟨w2.heap.size, 0, none⟩ (.int .i64 n) = w8 := ⟨_, rfl⟩
      rw [hw8]
      have r6 := (hb6.block _ (lt_of_block HR5.out)).trans HR5.out
      have e6 := (hb6.block _ (lt_of_block HE5.out)).trans HE5.out
      have hr3 : w8.heap[w.heap.size]? = some (.cells #[.int .i64 0, .bool false, .slice none 0 0, .slice none 0 0, .slice none 0 0, .slice none 0 0, .slice none 0 0] 28 (0, 0)) := by rw [← hw8]; exact (Below.heap_setCell _ _ _ _ (by show ¬ w.heap.size = w2.heap.size; omega)).trans r6
      have he8 : w8.heap[w2.heap.size]? = some (.cells #[.int .i64 n] 29 (0, 0)) := by
        have h9 : (w6.setCell ⟨w2.heap.size, 0, none⟩ (.int .i64 n)).heap[w2.heap.size]? = some (.cells #[.int .i64 n] 29 (0, 0)) := by simpa using heap_setCell_same w6 w2.heap.size 0 #[.int .i64 0] 29 (.int .i64 n) e6
        rw [← hw8]; exact h9
      have b8 : Below w.heap.size w w8 := by rw [← hw8]; exact (HB5.out.trans (hb6.mono (by omega))).setCell (p := ⟨w2.heap.size, 0, none⟩) (by show w.heap.size ≤ w2.heap.size; omega) _
      obtain ⟨x8, f8⟩ := rowc he8 (j := 0) (v := .int .i64 n) rfl
      have HS7 := Lib.hid (set7 hr3 (.int .i64 0) (.bool false) (.slice none 0 0) (.slice none 0 0) (.slice none 0 0) (.slice none 0 0) (.slice none 0 0))
      have HK7 := Lib.hid (put7_kept (Kept.of_below (T := fun _ => False) b8) (.inr (Nat.le_refl _)) (.int .i64 0) (.bool false) (.slice none 0 0) (.slice none 0 0) (.slice none 0 0) (.slice none 0 0) (.slice none 0 0))
      obtain ⟨y0, g0⟩ := rowc hr3 (j := 0) (v := .int .i64 0) rfl
      obtain ⟨y1, g1⟩ := rowc hr3 (j := 1) (v := .bool false) rfl
      obtain ⟨y2, g2⟩ := rowc hr3 (j := 2) (v := .slice none 0 0) rfl
      obtain ⟨y3, g3⟩ := rowc hr3 (j := 3) (v := .slice none 0 0) rfl
      obtain ⟨y4, g4⟩ := rowc hr3 (j := 4) (v := .slice none 0 0) rfl
      obtain ⟨y5, g5⟩ := rowc hr3 (j := 5) (v := .slice none 0 0) rfl
      obtain ⟨y6, g6⟩ := rowc hr3 (j := 6) (v := .slice none 0 0) rfl
      have hneb : ¬ w2.heap.size = w.heap.size := by omega
      have hneb2 : ¬ w.heap.size = w2.heap.size := by omega
      obtain ⟨w7, hw7⟩ : ∃ w7, put7 w8 w.heap.size (.int .i64 0) (.bool false) (.slice none 0 0) (.slice none 0 0) (.slice none 0 0) (.slice none 0 0) (.slice none 0 0) = w7 := ⟨_, rfl⟩
      rw [hw7] at HS7 HK7
      have HL7 := Lib.hid (load7 (W := w7.drew) HS7.out)
      unfold put7 at hw7
      have HW7 := Lib.hid hw7
      have HBF := Lib.hid (HK7.out.drew.to_below (B := w.heap.size) (Nat.le_refl _) (fun _ e => e.elim))
      clear hw7 hw8 r6 e6 hr3 he8 b8 hb6
      go_upto_region 6 with fail
      go_region
      all_goals
        go_wp2
        rw [HW7.out]
        exact bodyPost_ret (results_c2 (t := 2) (i := 3) (by kernel_rfl) rfl HL7.out rfl) rfl ⟨HBF.out, rfl⟩
end Go.Proofs.YtioddclglemlmaaGreatDoor
