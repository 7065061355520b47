/- RefsPlain: a text without a dollar is one part, its doubled dollars are single ones, and a reference stands between what is ahead of it and what is behind. -/
import Derived.Test.YtndoloohdloflaaRefsD
namespace Go.Proofs.Ytndoloohdloflaa
open Go.RowKit

def goodC (two : Bool) (c : UInt8) : Prop := c ≠ 36 ∧ (two = true → c ≠ 40 ∧ c ≠ 41 ∧ c ≠ 32 ∧ c ≠ 9 ∧ c ≠ 10)
def goodS (two : Bool) (x : ByteArray) (m : Nat) : Prop := ∀ j, j < m → goodC two (x.get! j)
theorem good_all {two : Bool} {x : ByteArray} (h : goodS two x x.size) : ∀ c ∈ x.data.toList, goodC two c := by
  intro c hc
  obtain ⟨j, hj, rfl⟩ := List.getElem_of_mem hc
  have hj' : j < x.size := by simpa using hj
  rw [get_list' x j hj', bget x j hj']
  exact h j hj'
theorem one_of {α β : Type} (l : List (α × β)) (a : α) (h : l.map (·.1) = [a]) : ∃ x0, l = [(a, x0)] := by
  rcases l with _ | ⟨p, _ | ⟨q, t⟩⟩ <;> simp at h
  exact ⟨p.2, by rw [← h]⟩
theorem ne_u8 {c : UInt8} (n : Nat) (u : UInt8) (hu : u.toNat = n) (h : c ≠ u) : ((c.toNat : Int) == (n : Int)) = false := by
  rw [beq_eq_false_iff_ne]
  intro e
  exact h (UInt8.toNat_inj.1 (by omega))

theorem isB_no {c : UInt8} (h : c ≠ 32 ∧ c ≠ 9 ∧ c ≠ 10) : isB c = false := by
  unfold isB; simp [h.1, h.2.1, h.2.2]
theorem plain_parts (a b n : ByteArray) (ha : goodS false a a.size) (hb : goodS false b b.size) (hn : goodS true n n.size) (ha0 : ¬ a.size = 0) (hb0 : ¬ b.size = 0) :
    partsI (a ++ ⟨#[36, 40]⟩ ++ n ++ ⟨#[41]⟩ ++ b) = some [((1 : Int), a, (⟨#[]⟩ : ByteArray), ([] : List ByteArray)), ((2 : Int), n, (⟨#[]⟩ : ByteArray), ([] : List ByteArray)), ((1 : Int), b, (⟨#[]⟩ : ByteArray), ([] : List ByteArray))] := by
  refine parts_ref a b n _ (by simp [ByteArray.data_append]) (fun c hc => (good_all ha c hc).1) (fun c hc => (good_all hb c hc).1) ?_ ?_ ?_
  · intro h; apply ha0; have := congrArg List.length h; simpa using this
  · intro h; apply hb0; have := congrArg List.length h; simpa using this
  · intro c hc
    obtain ⟨h1, h2⟩ := good_all hn c hc
    have := h2 rfl
    exact ⟨⟨this.1, this.2.1⟩, isB_no ⟨this.2.2.1, this.2.2.2.1, this.2.2.2.2⟩⟩
theorem dollar_parts (a b : ByteArray) (ha : goodS false a a.size) (hb : goodS false b b.size) :
    partsI (a ++ ⟨#[36, 36]⟩ ++ b) = some [((1 : Int), a ++ ⟨#[36]⟩ ++ b, (⟨#[]⟩ : ByteArray), ([] : List ByteArray))] := by
  rw [parts_dollar a b _ (by simp [ByteArray.data_append]) (fun c hc => (good_all ha c hc).1) (fun c hc => (good_all hb c hc).1)]
  have : mk (a.data.toList ++ 36 :: b.data.toList) = a ++ ⟨#[36]⟩ ++ b := by
    apply ba_ext; simp [mk, ByteArray.data_append]
  rw [this]

set_option maxRecDepth 100000 in
set_option maxHeartbeats 4000000 in
theorem RefsPlain_walk (a b n : ByteArray) (w : World) (ha : a.size ≤ 140737488351232) (hb : b.size ≤ 140737488351232) (hn : n.size ≤ 140737488351232) :
    Calls Try.prog 12 #[.string a, .string b, .string n] w fun e w' => e = .returned (.bool true) ∧ Below w.heap.size w w' := by
  have HL := Lib.hid (refsAlive w)
  have HN := Lib.hid fun x w => numR_any x w
  have HP := Lib.hid fun s w h => Parse_any s w h
  obtain ⟨xs, hxs⟩ : ∃ xs : List ByteArray, xs = [a, b, n] := ⟨_, rfl⟩
  have HXS := Lib.hid hxs
  have hsz : Hid (∀ x ∈ xs, x.size ≤ 140737488351232) := by unfold Hid; rw [hxs]; simp [ha, hb, hn]
  clear hxs
  go_enter Try.func12, Try.ntmps12
  go_wp2_with (go_at_call 49; refine HL.out.mono ?_; rintro e w1 ⟨rfl, HB⟩)
  have hblk := World.alloc_heap_new w1 (.cells #[.string a, .string b, .string n] 9)
  have hcs : Hid (∀ k x, xs[k]? = some x → (w1.alloc (.cells #[.string a, .string b, .string n] 9)).cell? ⟨w1.heap.size, k, none⟩ = some (.string x)) := by
    intro k x hk
    rw [cell_of_row _ _ k _ 9 (0, 0) hblk]
    rw [HXS.out] at hk
    match k, hk with
    | 0, hk => simpa using hk
    | 1, hk => simpa using hk
    | 2, hk => simpa using hk
    | k + 3, hk => simp at hk
  have HB2 : Below w.heap.size w (w1.alloc (.cells #[.string a, .string b, .string n] 9)) := HB.alloc HB.size _
  clear hblk
  obtain ⟨wo, hwo⟩ : ∃ wo, w1.alloc (.cells #[.string a, .string b, .string n] 9) = wo := ⟨_, rfl⟩
  obtain ⟨g, hg⟩ : ∃ g, w1.heap.size = g := ⟨_, rfl⟩
  rw [hwo] at HB2 hcs ⊢
  rw [hg] at hcs ⊢
  clear hwo hg HB
  go_loopw [9, 10, 11] (fun iv _ _ wi => ∃ k : Nat, iv = .int .i64 k ∧ k ≤ 3 ∧ Hid (∀ j x, j < k → xs[j]? = some x → x.size ≤ 1000 ∧ goodS (j == 2) x x.size) ∧ Hid (wi = wo)) (fun iv _ _ _ => 3 - (intOf iv).toNat)
  case atStart => exact ⟨0, rfl, by omega, fun j x h => by omega, rfl⟩
  case round =>
    obtain ⟨k, rfl, hk, hall, hwi⟩ := hrel
    have hwi2 := hwi.out
    obtain rfl : wo = wr := hwi2.symm
    clear hwi
    by_cases hlt : k < 3
    · have q1 : (k : Int) < 3 := by omega
      obtain ⟨x, hx⟩ : ∃ x, xs[k]? = some x := ⟨_, List.getElem?_eq_getElem (by rw [HXS.out]; simpa using hlt)⟩
      have hcx := hcs.out k x hx
      have hxz := hsz.out x (List.mem_of_getElem? hx)
      have HX := Lib.hid hx
      clear hx
      by_cases hbig : (1000 : Int) < x.size
      · go_wp2
        go_ret
        exact ⟨rfl, HB2⟩
      · have hxz2 : x.size ≤ 1000 := by omega
        obtain ⟨two, htwo⟩ : ∃ two, (k == 2) = two := ⟨_, rfl⟩
        have HTW := Lib.hid htwo
        have h2 : ((k : Int) == 2) = two := by
          rw [← htwo]
          by_cases h : k = 2
          · subst h; rfl
          · have h1 : (k == 2) = false := by rw [beq_eq_false_iff_ne]; exact h
            rw [h1, beq_eq_false_iff_ne]; omega
        clear htwo
        obtain ⟨wr2, hwr2⟩ : ∃ wr2, wr2 = wo := ⟨_, rfl⟩
        have HWR := Lib.hid hwr2
        clear hwr2
        go_wp2
        go_loopw [10, 11] (fun mv _ wi => ∃ m : Nat, mv = .int .i64 m ∧ m ≤ x.size ∧ Hid (goodS two x m) ∧ Hid (wi = wr2)) (fun mv _ _ => x.size - (intOf mv).toNat)
        case atStart => exact ⟨0, rfl, Nat.zero_le _, fun j h => by omega, HWR.out.symm⟩
        case round =>
          obtain ⟨m, rfl, hm, hgood, hwi⟩ := hrel
          have hwi2 := hwi.out
          rw [HWR.out] at hwi2
          obtain rfl : wo = wr := hwi2.symm
          clear hwi
          by_cases hmx : m < x.size
          · have q3 : (m : Int) < x.size := by omega
            have hbg := bget x m hmx
            by_cases c1 : x[m] = 36
            · have hx1 : (x[m].toNat : Int) = 36 := by rw [c1]; rfl
              clear hbg c1
              go_wp2
              go_ret
              exact ⟨rfl, HB2⟩
            have n1 : ((x[m].toNat : Int) == 36) = false := by rw [beq_eq_false_iff_ne]; intro h; exact c1 (UInt8.toNat_inj.1 (by show x[m].toNat = 36; omega))
            cases two
            · have HG : Hid (goodS false x (m + 1)) := by
                intro j hj
                rcases Nat.lt_or_eq_of_le (Nat.lt_succ_iff.1 hj) with h | h
                · exact hgood.out j h
                · subst h; rw [← hbg]; exact ⟨c1, fun h => by cases h⟩
              clear hbg c1 hgood
              go_wp2
              exact ⟨⟨m + 1, by go_num, by omega, HG, HWR.out.symm⟩, by simp [intOf]; omega⟩
            · have hk2 : (k : Int) = 2 := by simpa using h2
              have hcx2 : wo.cell? ⟨g, 2, none⟩ = some (.string x) := by rw [← hcx]; congr 2; omega
              by_cases c40 : x[m] = 40
              · have hx1 : (x[m].toNat : Int) = 40 := by rw [c40]; rfl
                clear hbg c40 c1
                go_wp2
                go_ret
                exact ⟨rfl, HB2⟩
              have n40 : ((x[m].toNat : Int) == 40) = false := by rw [beq_eq_false_iff_ne]; intro h; exact c40 (UInt8.toNat_inj.1 (by show x[m].toNat = 40; omega))
              by_cases c41 : x[m] = 41
              · have hx1 : (x[m].toNat : Int) = 41 := by rw [c41]; rfl
                clear hbg c41 c1
                go_wp2
                go_ret
                exact ⟨rfl, HB2⟩
              have n41 : ((x[m].toNat : Int) == 41) = false := by rw [beq_eq_false_iff_ne]; intro h; exact c41 (UInt8.toNat_inj.1 (by show x[m].toNat = 41; omega))
              by_cases c32 : x[m] = 32
              · have hx1 : (x[m].toNat : Int) = 32 := by rw [c32]; rfl
                clear hbg c32 c1
                go_wp2
                go_ret
                exact ⟨rfl, HB2⟩
              have n32 : ((x[m].toNat : Int) == 32) = false := by rw [beq_eq_false_iff_ne]; intro h; exact c32 (UInt8.toNat_inj.1 (by show x[m].toNat = 32; omega))
              by_cases c9 : x[m] = 9
              · have hx1 : (x[m].toNat : Int) = 9 := by rw [c9]; rfl
                clear hbg c9 c1
                go_wp2
                go_ret
                exact ⟨rfl, HB2⟩
              have n9 : ((x[m].toNat : Int) == 9) = false := by rw [beq_eq_false_iff_ne]; intro h; exact c9 (UInt8.toNat_inj.1 (by show x[m].toNat = 9; omega))
              by_cases c10 : x[m] = 10
              · have hx1 : (x[m].toNat : Int) = 10 := by rw [c10]; rfl
                clear hbg c10 c1
                go_wp2
                go_ret
                exact ⟨rfl, HB2⟩
              have n10 : ((x[m].toNat : Int) == 10) = false := by rw [beq_eq_false_iff_ne]; intro h; exact c10 (UInt8.toNat_inj.1 (by show x[m].toNat = 10; omega))
              have HG : Hid (goodS true x (m + 1)) := by
                intro j hj
                rcases Nat.lt_or_eq_of_le (Nat.lt_succ_iff.1 hj) with h | h
                · exact hgood.out j h
                · subst h; rw [← hbg]; exact ⟨c1, fun _ => ⟨c40, c41, c32, c9, c10⟩⟩
              clear hbg c1 c40 c41 c32 c9 c10 hgood hk2
              go_wp2
              exact ⟨⟨m + 1, by go_num, by omega, HG, HWR.out.symm⟩, by simp [intOf]; omega⟩
          · have HA : Hid (∀ j y, j < k + 1 → xs[j]? = some y → y.size ≤ 1000 ∧ goodS (j == 2) y y.size) := by
              intro j y hj hy
              rcases Nat.lt_or_eq_of_le (Nat.lt_succ_iff.1 hj) with h | h
              · exact hall.out j y h hy
              · subst h
                rw [HX.out] at hy
                cases hy
                refine ⟨hxz2, ?_⟩
                rw [HTW.out]
                intro j2 hj2
                exact hgood.out j2 (by omega)
            clear hall hgood
            go_wp2
            exact ⟨⟨k + 1, by go_num, by omega, HA, Lib.hid trivial⟩, by simp [intOf]; omega⟩
    · have hA0 := hall.out 0 a (by omega) (by rw [HXS.out]; rfl)
      have hA1 := hall.out 1 b (by omega) (by rw [HXS.out]; rfl)
      have hA2 := hall.out 2 n (by omega) (by rw [HXS.out]; rfl)
      have q1 : ¬ (k : Int) < 3 := by omega
      clear hall
      by_cases ha0 : a.size = 0
      · have e1 : a.toList.isEmpty = true := by rw [ba_toList, List.eq_nil_of_length_eq_zero (l := a.data.toList) (by rw [Array.length_toList]; exact ha0)]; rfl
        have e2 : (a.toList == []) = true := by rw [ba_toList, List.eq_nil_of_length_eq_zero (l := a.data.toList) (by rw [Array.length_toList]; exact ha0)]; rfl
        clear hA0 hA1 hA2
        go_wp2
        go_ret
        exact ⟨rfl, HB2⟩
      have e1 : a.toList.isEmpty = false := ne_empty (by omega)
      have e2 : (a.toList == []) = false := by rw [beq_eq_false_iff_ne]; intro h; rw [h] at e1; cases e1
      by_cases hb0 : b.size = 0
      · have f1 : b.toList.isEmpty = true := by rw [ba_toList, List.eq_nil_of_length_eq_zero (l := b.data.toList) (by rw [Array.length_toList]; exact hb0)]; rfl
        have f2 : (b.toList == []) = true := by rw [ba_toList, List.eq_nil_of_length_eq_zero (l := b.data.toList) (by rw [Array.length_toList]; exact hb0)]; rfl
        clear hA0 hA1 hA2
        go_wp2
        go_ret
        exact ⟨rfl, HB2⟩
      have f1 : b.toList.isEmpty = false := ne_empty (by omega)
      have f2 : (b.toList == []) = false := by rw [beq_eq_false_iff_ne]; intro h; rw [h] at f1; cases f1
      clear hsz hcs HXS
      have s1 := hA0.1
      have s2 := hA1.1
      have s3 := hA2.1
      have hp1 := plain_parts a b n hA0.2 hA1.2 hA2.2 ha0 hb0
      have hp2 := dollar_parts a b hA0.2 hA1.2
      clear hA0 hA1 hA2
      have H1 := Lib.hid fun w' => HP.out (a ++ ⟨#[36, 40]⟩ ++ n ++ ⟨#[41]⟩ ++ b) w' (by simp only [ByteArray.size_append]; show a.size + 2 + n.size + 1 + b.size ≤ _; omega)
      have H2 := Lib.hid fun w' => HP.out (a ++ ⟨#[36, 36]⟩ ++ b) w' (by simp only [ByteArray.size_append]; show a.size + 2 + b.size ≤ _; omega)
      rw [hp1] at H1
      rw [hp2] at H2
      clear hp1 hp2 HP
      go_wp2_with fail
      refine (H1.out wo).mono ?_
      rintro e w2 ⟨hb1, v, l, rfl, hm, hv, ha⟩
      obtain ⟨A, c, rfl, _, _⟩ := hv.form
      obtain ⟨x0, x1, x2, rfl⟩ := three l _ _ _ hm
      go_wp2_with fail
      refine (H2.out w2).mono ?_
      rintro e w3 ⟨hb2, v', l', rfl, hm', hv', ha'⟩
      obtain ⟨A', c', rfl, _, _⟩ := hv'.form
      obtain ⟨y0, rfl⟩ := one_of l' _ hm'
      have hv2 := hv.below hb2
      rcases hv2.2 with ⟨_, h0⟩ | ⟨gg, cap, cur, h, _⟩
      · simp at h0
      cases h
      rcases hv'.2 with ⟨_, h0⟩ | ⟨g', cap', cur', h, _⟩
      · simp at h0
      cases h
      have hc := hv2.cells
      have hc' := hv'.cells
      have k1 : w3.cell? ⟨gg, 1, none⟩ = some (.string a) := hc 1 _ rfl
      have k4 : w3.cell? ⟨gg, 4, none⟩ = some (.int .i64 2) := hc 4 _ rfl
      have k5 : w3.cell? ⟨gg, 5, none⟩ = some (.string n) := hc 5 _ rfl
      have k9 : w3.cell? ⟨gg, 9, none⟩ = some (.string b) := hc 9 _ rfl
      have k1' : w3.cell? ⟨g', 1, none⟩ = some (.string (a ++ ⟨#[36]⟩ ++ b)) := hc' 1 _ rfl
      have HB := Lib.hid ((HB2.trans (hb1.mono HB2.size)).trans (hb2.mono (HB2.trans (hb1.mono HB2.size)).size))
      clear hc hc' hv hv2 ha hv' ha' hb1 hb2 hm hm' H1 H2
      go_wp2_with (first | (go_at_call 53; refine (HN.out _ _).mono ?_; rintro e w' ⟨rfl, rfl⟩))
      go_ret
      exact ⟨rfl, HB.out⟩
end Go.Proofs.Ytndoloohdloflaa
