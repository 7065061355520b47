/- RuleSets answers true at every name, value and kind; conditions: texts that lie in memory, the library's one number in its cell. -/
import Derived.Test.YtmcemaphhlcjfaaDoorRAlive
import Derived.Test.YtmcemaphhlcjfaaDoorSetsP
import Derived.BigQuiet
import Derived.Deep.Cut
namespace Go.Proofs.YtmcemaphhlcjfaaDoor
open Go.RowKit

def okN (c : UInt8) : Prop := c ≠ 36 ∧ c ≠ 61 ∧ c ≠ 59 ∧ c ≠ 58 ∧ c ≠ 43 ∧ c ≠ 63 ∧ c ≠ 33 ∧ c ≠ 32 ∧ c ≠ 9 ∧ c ≠ 10
theorem u8_ne {c : UInt8} {n : Nat} (hn : n < 256) (h : c ≠ n.toUInt8) : ((c.toNat : Int) == n) = false := by
  rw [beq_eq_false_iff_ne]
  intro e
  apply h
  have e2 : c.toNat = n := by omega
  apply UInt8.toNat_inj.1
  rw [e2]; simp; omega
theorem okN_cases (c : UInt8) : (((c.toNat : Int) == 36) = false ∧ ((c.toNat : Int) == 61) = false ∧ ((c.toNat : Int) == 59) = false ∧ ((c.toNat : Int) == 58) = false ∧ ((c.toNat : Int) == 43) = false ∧ ((c.toNat : Int) == 63) = false ∧ ((c.toNat : Int) == 33) = false ∧ ((c.toNat : Int) == 32) = false ∧ ((c.toNat : Int) == 9) = false ∧ ((c.toNat : Int) == 10) = false ∧ okN c)
    ∨ (c.toNat : Int) = 36 ∨ (c.toNat : Int) = 61 ∨ (c.toNat : Int) = 59 ∨ (c.toNat : Int) = 58 ∨ (c.toNat : Int) = 43 ∨ (c.toNat : Int) = 63 ∨ (c.toNat : Int) = 33 ∨ (c.toNat : Int) = 32 ∨ (c.toNat : Int) = 9 ∨ (c.toNat : Int) = 10 := by
  by_cases h0 : c = 36
  · right; left; subst h0; rfl
  by_cases h1 : c = 61
  · right; right; left; subst h1; rfl
  by_cases h2 : c = 59
  · right; right; right; left; subst h2; rfl
  by_cases h3 : c = 58
  · right; right; right; right; left; subst h3; rfl
  by_cases h4 : c = 43
  · right; right; right; right; right; left; subst h4; rfl
  by_cases h5 : c = 63
  · right; right; right; right; right; right; left; subst h5; rfl
  by_cases h6 : c = 33
  · right; right; right; right; right; right; right; left; subst h6; rfl
  by_cases h7 : c = 32
  · right; right; right; right; right; right; right; right; left; subst h7; rfl
  by_cases h8 : c = 9
  · right; right; right; right; right; right; right; right; right; left; subst h8; rfl
  by_cases h9 : c = 10
  · right; right; right; right; right; right; right; right; right; right; subst h9; rfl
  left
  exact ⟨u8_ne (n := 36) (by decide) h0, u8_ne (n := 61) (by decide) h1, u8_ne (n := 59) (by decide) h2, u8_ne (n := 58) (by decide) h3, u8_ne (n := 43) (by decide) h4, u8_ne (n := 63) (by decide) h5, u8_ne (n := 33) (by decide) h6, u8_ne (n := 32) (by decide) h7, u8_ne (n := 9) (by decide) h8, u8_ne (n := 10) (by decide) h9, h0, h1, h2, h3, h4, h5, h6, h7, h8, h9⟩

def opB (k : Nat) : ByteArray := ([⟨#[61]⟩, ⟨#[58, 61]⟩, ⟨#[58, 58, 61]⟩, ⟨#[63, 61]⟩, ⟨#[43, 61]⟩, ⟨#[33, 61]⟩] : List ByteArray).getD k ⟨#[]⟩
def setB (k : Nat) : Int := ([1, 2, 2, 3, 4, 5] : List Int).getD k 0
theorem op_a (k : Nat) (h : k ≤ 5) : OpA (opB k).data.toList (setB k) := by
  have : k = 0 ∨ k = 1 ∨ k = 2 ∨ k = 3 ∨ k = 4 ∨ k = 5 := by omega
  rcases this with rfl | rfl | rfl | rfl | rfl | rfl <;> simp [OpA, opB, setB]
theorem op_cell (w : World) (k : Nat) (h : k ≤ 5) : (w.alloc (.cells #[.string ⟨#[61]⟩, .string ⟨#[58, 61]⟩, .string ⟨#[58, 58, 61]⟩, .string ⟨#[63, 61]⟩, .string ⟨#[43, 61]⟩, .string ⟨#[33, 61]⟩] 9)).cell? ⟨w.heap.size, k, none⟩ = some (.string (opB k)) := by
  rw [cell_of_row _ _ _ _ _ _ (World.alloc_heap_new w _)]
  have : k = 0 ∨ k = 1 ∨ k = 2 ∨ k = 3 ∨ k = 4 ∨ k = 5 := by omega
  rcases this with rfl | rfl | rfl | rfl | rfl | rfl <;> rfl
theorem set_cell (w : World) (k : Nat) (h : k ≤ 5) : (w.alloc (.cells #[.int .i64 1, .int .i64 2, .int .i64 2, .int .i64 3, .int .i64 4, .int .i64 5] 3)).cell? ⟨w.heap.size, k, none⟩ = some (.int .i64 (setB k)) := by
  rw [cell_of_row _ _ _ _ _ _ (World.alloc_heap_new w _)]
  have : k = 0 ∨ k = 1 ∨ k = 2 ∨ k = 3 ∨ k = 4 ∨ k = 5 := by omega
  rcases this with rfl | rfl | rfl | rfl | rfl | rfl <;> rfl
theorem nm_of {s : ByteArray} (h0 : s.size ≠ 0) (h : ∀ j, j < s.size → okN (s.get! j)) : Nm s.data.toList := by
  refine ⟨fun e => h0 (by have := congrArg List.length e; simpa using this), fun c hc => ?_⟩
  obtain ⟨j, hj, rfl⟩ := List.getElem_of_mem hc
  have hj2 : j < s.size := by simpa using hj
  have := h j hj2
  rw [← bget s j hj2, ← get_list' s j hj2] at this
  exact this
theorem vl_of {s : ByteArray} (h : ∀ h : 0 < s.size, bl s[0] = false) : Vl s.data.toList := by
  by_cases h0 : 0 < s.size
  · right
    have hl : 0 < s.data.toList.length := by simpa using h0
    cases hq : s.data.toList with
    | nil => rw [hq] at hl; cases hl
    | cons y l =>
      refine ⟨y, l, rfl, ?_⟩
      have e : s.data.toList[0] = s[0] := get_list' s 0 h0
      have e2 : s.data.toList[0] = y := by simp [hq]
      rw [← e2, e]; exact h h0
  · left; exact List.eq_nil_of_length_eq_zero (by rw [Array.length_toList]; show s.size = 0; omega)

theorem opB_size (k : Nat) (hk : k ≤ 5) : (opB k).size ≤ 3 := by
  have : k = 0 ∨ k = 1 ∨ k = 2 ∨ k = 3 ∨ k = 4 ∨ k = 5 := by omega
  rcases this with rfl | rfl | rfl | rfl | rfl | rfl <;> decide
theorem takes3 (name value : ByteArray) (k : Nat) (hk : k ≤ 5) (hN : Nm name.data.toList) (hV : Vl value.data.toList) (h1 : name.size ≤ 500) (h2 : value.size ≤ 500) (w : World) :
    (Calls Tryd.prog 11 #[.string (name ++ ⟨#[32]⟩ ++ opB k ++ ⟨#[32, 32]⟩ ++ value)] w fun e w' => e = .returned (.agg #[.int .i64 1, .string name, .string value, .string ⟨#[]⟩, .string ⟨#[]⟩, .int .i64 (setB k), .bool false, .bool false]) ∧ Below w.heap.size w w') ∧
    (Calls Tryd.prog 11 #[.string (name ++ opB k ++ value)] w fun e w' => e = .returned (.agg #[.int .i64 1, .string name, .string value, .string ⟨#[]⟩, .string ⟨#[]⟩, .int .i64 (setB k), .bool false, .bool false]) ∧ Below w.heap.size w w') ∧
    (Calls Tryd.prog 11 #[.string (⟨#[116, 32, 117, 32, 58, 32]⟩ ++ name ++ ⟨#[32]⟩ ++ opB k ++ ⟨#[32]⟩ ++ value)] w fun e w' => e = .returned (.agg #[.int .i64 3, .string ⟨#[116, 32, 117, 32]⟩, .string value, .string name, .string ⟨#[]⟩, .int .i64 (setB k), .bool false, .bool false]) ∧ Below w.heap.size w w') := by
  have hop := opB_size k hk
  have al : ∀ a b : ByteArray, (a ++ b).data.toList = a.data.toList ++ b.data.toList := fun a b => by simp
  have ha := op_a k hk
  refine ⟨?_, ?_, ?_⟩
  · refine (Take_any _ w ?_).mono fun e w' h => ⟨?_, h.2⟩
    · simp only [ByteArray.size_append]; show name.size + 1 + (opB k).size + 2 + value.size ≤ _; omega
    · rw [h.1]
      have e1 : name ++ ⟨#[32]⟩ ++ opB k ++ ⟨#[32, 32]⟩ ++ value = mk (name.data.toList ++ ([32] ++ ((opB k).data.toList ++ ([32, 32] ++ value.data.toList)))) := by
        apply ba_ext
        rw [al, al, al, al]
        show name.data.toList ++ [32] ++ (opB k).data.toList ++ [32, 32] ++ value.data.toList = name.data.toList ++ ([32] ++ ((opB k).data.toList ++ ([32, 32] ++ value.data.toList)))
        simp
      rw [e1, tk_sets hN ha (.inr rfl) hV (by decide)]
      rfl
  · refine (Take_any _ w ?_).mono fun e w' h => ⟨?_, h.2⟩
    · simp only [ByteArray.size_append]; omega
    · rw [h.1]
      have e1 : name ++ opB k ++ value = mk (name.data.toList ++ ([] ++ ((opB k).data.toList ++ ([] ++ value.data.toList)))) := by
        apply ba_ext
        rw [al, al]
        show name.data.toList ++ (opB k).data.toList ++ value.data.toList = name.data.toList ++ ([] ++ ((opB k).data.toList ++ ([] ++ value.data.toList)))
        simp
      rw [e1, tk_sets hN ha (.inl rfl) hV (by decide)]
      rfl
  · refine (Take_any _ w ?_).mono fun e w' h => ⟨?_, h.2⟩
    · simp only [ByteArray.size_append]; show 6 + name.size + 1 + (opB k).size + 1 + value.size ≤ _; omega
    · rw [h.1]
      have e1 : ⟨#[116, 32, 117, 32, 58, 32]⟩ ++ name ++ ⟨#[32]⟩ ++ opB k ++ ⟨#[32]⟩ ++ value = mk ([116, 32, 117, 32] ++ (58 :: 32 :: (name.data.toList ++ ([32] ++ ((opB k).data.toList ++ ([32] ++ value.data.toList)))))) := by
        apply ba_ext
        rw [al, al, al, al, al]
        show [116, 32, 117, 32, 58, 32] ++ name.data.toList ++ [32] ++ (opB k).data.toList ++ [32] ++ value.data.toList = [116, 32, 117, 32] ++ (58 :: 32 :: (name.data.toList ++ ([32] ++ ((opB k).data.toList ++ ([32] ++ value.data.toList)))))
        simp
      rw [e1, tk_sets3 hN ha (.inr rfl) hV (by decide) (by
        intro x hx
        have : x = 116 ∨ x = 32 ∨ x = 117 ∨ x = 32 := by simpa using hx
        rcases this with rfl | rfl | rfl | rfl <;> exact ⟨by decide, by decide⟩)]
      rfl

set_option maxRecDepth 100000 in
set_option maxHeartbeats 8000000 in
theorem RuleSets_law (name value : ByteArray) (kind : Int) (w : World) (hn : name.size ≤ 140737488351232) (hv : value.size ≤ 140737488351232) (_ : (Lit.int .i64 kind).wf = true) (hw : 1 < w.heap.size) (m : Int) (hm : w.cell? ⟨1, 0, none⟩ = some (.int .i64 m)) :
    Calls Tryd.prog 6 #[.string name, .string value, .int .i64 kind] w fun e w' => e = .returned (.bool true) ∧ Below w.heap.size w w' := by
  have HA := Lib.hid (ruleAlive w hw m hm)
  have HT := Lib.hid fun s w h => Take_any s w h
  clear hm
  go_enter Tryd.func6, Tryd.ntmps6
  go_wp2_with fail
  refine HA.out.mono ?_
  rintro e w1 ⟨rfl, hb1⟩
  have hs1 : w.heap.size ≤ w1.heap.size := hb1.size
  have HB1 := Lib.hid hb1
  clear hb1
  go_wp2
  obtain ⟨w2, hw2⟩ : ∃ w2, w1.alloc (.cells #[.string name, .string value] 9) = w2 := ⟨_, rfl⟩
  rw [hw2]
  have hr2 : w2.heap[w1.heap.size]? = some (.cells #[.string name, .string value] 9 (0, 0)) := by rw [← hw2]; exact World.alloc_heap_new w1 _
  have HB2 := Lib.hid (show Below w.heap.size w w2 from by rw [← hw2]; exact HB1.out.alloc hs1 _)
  obtain ⟨c0, _⟩ := rowc hr2 (j := 0) rfl
  obtain ⟨c1, _⟩ := rowc hr2 (j := 1) rfl
  have hs2 : w1.heap.size < w2.heap.size := lt_of_block hr2
  clear hw2 hr2 HB1
  go_loopw [9, 10, 11] (fun iv _ _ wi => ∃ i : Nat, iv = .int .i64 i ∧ i ≤ 2 ∧ wi = w2 ∧ Hid (1 ≤ i → name.size ≤ 500 ∧ ∀ j, j < name.size → okN (name.get! j)) ∧ Hid (2 ≤ i → value.size ≤ 500)) (fun iv _ _ _ => 2 - (intOf iv).toNat)
  case atStart => exact ⟨0, rfl, by omega, rfl, fun h => by omega, fun h => by omega⟩
  case round =>
    obtain ⟨i, rfl, hi, hwr, hN, hV⟩ := hrel
    obtain rfl : w2 = wr := hwr.symm
    have hi3 : i = 0 ∨ i = 1 ∨ i = 2 := by omega
    rcases hi3 with rfl | rfl | rfl
    · by_cases q : (500 : Int) < name.size
      · go_wp2
        go_ret
        exact ⟨rfl, HB2.out⟩
      · go_wp2
        go_loopw [10, 11] (fun kv _ wi => ∃ k : Nat, kv = .int .i64 k ∧ k ≤ name.size ∧ wi = w2 ∧ Hid (∀ j, j < k → okN (name.get! j))) (fun kv _ _ => name.size - (intOf kv).toNat)
        case atStart => exact ⟨0, rfl, by omega, rfl, fun j h => by omega⟩
        case round =>
          obtain ⟨k, rfl, hk, hwr2, hok⟩ := hrel
          obtain rfl : w2 = wr := hwr2.symm
          by_cases hlk : k < name.size
          · have qk : (k : Int) < name.size := by omega
            have hb := bget name k hlk
            obtain ⟨c, hcx⟩ : ∃ c, name[k] = c := ⟨_, rfl⟩
            rw [hcx] at hb
            rcases okN_cases c with ⟨r0, r1, r2, r3, r4, r5, r6, r7, r8, r9, hc⟩ | r | r | r | r | r | r | r | r | r | r
            · have HC : Hid (∀ j, j < k + 1 → okN (name.get! j)) := fun j hj => by
                by_cases hjk : j = k
                · rw [hjk, ← hb]; exact hc
                · exact hok.out j (by omega)
              clear hb hok hc
              go_wp2
              exact ⟨⟨k + 1, by go_num, by omega, by trivial, HC⟩, by simp [intOf]; omega⟩
            all_goals
              clear hb hok
              go_wp2
              go_ret
              exact ⟨rfl, HB2.out⟩
          · obtain rfl : k = name.size := by omega
            have HC : Hid (1 ≤ 1 → name.size ≤ 500 ∧ ∀ j, j < name.size → okN (name.get! j)) := fun _ => ⟨by omega, hok.out⟩
            clear hok
            go_wp2
            exact ⟨⟨1, by go_num, by omega, by trivial, HC, fun h => by omega⟩, by simp [intOf]⟩
    · by_cases q : (500 : Int) < value.size
      · go_wp2
        go_ret
        exact ⟨rfl, HB2.out⟩
      · have HV : Hid (2 ≤ 2 → value.size ≤ 500) := fun _ => by omega
        have HN1 : Hid (1 ≤ 2 → name.size ≤ 500 ∧ ∀ j, j < name.size → okN (name.get! j)) := fun _ => hN.out (by omega)
        clear hN hV
        go_wp2
        go_loopw [10, 11] (fun kv _ wi => ∃ k : Nat, kv = .int .i64 k ∧ k ≤ value.size ∧ wi = w2) (fun kv _ _ => value.size - (intOf kv).toNat)
        case atStart => exact ⟨0, rfl, by omega, rfl⟩
        case round =>
          obtain ⟨k, rfl, hk, hwr2⟩ := hrel
          obtain rfl : w2 = wr := hwr2.symm
          by_cases hlk : k < value.size
          · have qk : (k : Int) < value.size := by omega
            obtain ⟨c, hcx⟩ : ∃ c, value[k] = c := ⟨_, rfl⟩
            by_cases r : (c.toNat : Int) = 36
            · go_wp2
              go_ret
              exact ⟨rfl, HB2.out⟩
            · have r0 : ((c.toNat : Int) == 36) = false := beq_eq_false_iff_ne.2 r
              go_wp2
              exact ⟨⟨k + 1, by go_num, by omega, by trivial⟩, by simp [intOf]; omega⟩
          · obtain rfl : k = value.size := by omega
            go_wp2
            exact ⟨⟨2, by go_num, by omega, by trivial, HN1, HV⟩, by simp [intOf]⟩
    · have hn5 := (hN.out (by omega)).1
      have HNok := Lib.hid (hN.out (by omega)).2
      have hv5 := hV.out (by omega)
      clear hN hV
      by_cases g1 : kind < 0
      · go_wp2
        go_ret
        exact ⟨rfl, HB2.out⟩
      by_cases g2 : 5 < kind
      · go_wp2
        go_ret
        exact ⟨rfl, HB2.out⟩
      by_cases g3 : name.data.toList = []
      · obtain rfl : name = ⟨#[]⟩ := ba_ext g3
        go_wp2
        go_ret
        exact ⟨rfl, HB2.out⟩
      have g4 : (name.toList == []) = false := by rw [ba_toList, beq_eq_false_iff_ne]; exact g3
      obtain ⟨k, rfl⟩ : ∃ k : Nat, kind = k := ⟨kind.toNat, by omega⟩
      have hk : k ≤ 5 := by omega
      have g1k : ¬ (k : Int) < 0 := g1
      have g2k : ¬ (5 : Int) < k := g2
      have HNm := Lib.hid (nm_of (fun h => g3 (List.eq_nil_of_length_eq_zero (by rw [Array.length_toList]; exact h))) HNok.out)
      clear HNok g3
      by_cases g5 : 0 < value.size
      · have g6 : (0 : Int) < value.size := by omega
        have HVc := Lib.hid (fun h => vl_of (s := value) h)
        obtain ⟨c, hcx⟩ : ∃ c, value[0] = c := ⟨_, rfl⟩
        by_cases r1 : (c.toNat : Int) = 32
        · go_wp2
          go_ret
          exact ⟨rfl, HB2.out⟩
        by_cases r2 : (c.toNat : Int) = 9
        · go_wp2
          go_ret
          exact ⟨rfl, HB2.out⟩
        by_cases r3 : (c.toNat : Int) = 10
        · go_wp2
          go_ret
          exact ⟨rfl, HB2.out⟩
        have r4 : ((c.toNat : Int) == 32) = false := beq_eq_false_iff_ne.2 r1
        have r5 : ((c.toNat : Int) == 9) = false := beq_eq_false_iff_ne.2 r2
        have r6 : ((c.toNat : Int) == 10) = false := beq_eq_false_iff_ne.2 r3
        have HVl := Lib.hid (HVc.out (fun h => by
          rw [hcx]
          unfold bl
          rw [beq_eq_false_iff_ne.2 (show c ≠ 32 from fun e => r1 (by rw [e]; rfl)), beq_eq_false_iff_ne.2 (show c ≠ 9 from fun e => r2 (by rw [e]; rfl)), beq_eq_false_iff_ne.2 (show c ≠ 10 from fun e => r3 (by rw [e]; rfl))]; rfl))
        clear HVc
        have hop3 : (opB k).size ≤ 3 := opB_size k hk
        have HH := Lib.hid fun (w : World) => takes3 name value k hk HNm.out HVl.out hn5 hv5 w
        obtain ⟨O, hO⟩ : ∃ O, opB k = O := ⟨_, rfl⟩
        obtain ⟨K, hK⟩ : ∃ K, setB k = K := ⟨_, rfl⟩
        have HOC := Lib.hid fun w => op_cell w k hk
        have HSC := Lib.hid fun w => set_cell w k hk
        rw [hO] at HH HOC hop3
        rw [hK] at HH HSC
        clear hO hK
        go_upto_region 18 with fail
        obtain ⟨w3, hw3⟩ : ∃ w3, (w2.alloc (.cells #[.string ⟨#[61]⟩, .string ⟨#[58, 61]⟩, .string ⟨#[58, 58, 61]⟩, .string ⟨#[63, 61]⟩, .string ⟨#[43, 61]⟩, .string ⟨#[33, 61]⟩] 9)).alloc (.cells #[.int .i64 1, .int .i64 2, .int .i64 2, .int .i64 3, .int .i64 4, .int .i64 5] 3) = w3 := ⟨_, rfl⟩
        have hb3 : Below w2.heap.size w2 w3 := by rw [← hw3]; exact ((Below.refl _ w2).alloc (Nat.le_refl _) _).alloc (by simp) _
        have hsz3 : w3.heap.size = w2.heap.size + 2 := by rw [← hw3]; simp
        have kop : w3.cell? ⟨w2.heap.size, k, none⟩ = some (.string O) := by
          rw [← hw3, ((Below.refl (w2.heap.size + 1) _).alloc (by simp) _).cell (p := ⟨w2.heap.size, k, none⟩) (Nat.lt_succ_self _)]; exact HOC.out w2
        have kset : w3.cell? ⟨w2.heap.size + 1, k, none⟩ = some (.int .i64 K) := by
          have := HSC.out (w2.alloc (.cells #[.string ⟨#[61]⟩, .string ⟨#[58, 61]⟩, .string ⟨#[58, 58, 61]⟩, .string ⟨#[63, 61]⟩, .string ⟨#[43, 61]⟩, .string ⟨#[33, 61]⟩] 9))
          rw [hw3] at this
          simpa using this
        rw [hw3]
        have HK3 := Lib.hid kset
        have HB3 := Lib.hid (HB2.out.trans (hb3.mono (by omega)))
        clear hw3 hb3 kset HOC HSC c0 c1
        go_wp2_with fail
        refine (HH.out _).1.mono ?_
        rintro e w4 ⟨rfl, hb4⟩
        have hs34 : w3.heap.size ≤ w4.heap.size := hb4.size
        have HB4 := Lib.hid (HB3.out.trans (hb4.mono (by omega)))
        have k4 := hb4.cell (p := ⟨w2.heap.size, k, none⟩) (show w2.heap.size < _ by omega)
        rw [kop] at k4
        have k4s := hb4.cell (p := ⟨w2.heap.size + 1, k, none⟩) (show w2.heap.size + 1 < _ by omega)
        rw [HK3.out] at k4s
        have HK4 := Lib.hid (And.intro k4 k4s)
        clear hb4 k4 k4s kop HB3 HK3
        go_upto_region 19 with fail
        obtain ⟨w5, hw5⟩ : ∃ w5, w4.alloc (.cells #[.int .i64 1, .string name, .string value, .string ⟨#[]⟩, .string ⟨#[]⟩, .int .i64 K, .bool false, .bool false] 24) = w5 := ⟨_, rfl⟩
        rw [hw5]
        have hr5 : w5.heap[w4.heap.size]? = some (.cells #[.int .i64 1, .string name, .string value, .string ⟨#[]⟩, .string ⟨#[]⟩, .int .i64 K, .bool false, .bool false] 24 (0, 0)) := by rw [← hw5]; exact World.alloc_heap_new w4 _
        have hb5 : Below w4.heap.size w4 w5 := by rw [← hw5]; exact (Below.refl _ w4).alloc (Nat.le_refl _) _
        have hs45 : w4.heap.size < w5.heap.size := lt_of_block hr5
        have HB5 := Lib.hid (HB4.out.trans (hb5.mono (by omega)))
        have kop := hb5.cell (p := ⟨w2.heap.size, k, none⟩) (show w2.heap.size < _ by omega)
        rw [HK4.out.1] at kop
        have HK5 := Lib.hid ((hb5.cell (p := ⟨w2.heap.size + 1, k, none⟩) (show w2.heap.size + 1 < _ by omega)).trans HK4.out.2)
        have HR5 := Lib.hid hr5
        clear hw5 hr5 hb5 HB4 HK4
        go_wp2_with fail
        refine (HH.out _).2.1.mono ?_
        rintro e w6 ⟨rfl, hb6⟩
        have hs56 : w5.heap.size ≤ w6.heap.size := hb6.size
        have HB6 := Lib.hid (HB5.out.trans (hb6.mono (by omega)))
        have k4 := hb6.cell (p := ⟨w2.heap.size, k, none⟩) (show w2.heap.size < _ by omega)
        rw [kop] at k4
        have HK6 := Lib.hid (And.intro k4 ((hb6.cell (p := ⟨w2.heap.size + 1, k, none⟩) (show w2.heap.size + 1 < _ by omega)).trans HK5.out))
        have HR6 := Lib.hid ((hb6.block _ hs45).trans HR5.out)
        clear hb6 k4 kop HB5 HK5 HR5
        go_upto_region 20 with fail
        obtain ⟨w7, hw7⟩ : ∃ w7, w6.alloc (.cells #[.int .i64 1, .string name, .string value, .string ⟨#[]⟩, .string ⟨#[]⟩, .int .i64 K, .bool false, .bool false] 24) = w7 := ⟨_, rfl⟩
        rw [hw7]
        have hr7 : w7.heap[w6.heap.size]? = some (.cells #[.int .i64 1, .string name, .string value, .string ⟨#[]⟩, .string ⟨#[]⟩, .int .i64 K, .bool false, .bool false] 24 (0, 0)) := by rw [← hw7]; exact World.alloc_heap_new w6 _
        have hb7 : Below w6.heap.size w6 w7 := by rw [← hw7]; exact (Below.refl _ w6).alloc (Nat.le_refl _) _
        have hs67 : w6.heap.size < w7.heap.size := lt_of_block hr7
        have HB7 := Lib.hid (HB6.out.trans (hb7.mono (by omega)))
        have kop := hb7.cell (p := ⟨w2.heap.size, k, none⟩) (show w2.heap.size < _ by omega)
        rw [HK6.out.1] at kop
        have HK7 := Lib.hid ((hb7.cell (p := ⟨w2.heap.size + 1, k, none⟩) (show w2.heap.size + 1 < _ by omega)).trans HK6.out.2)
        have HR7 := Lib.hid (And.intro ((hb7.block _ (by omega)).trans HR6.out) hr7)
        clear hw7 hr7 hb7 HB6 HK6 HR6
        go_wp2_with fail
        refine (HH.out _).2.2.mono ?_
        rintro e w8 ⟨rfl, hb8⟩
        have hs78 : w7.heap.size ≤ w8.heap.size := hb8.size
        have HB8 := Lib.hid (HB7.out.trans (hb8.mono (by omega)))
        have HK8 := Lib.hid ((hb8.cell (p := ⟨w2.heap.size + 1, k, none⟩) (show w2.heap.size + 1 < _ by omega)).trans HK7.out)
        have HR8 := Lib.hid (And.intro ((hb8.block _ (by omega)).trans HR7.out.1) ((hb8.block _ (by omega)).trans HR7.out.2))
        clear hb8 kop HB7 HK7 HR7 HH
        go_upto_region 21 with fail
        obtain ⟨w9, hw9⟩ : ∃ w9, w8.alloc (.cells #[.int .i64 3, .string ⟨#[116, 32, 117, 32]⟩, .string value, .string name, .string ⟨#[]⟩, .int .i64 K, .bool false, .bool false] 24) = w9 := ⟨_, rfl⟩
        rw [hw9]
        have hr9 : w9.heap[w8.heap.size]? = some (.cells #[.int .i64 3, .string ⟨#[116, 32, 117, 32]⟩, .string value, .string name, .string ⟨#[]⟩, .int .i64 K, .bool false, .bool false] 24 (0, 0)) := by rw [← hw9]; exact World.alloc_heap_new w8 _
        have hb9 : Below w8.heap.size w8 w9 := by rw [← hw9]; exact (Below.refl _ w8).alloc (Nat.le_refl _) _
        have hs89 : w8.heap.size < w9.heap.size := lt_of_block hr9
        have HB9 := Lib.hid (HB8.out.trans (hb9.mono (by omega)))
        have kset := (hb9.cell (p := ⟨w2.heap.size + 1, k, none⟩) (show w2.heap.size + 1 < _ by omega)).trans HK8.out
        have HR9 := Lib.hid (And.intro ((hb9.block _ (by omega)).trans HR8.out.1) (And.intro ((hb9.block _ (by omega)).trans HR8.out.2) hr9))
        clear hw9 hr9 hb9 HB8 HK8 HR8
        go_upto_region 22 with fail
        obtain ⟨wa, hwa⟩ : ∃ wa, w9.alloc (.cells #[.int .i64 1, .string name, .string value, .string ⟨#[]⟩, .string ⟨#[]⟩, .int .i64 K, .bool false, .bool false] 24) = wa := ⟨_, rfl⟩
        rw [hwa]
        have hra : wa.heap[w9.heap.size]? = some (.cells #[.int .i64 1, .string name, .string value, .string ⟨#[]⟩, .string ⟨#[]⟩, .int .i64 K, .bool false, .bool false] 24 (0, 0)) := by rw [← hwa]; exact World.alloc_heap_new w9 _
        have hba : Below w9.heap.size w9 wa := by rw [← hwa]; exact (Below.refl _ w9).alloc (Nat.le_refl _) _
        have HBa := Lib.hid (HB9.out.trans (hba.mono (by omega)))
        have kset := (hba.cell (p := ⟨w2.heap.size + 1, k, none⟩) (show w2.heap.size + 1 < _ by omega)).trans kset
        have hr5 := (hba.block _ (by omega)).trans HR9.out.1
        have hr7 := (hba.block _ (by omega)).trans HR9.out.2.1
        have hr9 := (hba.block _ hs89).trans HR9.out.2.2
        obtain ⟨a0, _⟩ := rowc hr5 (j := 0) rfl
        obtain ⟨a1, _⟩ := rowc hr5 (j := 1) rfl
        obtain ⟨a2, _⟩ := rowc hr5 (j := 2) rfl
        obtain ⟨a3, _⟩ := rowc hr5 (j := 3) rfl
        obtain ⟨a4, _⟩ := rowc hr5 (j := 4) rfl
        obtain ⟨a5, _⟩ := rowc hr5 (j := 5) rfl
        obtain ⟨a6, _⟩ := rowc hr5 (j := 6) rfl
        obtain ⟨a7, _⟩ := rowc hr5 (j := 7) rfl
        obtain ⟨b0, _⟩ := rowc hr7 (j := 0) rfl
        obtain ⟨b1, _⟩ := rowc hr7 (j := 1) rfl
        obtain ⟨b2, _⟩ := rowc hr7 (j := 2) rfl
        obtain ⟨b3, _⟩ := rowc hr7 (j := 3) rfl
        obtain ⟨b4, _⟩ := rowc hr7 (j := 4) rfl
        obtain ⟨b5, _⟩ := rowc hr7 (j := 5) rfl
        obtain ⟨b6, _⟩ := rowc hr7 (j := 6) rfl
        obtain ⟨b7, _⟩ := rowc hr7 (j := 7) rfl
        obtain ⟨c0, _⟩ := rowc hr9 (j := 0) rfl
        obtain ⟨c1, _⟩ := rowc hr9 (j := 1) rfl
        obtain ⟨c2, _⟩ := rowc hr9 (j := 2) rfl
        obtain ⟨c3, _⟩ := rowc hr9 (j := 3) rfl
        obtain ⟨c4, _⟩ := rowc hr9 (j := 4) rfl
        obtain ⟨c5, _⟩ := rowc hr9 (j := 5) rfl
        obtain ⟨c6, _⟩ := rowc hr9 (j := 6) rfl
        obtain ⟨c7, _⟩ := rowc hr9 (j := 7) rfl
        obtain ⟨d0, _⟩ := rowc hra (j := 0) rfl
        obtain ⟨d1, _⟩ := rowc hra (j := 1) rfl
        obtain ⟨d2, _⟩ := rowc hra (j := 2) rfl
        obtain ⟨d3, _⟩ := rowc hra (j := 3) rfl
        obtain ⟨d4, _⟩ := rowc hra (j := 4) rfl
        obtain ⟨d5, _⟩ := rowc hra (j := 5) rfl
        obtain ⟨d6, _⟩ := rowc hra (j := 6) rfl
        obtain ⟨d7, _⟩ := rowc hra (j := 7) rfl
        clear hwa hra hba hr5 hr7 hr9 HR9 HB9
        go_wp2
        go_quiet (fail)
        go_wp2
        go_ret
        exact ⟨rfl, below_drewN HBa.out _⟩
      · have HVl := Lib.hid (vl_of (s := value) (fun h => absurd h g5))
        have g6 : ¬ (0 : Int) < value.size := by omega
        have hop3 : (opB k).size ≤ 3 := opB_size k hk
        have HH := Lib.hid fun (w : World) => takes3 name value k hk HNm.out HVl.out hn5 hv5 w
        obtain ⟨O, hO⟩ : ∃ O, opB k = O := ⟨_, rfl⟩
        obtain ⟨K, hK⟩ : ∃ K, setB k = K := ⟨_, rfl⟩
        have HOC := Lib.hid fun w => op_cell w k hk
        have HSC := Lib.hid fun w => set_cell w k hk
        rw [hO] at HH HOC hop3
        rw [hK] at HH HSC
        clear hO hK
        go_upto_region 18 with fail
        obtain ⟨w3, hw3⟩ : ∃ w3, (w2.alloc (.cells #[.string ⟨#[61]⟩, .string ⟨#[58, 61]⟩, .string ⟨#[58, 58, 61]⟩, .string ⟨#[63, 61]⟩, .string ⟨#[43, 61]⟩, .string ⟨#[33, 61]⟩] 9)).alloc (.cells #[.int .i64 1, .int .i64 2, .int .i64 2, .int .i64 3, .int .i64 4, .int .i64 5] 3) = w3 := ⟨_, rfl⟩
        have hb3 : Below w2.heap.size w2 w3 := by rw [← hw3]; exact ((Below.refl _ w2).alloc (Nat.le_refl _) _).alloc (by simp) _
        have hsz3 : w3.heap.size = w2.heap.size + 2 := by rw [← hw3]; simp
        have kop : w3.cell? ⟨w2.heap.size, k, none⟩ = some (.string O) := by
          rw [← hw3, ((Below.refl (w2.heap.size + 1) _).alloc (by simp) _).cell (p := ⟨w2.heap.size, k, none⟩) (Nat.lt_succ_self _)]; exact HOC.out w2
        have kset : w3.cell? ⟨w2.heap.size + 1, k, none⟩ = some (.int .i64 K) := by
          have := HSC.out (w2.alloc (.cells #[.string ⟨#[61]⟩, .string ⟨#[58, 61]⟩, .string ⟨#[58, 58, 61]⟩, .string ⟨#[63, 61]⟩, .string ⟨#[43, 61]⟩, .string ⟨#[33, 61]⟩] 9))
          rw [hw3] at this
          simpa using this
        rw [hw3]
        have HK3 := Lib.hid kset
        have HB3 := Lib.hid (HB2.out.trans (hb3.mono (by omega)))
        clear hw3 hb3 kset HOC HSC c0 c1
        go_wp2_with fail
        refine (HH.out _).1.mono ?_
        rintro e w4 ⟨rfl, hb4⟩
        have hs34 : w3.heap.size ≤ w4.heap.size := hb4.size
        have HB4 := Lib.hid (HB3.out.trans (hb4.mono (by omega)))
        have k4 := hb4.cell (p := ⟨w2.heap.size, k, none⟩) (show w2.heap.size < _ by omega)
        rw [kop] at k4
        have k4s := hb4.cell (p := ⟨w2.heap.size + 1, k, none⟩) (show w2.heap.size + 1 < _ by omega)
        rw [HK3.out] at k4s
        have HK4 := Lib.hid (And.intro k4 k4s)
        clear hb4 k4 k4s kop HB3 HK3
        go_upto_region 19 with fail
        obtain ⟨w5, hw5⟩ : ∃ w5, w4.alloc (.cells #[.int .i64 1, .string name, .string value, .string ⟨#[]⟩, .string ⟨#[]⟩, .int .i64 K, .bool false, .bool false] 24) = w5 := ⟨_, rfl⟩
        rw [hw5]
        have hr5 : w5.heap[w4.heap.size]? = some (.cells #[.int .i64 1, .string name, .string value, .string ⟨#[]⟩, .string ⟨#[]⟩, .int .i64 K, .bool false, .bool false] 24 (0, 0)) := by rw [← hw5]; exact World.alloc_heap_new w4 _
        have hb5 : Below w4.heap.size w4 w5 := by rw [← hw5]; exact (Below.refl _ w4).alloc (Nat.le_refl _) _
        have hs45 : w4.heap.size < w5.heap.size := lt_of_block hr5
        have HB5 := Lib.hid (HB4.out.trans (hb5.mono (by omega)))
        have kop := hb5.cell (p := ⟨w2.heap.size, k, none⟩) (show w2.heap.size < _ by omega)
        rw [HK4.out.1] at kop
        have HK5 := Lib.hid ((hb5.cell (p := ⟨w2.heap.size + 1, k, none⟩) (show w2.heap.size + 1 < _ by omega)).trans HK4.out.2)
        have HR5 := Lib.hid hr5
        clear hw5 hr5 hb5 HB4 HK4
        go_wp2_with fail
        refine (HH.out _).2.1.mono ?_
        rintro e w6 ⟨rfl, hb6⟩
        have hs56 : w5.heap.size ≤ w6.heap.size := hb6.size
        have HB6 := Lib.hid (HB5.out.trans (hb6.mono (by omega)))
        have k4 := hb6.cell (p := ⟨w2.heap.size, k, none⟩) (show w2.heap.size < _ by omega)
        rw [kop] at k4
        have HK6 := Lib.hid (And.intro k4 ((hb6.cell (p := ⟨w2.heap.size + 1, k, none⟩) (show w2.heap.size + 1 < _ by omega)).trans HK5.out))
        have HR6 := Lib.hid ((hb6.block _ hs45).trans HR5.out)
        clear hb6 k4 kop HB5 HK5 HR5
        go_upto_region 20 with fail
        obtain ⟨w7, hw7⟩ : ∃ w7, w6.alloc (.cells #[.int .i64 1, .string name, .string value, .string ⟨#[]⟩, .string ⟨#[]⟩, .int .i64 K, .bool false, .bool false] 24) = w7 := ⟨_, rfl⟩
        rw [hw7]
        have hr7 : w7.heap[w6.heap.size]? = some (.cells #[.int .i64 1, .string name, .string value, .string ⟨#[]⟩, .string ⟨#[]⟩, .int .i64 K, .bool false, .bool false] 24 (0, 0)) := by rw [← hw7]; exact World.alloc_heap_new w6 _
        have hb7 : Below w6.heap.size w6 w7 := by rw [← hw7]; exact (Below.refl _ w6).alloc (Nat.le_refl _) _
        have hs67 : w6.heap.size < w7.heap.size := lt_of_block hr7
        have HB7 := Lib.hid (HB6.out.trans (hb7.mono (by omega)))
        have kop := hb7.cell (p := ⟨w2.heap.size, k, none⟩) (show w2.heap.size < _ by omega)
        rw [HK6.out.1] at kop
        have HK7 := Lib.hid ((hb7.cell (p := ⟨w2.heap.size + 1, k, none⟩) (show w2.heap.size + 1 < _ by omega)).trans HK6.out.2)
        have HR7 := Lib.hid (And.intro ((hb7.block _ (by omega)).trans HR6.out) hr7)
        clear hw7 hr7 hb7 HB6 HK6 HR6
        go_wp2_with fail
        refine (HH.out _).2.2.mono ?_
        rintro e w8 ⟨rfl, hb8⟩
        have hs78 : w7.heap.size ≤ w8.heap.size := hb8.size
        have HB8 := Lib.hid (HB7.out.trans (hb8.mono (by omega)))
        have HK8 := Lib.hid ((hb8.cell (p := ⟨w2.heap.size + 1, k, none⟩) (show w2.heap.size + 1 < _ by omega)).trans HK7.out)
        have HR8 := Lib.hid (And.intro ((hb8.block _ (by omega)).trans HR7.out.1) ((hb8.block _ (by omega)).trans HR7.out.2))
        clear hb8 kop HB7 HK7 HR7 HH
        go_upto_region 21 with fail
        obtain ⟨w9, hw9⟩ : ∃ w9, w8.alloc (.cells #[.int .i64 3, .string ⟨#[116, 32, 117, 32]⟩, .string value, .string name, .string ⟨#[]⟩, .int .i64 K, .bool false, .bool false] 24) = w9 := ⟨_, rfl⟩
        rw [hw9]
        have hr9 : w9.heap[w8.heap.size]? = some (.cells #[.int .i64 3, .string ⟨#[116, 32, 117, 32]⟩, .string value, .string name, .string ⟨#[]⟩, .int .i64 K, .bool false, .bool false] 24 (0, 0)) := by rw [← hw9]; exact World.alloc_heap_new w8 _
        have hb9 : Below w8.heap.size w8 w9 := by rw [← hw9]; exact (Below.refl _ w8).alloc (Nat.le_refl _) _
        have hs89 : w8.heap.size < w9.heap.size := lt_of_block hr9
        have HB9 := Lib.hid (HB8.out.trans (hb9.mono (by omega)))
        have kset := (hb9.cell (p := ⟨w2.heap.size + 1, k, none⟩) (show w2.heap.size + 1 < _ by omega)).trans HK8.out
        have HR9 := Lib.hid (And.intro ((hb9.block _ (by omega)).trans HR8.out.1) (And.intro ((hb9.block _ (by omega)).trans HR8.out.2) hr9))
        clear hw9 hr9 hb9 HB8 HK8 HR8
        go_upto_region 22 with fail
        obtain ⟨wa, hwa⟩ : ∃ wa, w9.alloc (.cells #[.int .i64 1, .string name, .string value, .string ⟨#[]⟩, .string ⟨#[]⟩, .int .i64 K, .bool false, .bool false] 24) = wa := ⟨_, rfl⟩
        rw [hwa]
        have hra : wa.heap[w9.heap.size]? = some (.cells #[.int .i64 1, .string name, .string value, .string ⟨#[]⟩, .string ⟨#[]⟩, .int .i64 K, .bool false, .bool false] 24 (0, 0)) := by rw [← hwa]; exact World.alloc_heap_new w9 _
        have hba : Below w9.heap.size w9 wa := by rw [← hwa]; exact (Below.refl _ w9).alloc (Nat.le_refl _) _
        have HBa := Lib.hid (HB9.out.trans (hba.mono (by omega)))
        have kset := (hba.cell (p := ⟨w2.heap.size + 1, k, none⟩) (show w2.heap.size + 1 < _ by omega)).trans kset
        have hr5 := (hba.block _ (by omega)).trans HR9.out.1
        have hr7 := (hba.block _ (by omega)).trans HR9.out.2.1
        have hr9 := (hba.block _ hs89).trans HR9.out.2.2
        obtain ⟨a0, _⟩ := rowc hr5 (j := 0) rfl
        obtain ⟨a1, _⟩ := rowc hr5 (j := 1) rfl
        obtain ⟨a2, _⟩ := rowc hr5 (j := 2) rfl
        obtain ⟨a3, _⟩ := rowc hr5 (j := 3) rfl
        obtain ⟨a4, _⟩ := rowc hr5 (j := 4) rfl
        obtain ⟨a5, _⟩ := rowc hr5 (j := 5) rfl
        obtain ⟨a6, _⟩ := rowc hr5 (j := 6) rfl
        obtain ⟨a7, _⟩ := rowc hr5 (j := 7) rfl
        obtain ⟨b0, _⟩ := rowc hr7 (j := 0) rfl
        obtain ⟨b1, _⟩ := rowc hr7 (j := 1) rfl
        obtain ⟨b2, _⟩ := rowc hr7 (j := 2) rfl
        obtain ⟨b3, _⟩ := rowc hr7 (j := 3) rfl
        obtain ⟨b4, _⟩ := rowc hr7 (j := 4) rfl
        obtain ⟨b5, _⟩ := rowc hr7 (j := 5) rfl
        obtain ⟨b6, _⟩ := rowc hr7 (j := 6) rfl
        obtain ⟨b7, _⟩ := rowc hr7 (j := 7) rfl
        obtain ⟨c0, _⟩ := rowc hr9 (j := 0) rfl
        obtain ⟨c1, _⟩ := rowc hr9 (j := 1) rfl
        obtain ⟨c2, _⟩ := rowc hr9 (j := 2) rfl
        obtain ⟨c3, _⟩ := rowc hr9 (j := 3) rfl
        obtain ⟨c4, _⟩ := rowc hr9 (j := 4) rfl
        obtain ⟨c5, _⟩ := rowc hr9 (j := 5) rfl
        obtain ⟨c6, _⟩ := rowc hr9 (j := 6) rfl
        obtain ⟨c7, _⟩ := rowc hr9 (j := 7) rfl
        obtain ⟨d0, _⟩ := rowc hra (j := 0) rfl
        obtain ⟨d1, _⟩ := rowc hra (j := 1) rfl
        obtain ⟨d2, _⟩ := rowc hra (j := 2) rfl
        obtain ⟨d3, _⟩ := rowc hra (j := 3) rfl
        obtain ⟨d4, _⟩ := rowc hra (j := 4) rfl
        obtain ⟨d5, _⟩ := rowc hra (j := 5) rfl
        obtain ⟨d6, _⟩ := rowc hra (j := 6) rfl
        obtain ⟨d7, _⟩ := rowc hra (j := 7) rfl
        clear hwa hra hba hr5 hr7 hr9 HR9 HB9
        go_wp2
        go_quiet (fail)
        go_wp2
        go_ret
        exact ⟨rfl, below_drewN HBa.out _⟩
end Go.Proofs.YtmcemaphhlcjfaaDoor
