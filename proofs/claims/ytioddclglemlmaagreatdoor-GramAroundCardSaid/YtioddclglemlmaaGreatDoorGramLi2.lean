/- GramList; conditions: the library's one number and one type in their cells. -/
import Derived.Test.YtioddclglemlmaaGreatDoorGramLa
import Derived.Test.YtioddclglemlmaaGreatDoorGramLL
namespace Go.Proofs.YtioddclglemlmaaGreatDoor
open Go.RowKit

theorem CmdAt.head {W : World} {S : Nat → Prop} {kind k : Int} {no n : Bool} {v2 v3 v4 v5 v6 : Value} {az ws : List ByteArray} {rs : List (ByteArray × ByteArray)} {kids : List CmdT} {pats : List (List ByteArray)} {bodies : List CmdT} (h : CmdAt W S [.int .i64 kind, .bool no, v2, v3, v4, v5, v6] (.mk k n az ws rs kids pats bodies)) : kind = k ∧ no = n := by
  cases h; exact ⟨rfl, rfl⟩
theorem OneTexts.sizes {ts : List ByteArray} {ks : List CmdT} (h : OneTexts ts ks) : ∀ t ∈ ts, t.size ≤ 150 := by
  induction h with
  | nil => intro t ht; cases ht
  | cons h1 h2 ih =>
    intro t ht
    rcases List.mem_cons.1 ht with e | e
    · rw [e]; exact h1.2.2
    · exact ih t e
theorem bytQ_nob {lines : Bool} : ∀ {ts : List ByteArray} {ks : List CmdT}, OneTexts ts ks → ∀ c ∈ bytQ lines ts, c ≠ 92 ∧ c ≠ 35 := by
  intro ts ks h
  induction h with
  | nil => intro c hc; rw [bytQ_nil] at hc; cases hc
  | @cons t k ts ks h1 h2 ih =>
    intro c hc
    rw [bytQ_cons] at hc
    rcases List.mem_append.1 hc with hc | hc
    · rcases List.mem_append.1 hc with hc | hc
      · exact h1.2.1 c hc
      · unfold sepQ at hc
        cases lines with
        | true => rw [if_pos rfl] at hc; rw [List.mem_singleton.1 hc]; decide
        | false =>
          rw [if_neg (by decide)] at hc
          cases ts with
          | nil => cases hc
          | cons u r =>
            have h3 : ∀ c ∈ ([32, 59, 32] : List UInt8), c ≠ 92 ∧ c ≠ 35 := by decide
            exact h3 c hc
    · exact ih c hc
theorem sepQ_some {xs : List ByteArray} {k : Nat} (h : k < xs.length) : sepQ false (xs.drop k) = [32, 59, 32] := by
  rw [List.drop_eq_getElem_cons h]; rfl
theorem sepQ_none {xs : List ByteArray} {k : Nat} (h : xs.length ≤ k) : sepQ false (xs.drop k) = [] := by
  rw [List.drop_eq_nil_of_le h]; rfl
set_option maxRecDepth 100000 in
set_option maxHeartbeats 8000000 in
theorem GramList_law (A : Option Addr) (ca : Nat) (xs : List ByteArray) (lines : Bool) (w : World) (ha : StrsAt w A xs) (hl : xs.length ≤ 8796093022208) (_hz : ∀ x ∈ xs, x.size ≤ 140737488351232) (_ : xs.length ≤ ca) (hw : 1 < w.heap.size) (m : Int) (hm : w.cell? ⟨1, 0, none⟩ = some (.int .i64 m)) (hg : w.cell? ⟨0, 0, none⟩ = some ErrT) :
    Calls Tryz.prog 3 #[.slice A xs.length ca, .bool lines] w fun e w' => e = .returned (.bool true) ∧ Below w.heap.size w w' := by
  have HA := Lib.hid (gramAlive w hw m hm hg)
  have HP := Lib.hid fun wi (hb : Below w.heap.size w wi) (s : ByteArray) (hs : s.size ≤ 65536) nob => Parse_any s wi hs nob m ((hb.cell (p := ⟨1, 0, none⟩) hw).trans hm) ((hb.cell (p := ⟨0, 0, none⟩) (Nat.lt_of_succ_lt hw)).trans hg) (Nat.lt_of_lt_of_le hw hb.size)
  have HX := Lib.hid fun wi (hb : Below w.heap.size w wi) (k : Nat) (x : ByteArray) (hx : xs[k]? = some x) => (ha.below (Nat.le_refl _) hb) k x hx
  obtain ⟨i28, hi28, hz0, hz1, hz2⟩ := info_parts Tryz.info28
  obtain ⟨N, hN⟩ : ∃ N, xs.length = N := ⟨_, rfl⟩
  rw [hN] at hl ⊢
  have HN := Lib.hid hN
  clear ha hm hg hN _hz
  by_cases q15 : 15 < N
  · go_enter Tryz.func3, Tryz.ntmps3
    go_wp2_with fail
    refine HA.out.mono ?_
    rintro e w1 ⟨rfl, hb1⟩
    go_wp2
    go_ret
    exact ⟨rfl, hb1⟩
  go_enter Tryz.func3, Tryz.ntmps3
  go_wp2_with fail
  refine HA.out.mono ?_
  rintro e w1 ⟨rfl, hb1⟩
  have HB1 := Lib.hid hb1
  clear hb1 HA
  go_wp2
  go_loopw [6, 7, 8] (fun sv lv iv wi => ∃ (k : Nat) (S : ByteArray) (ks : List CmdT), iv = .int .i64 k ∧ sv = .string S ∧ k ≤ N ∧ Below w.heap.size w wi ∧ KidsR w.heap.size wi lv ks ∧ Hid (OneTexts (xs.take k) ks) ∧ Hid (S.data.toList ++ bytQ lines (xs.drop k) = bytQ lines xs) ∧ S.size ≤ 160 * k ∧ Hid (ks.length = k)) (fun _ _ iv _ => N - (intOf iv).toNat)
  case atStart =>
    exact ⟨0, ⟨#[]⟩, [], rfl, rfl, Nat.zero_le _, HB1.out, ⟨[], [], OwnG.nil _ _ _ _, rfl, KidsAt.nil⟩, OneTexts.nil, (by rw [List.drop_zero]; rfl : _ = _), Nat.zero_le _, (rfl : [].length = 0)⟩
  case round =>
    obtain ⟨k, S, ks, rfl, rfl, hk, hb, hkr, hot, hac, hsz, hkl⟩ := hrel
    have HB := Lib.hid hb
    have HKR := Lib.hid hkr
    obtain ⟨X5, kc5, ho5, hx5, hkk5⟩ := hkr
    obtain ⟨A5, n5, rfl, _, _⟩ := ho5.form
    clear X5 kc5 ho5 hx5 hkk5 HB1
    obtain ⟨nk, hnk⟩ : ∃ nk, ks.length = nk := ⟨_, rfl⟩
    rw [hnk] at HKR ⊢
    have hnk2 : nk ≤ 15 := by have := hkl.out; omega
    have HNK := Lib.hid hnk
    clear hnk
    obtain ⟨w2, hw2⟩ : ∃ w2, w2 = wr := ⟨_, rfl⟩
    subst hw2
    by_cases hlt : k < N
    · have hkx : k < xs.length := by rw [HN.out]; exact hlt
      obtain ⟨x, hx⟩ : ∃ x, xs[k]? = some x := ⟨_, List.getElem?_eq_getElem hkx⟩
      obtain ⟨bx, ox, rfl, kx⟩ := HX.out w2 hb k x hx
      have q1 : (k : Int) < N := by omega
      have HXk := Lib.hid hx
      clear hb hx hkx
      by_cases q150 : 150 < x.size
      · go_wp2
        go_ret
        exact ⟨rfl, HB.out⟩
      · go_wp2
        go_loopw [9] (fun kv wi => ∃ j : Nat, kv = .int .i64 j ∧ j ≤ x.size ∧ wi = w2 ∧ Hid (∀ i, i < j → x.get! i ≠ 92 ∧ x.get! i ≠ 35)) (fun kv _ => x.size - (intOf kv).toNat)
        case atStart => exact ⟨0, rfl, Nat.zero_le _, rfl, (fun i hi => absurd hi (Nat.not_lt_zero _) : ∀ i, i < 0 → _)⟩
        case round =>
          obtain ⟨j, rfl, hj, hwr, hnob⟩ := hrel
          obtain rfl : w2 = wr := hwr.symm
          by_cases hjl : j < x.size
          · have q2 : (j : Int) < x.size := by omega
            have hgj : x.get! j = x[j] := by rw [← get_list x j hjl]; rfl
            by_cases qb : x[j] = 35 ∨ x[j] = 92
            · generalize hc : x[j] = c at qb
              rcases qb with rfl | rfl
              · go_wp2
                go_ret
                exact ⟨rfl, HB.out⟩
              · go_wp2
                go_ret
                exact ⟨rfl, HB.out⟩
            · have HNO : Hid (∀ i, i < j + 1 → x.get! i ≠ 92 ∧ x.get! i ≠ 35) := fun i hi => by
                by_cases e : i = j
                · subst e; rw [hgj]; exact ⟨fun e => qb (.inr e), fun e => qb (.inl e)⟩
                · exact hnob.out i (by omega)
              generalize hc : x[j] = c at qb
              have b35 : ((c.toNat : Int) == 35) = false := by have := u8_beq c 35; rw [show ((c.toNat : Int) == 35) = (c == 35) from this]; exact beq_eq_false_iff_ne.2 fun e => qb (.inl e)
              have b92 : ((c.toNat : Int) == 92) = false := by have := u8_beq c 92; rw [show ((c.toNat : Int) == 92) = (c == 92) from this]; exact beq_eq_false_iff_ne.2 fun e => qb (.inr e)
              clear qb hgj
              go_wp2
              exact ⟨⟨j + 1, by go_num, by omega, trivial, HNO⟩, by simp [intOf]; omega⟩
          · have hnb : ∀ c ∈ x.data.toList, c ≠ 92 ∧ c ≠ 35 := fun c hc => by
              obtain ⟨i, hi, rfl⟩ := List.getElem_of_mem hc
              have hi' : i < x.size := by simpa using hi
              rw [get_list x i hi']
              exact hnob.out i (by omega)
            have HNB := Lib.hid hnb
            have HPX := Lib.hid (HP.out w2 HB.out x (by omega) hnb)
            clear hnb hnob
            go_wp2_with fail
            refine HPX.out.mono ?_
            rintro e w3 ⟨hb3, hpa⟩
            obtain ⟨kind, no, A2, l2, m2, A3, l3, m3, A4, l4, m4, B5, l5, m5, A6, l6, m6, n, rfl, hres⟩ := hpa.gen
            obtain ⟨w4, hw4⟩ : ∃ w4, w3.alloc (.cells #[.int .i64 kind, .bool no, .slice A2 l2 m2, .slice A3 l3 m3, .slice A4 l4 m4, .slice B5 l5 m5, .slice A6 l6 m6] 28) = w4 := ⟨_, rfl⟩
            have r4 : w4.heap[w3.heap.size]? = some (.cells #[.int .i64 kind, .bool no, .slice A2 l2 m2, .slice A3 l3 m3, .slice A4 l4 m4, .slice B5 l5 m5, .slice A6 l6 m6] 28 (0, 0)) := by rw [← hw4]; exact heap_alloc_last w3 _
            have hb34 : Below w3.heap.size w3 w4 := by rw [← hw4]; exact (Below.refl _ w3).alloc (Nat.le_refl _) _
            have hb24 : Below w2.heap.size w2 w4 := hb3.trans (hb34.mono hb3.size)
            have HB4 := Lib.hid (HB.out.trans (hb24.mono HB.out.size))
            obtain ⟨X7, kc7, ho7, hx7, hkk7⟩ := HKR.out
            rw [HNK.out] at ho7
            have hlt7 : ∀ k, (Value.slice A5 nk n5).ownBlock = some k → k < w2.heap.size := fun k e => (ho7.block_lt k e).2
            have HKP := Lib.hid (show OwnG w4 w.heap.size 28 7 (.slice A5 nk n5) nk X7 ∧ X7 = List.flatten kc7 ∧ KidsAt w4 (fun k => w.heap.size ≤ k ∧ k < w2.heap.size ∧ (Value.slice A5 nk n5).ownBlock ≠ some k) kc7 ks ∧ (∀ k, (Value.slice A5 nk n5).ownBlock = some k → k < w2.heap.size) from
              ⟨ho7.move fun k e => hb24.block k (hlt7 k e), hx7, hkk7.move (fun _ e => e) fun k e => hb24.block k e.2.1, hlt7⟩)
            have HRES := Lib.hid hres
            have HB34 := Lib.hid hb34
            have HSZ := Lib.hid hb3.size
            have HW4 := Lib.hid hw4
            have HR4 := Lib.hid r4
            clear hpa hw4 r4 hb34 hb24 hb3 hres kx HKR ho7 hx7 hkk7 hlt7
            go_wp2_with fail
            rw [HW4.out]
            refine (num_some n w4).mono ?_
            rintro e w5 ⟨rfl, hw5⟩
            obtain rfl := hw5.symm
            obtain ⟨x0, x1, x2, x3, x4, x5, x6⟩ := row7 HR4.out
            by_cases qr : n = 0
            · by_cases ql : l5 = 1
              · subst qr
                subst ql
                obtain ⟨t, hgx, hcm⟩ : ∃ t, gramP x = .ok (.mk 5 false [] [] [] [t] [] []) ∧ CmdAt w3 (fun k => w2.heap.size ≤ k ∧ k < w3.heap.size) [.int .i64 kind, .bool no, .slice A2 l2 m2, .slice A3 l3 m3, .slice A4 l4 m4, .slice B5 1 m5, .slice A6 l6 m6] (.mk 5 false [] [] [] [t] [] []) := by
                  rcases HRES.out with ⟨ks', e1, _, e3, _, e5⟩ | ⟨_, e2⟩ | ⟨t, e1, e2⟩
                  · match ks', e3, e1, e5 with
                    | [t], _, e1, e5 => exact ⟨t, e1, e5⟩
                  · omega
                  · obtain ⟨ks', e3⟩ := gram_list e1
                    exact absurd e3 (e2 ks')
                obtain ⟨rfl, rfl⟩ := hcm.head
                obtain ⟨_, _, _, ⟨kc', hkc1, hkc2⟩, _⟩ := (hcm.move (S' := fun k => w2.heap.size ≤ k ∧ k < w4.heap.size) (fun k e => ⟨e.1, Nat.lt_of_lt_of_le e.2 HB34.out.size⟩) fun k e => HB34.out.block k e.2).kids
                obtain ⟨c, rfl, hc⟩ := kc_one hkc2
                obtain ⟨gk, rfl, hgk⟩ := hkc1.addr (by simp)
                obtain ⟨kc0, nc0, C2, q2, p2, C3, q3, p3, C4, q4, p4, C5, q5, p5, C6, q6, p6, rfl⟩ := hc.lit
                have z0 := hkc1.1.cells 0 _ rfl
                have z1 := hkc1.1.cells 1 _ rfl
                have z2 := hkc1.1.cells 2 _ rfl
                have z3 := hkc1.1.cells 3 _ rfl
                have z4 := hkc1.1.cells 4 _ rfl
                have z5 := hkc1.1.cells 5 _ rfl
                have z6 := hkc1.1.cells 6 _ rfl
                have HONE := Lib.hid (show OneText x t from ⟨hgx, HNB.out, by omega⟩)
                obtain ⟨ho4, hx7, hkk4, hA⟩ := HKP.out
                have hsz4 : w2.heap.size ≤ w4.heap.size := Nat.le_trans HSZ.out HB34.out.size
                have hbw2 : w.heap.size ≤ w2.heap.size := HB.out.size
                have HO := Lib.hid fun o => (ho4.move (w' := w4.alloc o) fun k e => Below.heap_alloc w4 o k (ho4.block_lt k e).2)
                have HXX := Lib.hid fun (o : Obj) (w6 : World) (v' : Value) (hg : (w4.alloc o).grownBy w6 (Value.slice A5 nk n5).ownBlock) ho hn => (⟨KidsR.push (v' := v') hx7 hkk4 HNK.out.symm hc hA hsz4 hbw2 hg ho hn, (Kept.refl (fun k => (Value.slice A5 nk n5).ownBlock = some k) w4).alloc o |>.grown hg (fun k e => .inl e)⟩ : KidsR w.heap.size w6 v' (ks ++ [t]) ∧ Kept (fun k => (Value.slice A5 nk n5).ownBlock = some k) w4 w6)
                have HTC := Lib.hid fun k e => (ho4.block_lt k e).1
                have hb4 : w.heap.size ≤ w4.heap.size := by omega
                have HX4 := Lib.hid fun (w6 : World) (h6 : Below w.heap.size w w6) => HX.out w6 h6 k x HXk.out
                have hS : S.size ≤ 2400 := by omega
                have HOT : Hid (OneTexts (xs.take (k + 1)) (ks ++ [t])) := by
                  show OneTexts (xs.take (k + 1)) (ks ++ [t])
                  rw [List.take_add_one, HXk.out]; exact hot.out.snoc HONE.out
                clear ho4 hx7 hkk4 hA hc hcm hkc1 hkc2 HKP hgx
                cases lines with
                | true =>
                  go_wp2_with (at_builtin; refine wpList_append_G _ rfl _ _ 24 rfl w.heap.size 28 i28 (.agg #[.int .i64 0, .bool false, .slice none 0 0, .slice none 0 0, .slice none 0 0, .slice none 0 0, .slice none 0 0]) 7 136 Tryz.underlying24 hi28 hz0 hz1 hz2 rfl (.slice A5 nk n5) nk X7 rfl (HO.out _) ⟨w4.heap.size, 0, none⟩ 1 1 [.int .i64 kc0, .bool nc0, .slice C2 q2 p2, .slice C3 q3 p3, .slice C4 q4 p4, .slice C5 q5 p5, .slice C6 q6 p6] rfl rfl (World.news_of_block (heap_alloc_last w4 _)) (by simp [Value.oneCell']) (by decide) (by unfold maxLen; omega) (by omega) (by simp; omega) ?_; intro g6 cap6 w8 hown6 hgrow6 hnew6 _; have HY := Lib.hid (HXX.out _ _ _ hgrow6 hown6 (fun k hk => by have e6 : g6 = k := (by simpa [Value.ownBlock] using hk); rw [← e6]; exact hnew6)); clear hown6 hgrow6 hnew6; have HB8 := Lib.hid (HB4.out.trans (HY.out.2.to_below hb4 HTC.out)); obtain ⟨bx, ox, he, kx⟩ := HX4.out w8 HB8.out; cases he)
                  have hsz2 : (S ++ x ++ ⟨#[10]⟩).size ≤ 160 * (k + 1) := by
                    rw [ByteArray.size_append, ByteArray.size_append]
                    have h1 : (⟨#[10]⟩ : ByteArray).size = 1 := rfl
                    omega
                  exact ⟨⟨k + 1, S ++ x ++ ⟨#[10]⟩, ks ++ [t], by go_num, rfl, by omega, HB8.out, HY.out.1, HOT.out, bytQ_step hac.out HXk.out _ (by simp [sepQ]), hsz2, by rw [List.length_append, hkl.out]; rfl⟩, by simp [intOf]; omega⟩
                | false =>
                  by_cases qla : k + 1 < N
                  · have qlb : (k : Int) + 1 < N := by omega
                    have hsq := sepQ_some (xs := xs) (k := k + 1) (by rw [HN.out]; exact qla)
                    have HSQ := Lib.hid hsq
                    clear hsq
                    go_wp2_with (at_builtin; refine wpList_append_G _ rfl _ _ 24 rfl w.heap.size 28 i28 (.agg #[.int .i64 0, .bool false, .slice none 0 0, .slice none 0 0, .slice none 0 0, .slice none 0 0, .slice none 0 0]) 7 136 Tryz.underlying24 hi28 hz0 hz1 hz2 rfl (.slice A5 nk n5) nk X7 rfl (HO.out _) ⟨w4.heap.size, 0, none⟩ 1 1 [.int .i64 kc0, .bool nc0, .slice C2 q2 p2, .slice C3 q3 p3, .slice C4 q4 p4, .slice C5 q5 p5, .slice C6 q6 p6] rfl rfl (World.news_of_block (heap_alloc_last w4 _)) (by simp [Value.oneCell']) (by decide) (by unfold maxLen; omega) (by omega) (by simp; omega) ?_; intro g6 cap6 w8 hown6 hgrow6 hnew6 _; have HY := Lib.hid (HXX.out _ _ _ hgrow6 hown6 (fun k hk => by have e6 : g6 = k := (by simpa [Value.ownBlock] using hk); rw [← e6]; exact hnew6)); clear hown6 hgrow6 hnew6; have HB8 := Lib.hid (HB4.out.trans (HY.out.2.to_below hb4 HTC.out)); obtain ⟨bx, ox, he, kx⟩ := HX4.out w8 HB8.out; cases he)
                    have hsz2 : (S ++ x ++ ⟨#[32, 59, 32]⟩).size ≤ 160 * (k + 1) := by
                      rw [ByteArray.size_append, ByteArray.size_append]
                      have h1 : (⟨#[32, 59, 32]⟩ : ByteArray).size = 3 := rfl
                      omega
                    exact ⟨⟨k + 1, S ++ x ++ ⟨#[32, 59, 32]⟩, ks ++ [t], by go_num, rfl, by omega, HB8.out, HY.out.1, HOT.out, bytQ_step hac.out HXk.out _ (by rw [HSQ.out]; simp), hsz2, by rw [List.length_append, hkl.out]; rfl⟩, by simp [intOf]; omega⟩
                  · have qlb : ¬ (k : Int) + 1 < N := by omega
                    have hsq := sepQ_none (xs := xs) (k := k + 1) (by rw [HN.out]; omega)
                    have HSQ := Lib.hid hsq
                    clear hsq
                    go_wp2_with (at_builtin; refine wpList_append_G _ rfl _ _ 24 rfl w.heap.size 28 i28 (.agg #[.int .i64 0, .bool false, .slice none 0 0, .slice none 0 0, .slice none 0 0, .slice none 0 0, .slice none 0 0]) 7 136 Tryz.underlying24 hi28 hz0 hz1 hz2 rfl (.slice A5 nk n5) nk X7 rfl (HO.out _) ⟨w4.heap.size, 0, none⟩ 1 1 [.int .i64 kc0, .bool nc0, .slice C2 q2 p2, .slice C3 q3 p3, .slice C4 q4 p4, .slice C5 q5 p5, .slice C6 q6 p6] rfl rfl (World.news_of_block (heap_alloc_last w4 _)) (by simp [Value.oneCell']) (by decide) (by unfold maxLen; omega) (by omega) (by simp; omega) ?_; intro g6 cap6 w8 hown6 hgrow6 hnew6 _; have HY := Lib.hid (HXX.out _ _ _ hgrow6 hown6 (fun k hk => by have e6 : g6 = k := (by simpa [Value.ownBlock] using hk); rw [← e6]; exact hnew6)); clear hown6 hgrow6 hnew6; have HB8 := Lib.hid (HB4.out.trans (HY.out.2.to_below hb4 HTC.out)); obtain ⟨bx, ox, he, kx⟩ := HX4.out w8 HB8.out; cases he)
                    have hsz2 : (S ++ x).size ≤ 160 * (k + 1) := by
                      rw [ByteArray.size_append]
                      omega
                    exact ⟨⟨k + 1, S ++ x, ks ++ [t], by go_num, rfl, by omega, HB8.out, HY.out.1, HOT.out, bytQ_step hac.out HXk.out _ (by rw [HSQ.out]; simp), hsz2, by rw [List.length_append, hkl.out]; rfl⟩, by simp [intOf]; omega⟩
              · have hl1 : ((l5 : Int) != 1) = true := by
                  unfold bne; rw [beq_eq_false_iff_ne.2 (by omega)]; rfl
                subst qr
                go_wp2
                go_ret
                exact ⟨rfl, HB4.out⟩
            · have hr1 : (n != 0) = true := by unfold bne; rw [beq_eq_false_iff_ne.2 qr]; rfl
              go_wp2
              go_ret
              exact ⟨rfl, HB4.out⟩
    · obtain rfl : k = N := by omega
      have hot' := hot.out
      have hac' := hac.out
      rw [List.take_of_length_le (Nat.le_of_eq HN.out)] at hot'
      rw [List.drop_eq_nil_of_le (Nat.le_of_eq HN.out), bytQ_nil, List.append_nil] at hac'
      have HPS := Lib.hid (HP.out w2 hb S (by omega) (by rw [hac']; exact bytQ_nob hot'))
      have HXS := Lib.hid hot'.sizes
      have HGL := Lib.hid fun he => gram_listQ (lines := lines) hot' (by rw [HN.out]; omega) he S hac'
      clear hot' hac' hot hac
      go_wp2_with fail
      refine HPS.out.mono ?_
      rintro e w3 ⟨hb3, hpa⟩
      obtain ⟨kind, no, A2, l2, m2, A3, l3, m3, A4, l4, m4, B5, l5, m5, A6, l6, m6, n, rfl, hres⟩ := hpa.gen
      obtain ⟨w4, hw4⟩ : ∃ w4, w3.alloc (.cells #[.int .i64 kind, .bool no, .slice A2 l2 m2, .slice A3 l3 m3, .slice A4 l4 m4, .slice B5 l5 m5, .slice A6 l6 m6] 28) = w4 := ⟨_, rfl⟩
      have r4 : w4.heap[w3.heap.size]? = some (.cells #[.int .i64 kind, .bool no, .slice A2 l2 m2, .slice A3 l3 m3, .slice A4 l4 m4, .slice B5 l5 m5, .slice A6 l6 m6] 28 (0, 0)) := by rw [← hw4]; exact heap_alloc_last w3 _
      have hb34 : Below w3.heap.size w3 w4 := by rw [← hw4]; exact (Below.refl _ w3).alloc (Nat.le_refl _) _
      have hb24 : Below w2.heap.size w2 w4 := hb3.trans (hb34.mono hb3.size)
      have HB4 := Lib.hid (HB.out.trans (hb24.mono HB.out.size))
      have HK4 := Lib.hid (HKR.out.keep (T := fun _ => False) (Kept.of_below hb24) (fun _ e => e.elim))
      have HRES := Lib.hid hres
      have HB34 := Lib.hid hb34
      have HW4 := Lib.hid hw4
      have HR4 := Lib.hid r4
      clear hpa hw4 r4 hb34 hb24 hb3 hres HKR hb
      go_wp2
      rw [HW4.out]
      go_loopw [14, 15] (fun iv _ wi => ∃ (j mm : Nat), iv = .int .i64 j ∧ j ≤ k ∧ wi = w4.drewN mm ∧ Hid (lines = true ∨ ∀ t ∈ xs.take j, ¬ EndB t.data.toList)) (fun iv _ _ => k - (intOf iv).toNat)
      case atStart => exact ⟨0, 0, rfl, Nat.zero_le _, rfl, (.inr fun t ht => by simp at ht : lines = true ∨ ∀ t ∈ xs.take 0, ¬ EndB t.data.toList)⟩
      case round =>
        obtain ⟨j, mm, rfl, hj, hwr, hnd⟩ := hrel
        have HWR := Lib.hid hwr
        have hbr : Below w.heap.size w wr := by rw [hwr]; exact below_drewN HB4.out mm
        have HBR := Lib.hid hbr
        by_cases hlt2 : j < k
        · have hkx : j < xs.length := by rw [HN.out]; exact hlt2
          obtain ⟨x, hx⟩ : ∃ x, xs[j]? = some x := ⟨_, List.getElem?_eq_getElem hkx⟩
          obtain ⟨bx, ox, rfl, kx⟩ := HX.out wr hbr j x hx
          have HSN : Hid (¬ EndB x.data.toList → lines = true ∨ ∀ t ∈ xs.take (j + 1), ¬ EndB t.data.toList) := fun hn => by
            rcases hnd.out with h | h
            · exact .inl h
            · refine .inr fun t ht => ?_
              rw [List.take_add_one, hx] at ht
              rcases List.mem_append.1 ht with ht | ht
              · exact h t ht
              · rw [List.mem_singleton.1 ht]; exact hn
          have q1 : (j : Int) < k := by omega
          have hxs : x.size ≤ 150 := HXS.out x (List.mem_of_getElem? hx)
          clear hwr hbr hx hkx
          cases lines with
          | true =>
            go_wp2
            exact ⟨⟨j + 1, mm, by go_num, by omega, HWR.out, .inl trivial⟩, by simp [intOf]; omega⟩
          | false =>
            by_cases hx0 : x.size = 0
            · have hne : Hid (¬ EndB x.data.toList) := by
                have : x.data.toList = [] := List.eq_nil_of_length_eq_zero (by rw [Array.length_toList]; exact hx0)
                show ¬ EndB x.data.toList
                rw [this]; exact EndB_nil
              have hx1 : ¬ (0 : Int) < x.size := by omega
              go_wp2
              exact ⟨⟨j + 1, mm, by go_num, by omega, HWR.out, HSN.out hne.out⟩, by simp [intOf]; omega⟩
            · have hx1 : (0 : Int) < x.size := by omega
              have HEN := Lib.hid (lends_any x (by omega) wr)
              go_wp2_with fail
              refine HEN.out.mono ?_
              rintro e w5 ⟨⟨b, rfl, hbE⟩, m5', hw5⟩
              have HW5 : Hid (w5 = w4.drewN (mm + m5')) := by
                show w5 = w4.drewN (mm + m5')
                rw [hw5, HWR.out, World.drewN_drewN]
              have HB5 : Hid (Below w.heap.size w w5) := by rw [HW5.out]; exact below_drewN HB4.out _
              have HBE := Lib.hid hbE
              clear hw5 hbE
              cases b with
              | true =>
                go_wp2
                go_ret
                exact ⟨rfl, HB5.out⟩
              | false =>
                go_wp2
                exact ⟨⟨j + 1, _, by go_num, by omega, HW5.out, HSN.out (fun h => absurd (HBE.out h) (by decide))⟩, by simp [intOf]; omega⟩
        · obtain rfl : j = k := by omega
          have hnd' := hnd.out
          rw [List.take_of_length_le (Nat.le_of_eq HN.out)] at hnd'
          have hgs := HGL.out hnd'
          obtain ⟨rfl, rfl, rfl, hcm⟩ : n = 0 ∧ l5 = ks.length ∧ kind = 5 ∧ CmdAt w3 (fun k => w2.heap.size ≤ k ∧ k < w3.heap.size) [.int .i64 kind, .bool no, .slice A2 l2 m2, .slice A3 l3 m3, .slice A4 l4 m4, .slice B5 l5 m5, .slice A6 l6 m6] (.mk 5 false [] [] [] ks [] []) := by
            rcases HRES.out with ⟨ks', e1, e2, e3, e4, e5⟩ | ⟨e1, _⟩ | ⟨t, e1, e2⟩
            · rw [hgs] at e1
              cases e1
              exact ⟨e2, e3, e4, e5⟩
            · rw [hgs] at e1; cases e1
            · rw [hgs] at e1; cases e1; exact absurd rfl (e2 ks)
          obtain ⟨_, rfl⟩ := hcm.head
          have hb4r : Below w4.heap.size w4 wr := by rw [hwr]; exact below_drewN (Below.refl _ _) mm
          have hb3r : Below w3.heap.size w3 wr := HB34.out.trans (hb4r.mono HB34.out.size)
          obtain ⟨_, _, _, ⟨kc', hkc1, hkc2⟩, _⟩ := (hcm.move (S' := fun k => k < wr.heap.size) (fun k e => Nat.lt_of_lt_of_le e.2 hb3r.size) fun k e => hb3r.block k e.2).kids
          obtain ⟨X8, kc8, ho8, hx8, hkk8⟩ := HK4.out.keep (T := fun _ => False) (Kept.of_below hb4r) (fun _ e => e.elim)
          rw [hx8, HNK.out] at ho8
          have ho9 : RdG wr (fun k => k < wr.heap.size) 28 7 (.slice A5 nk n5) ks.length kc8.flatten := by rw [HNK.out]; exact ⟨ho8.lower (Nat.zero_le _), fun k e => (ho8.block_lt k e).2⟩
          have HSAME := Lib.hid (same_any wr hkc1 ho9 hkc2 (hkk8.move (S' := fun k => k < wr.heap.size) (fun k e => e.2.1) fun _ _ => rfl) (fun _ e => e) (fun _ e => e))
          obtain ⟨x0, x1, x2, x3, x4, x5, x6⟩ := row7 ((hb4r.block _ (lt_of_block HR4.out)).trans HR4.out)
          rw [HNK.out] at x5 HSAME
          clear hwr hbr hb4r hb3r hkc1 hkc2 ho8 hx8 hkk8 ho9 hcm hgs hnd'
          go_wp2_with fail
          refine (num_some 0 wr).mono ?_
          rintro e w5 ⟨rfl, hw5⟩
          obtain rfl := hw5.symm
          go_wp2_with fail
          refine HSAME.out.mono ?_
          rintro e w6 ⟨rfl, hb6⟩
          have HB6 := Lib.hid (HBR.out.trans (hb6.mono HBR.out.size))
          clear hb6
          go_wp2
          go_ret
          exact ⟨rfl, HB6.out⟩
end Go.Proofs.YtioddclglemlmaaGreatDoor
