/- The options by their long names, as package opts lays them; no condition. -/
import Derived.Test.YtmcemaphhlcjfaaDoorOptL
import Derived.Test.YtmcemaphhlcjfaaDoorTake2
import Derived.Maps.OwnSet
import Derived.StringKeys
namespace Go.Proofs.YtmcemaphhlcjfaaDoor
open Go.RowKit Go.Maps

def RV (v : Value) : Option (DataW Value × List MemPlace) := some (.held v, [])
theorem sk9 : Keyed Tryd.prog 9 := string_keyed Tryd.underlying9
def optZ : Value := .agg #[.int .u8 0, .bool false, .nilFunc]
theorem zero119 (w : World) : (zeroValue 119).run Tryd.prog w = .ok optZ w := by kernel_rfl
def flagV (c : UInt8) (b : Nat) : Value := .agg #[.int .u8 c.toNat, .bool false, .func (.func 105) #[] #[.pointer (some ⟨b, 0, none⟩)]]
def valV (c : UInt8) (f : Nat) : Value := .agg #[.int .u8 c.toNat, .bool true, .func (.func f) #[] #[]]
/-- from w to w' nothing but the map's block was written -/
structure Gm (mb : Nat) (w w' : World) : Prop where
  os : w'.os = w.os
  tape : w'.tape = w.tape
  output : w'.output = w.output
  size : w.heap.size ≤ w'.heap.size
  block : ∀ k, k < w.heap.size → k ≠ mb → w'.heap[k]? = w.heap[k]?
theorem Gm.trans {mb : Nat} {a b c : World} (h : Gm mb a b) (k : Gm mb b c) : Gm mb a c :=
  ⟨k.os.trans h.os, k.tape.trans h.tape, k.output.trans h.output, Nat.le_trans h.size k.size, fun i hi hn => (k.block i (Nat.lt_of_lt_of_le hi h.size) hn).trans (h.block i hi hn)⟩
theorem Gm.refl (mb : Nat) (w : World) : Gm mb w w := ⟨rfl, rfl, rfl, Nat.le_refl _, fun _ _ _ => rfl⟩
theorem Gm.of_below (mb : Nat) {w w' : World} (h : Below w.heap.size w w') : Gm mb w w' := ⟨h.os, h.tape, h.output, h.size, fun k hk _ => h.block k hk⟩
theorem Gm.of_grown {mb : Nat} {w w' : World} (h : w.grownBy w' (some mb)) : Gm mb w w' := ⟨h.os, h.tape, h.output, h.size, fun k hk hn => h.block k hk (fun e => hn (Option.some.inj e))⟩
theorem map_below {mb n : Nat} {D : DataW Value} {w w' : World} (h : w.ownsMap Tryd.prog 9 RV mb n D) (hb : Below w.heap.size w w') : w'.ownsMap Tryd.prog 9 RV mb n D :=
  h.kept (row := none) ⟨hb.os, hb.tape, hb.output, hb.size, fun k hk _ => hb.block k hk⟩ (by simp)

theorem load3 {W : World} {b : Nat} {a0 a1 a2 : Value} (h : W.heap[b]? = some (.cells #[a0, a1, a2] 119 (0, 0))) : (loadVar 119 ⟨b, 0, none⟩).run Tryd.prog W = .ok (.agg #[a0, a1, a2]) W := by
  refine run_loadVar_mid W b 0 119 [a0, a1, a2] _ (fun j v hv => ?_) Tryd.underlying119 rfl (by kernel_rfl)
  rw [Nat.zero_add, cell_of_row W b j _ 119 (0, 0) h]
  simpa using hv
theorem store_fn (W : World) (a : Addr) (old : Value) (fn : Fn) (first cap : Array Value) (hc : W.cell? a = some old) (hf : W.frozen? a = false) : (store a (.func fn first cap)).run Tryd.prog W = .ok () (W.setCell a (.func fn first cap)) := by
  rw [run_store Tryd.prog W a _ _ (by rfl)]
  simp [hc, hf]

set_option maxRecDepth 100000 in
set_option maxHeartbeats 1000000 in
theorem flag_any (c : UInt8) (w : World) : Calls Tryd.prog 104 #[.int .u8 c.toNat] w fun e w' => e = .returned (flagV c w.heap.size) ∧ w'.heap[w.heap.size]? = some (.cells #[.int .u8 c.toNat] 5 (0, 0)) ∧ Below w.heap.size w w' := by
  have hmf : ∀ (fn : Fn) (first cap : Array Value) (w : World), (Instr.makeFunc fn first cap).run Tryd.prog w = .ok (.func fn first cap) w := fun _ _ _ _ => rfl
  have hst := store_fn ((w.alloc (.cells #[.int .u8 c.toNat] 5)).alloc (.cells #[.int .u8 c.toNat, .bool false, .nilFunc] 119)) ⟨w.heap.size + 1, 2, none⟩ .nilFunc (.func 105) #[] #[.pointer (some ⟨w.heap.size, 0, none⟩)]
    (by have := heap_alloc_last (w.alloc (.cells #[.int .u8 c.toNat] 5)) (.cells #[.int .u8 c.toNat, .bool false, .nilFunc] 119); rw [World.size_alloc] at this; exact (rowo this (j := 2) rfl).1)
    (by have := heap_alloc_last (w.alloc (.cells #[.int .u8 c.toNat] 5)) (.cells #[.int .u8 c.toNat, .bool false, .nilFunc] 119); rw [World.size_alloc] at this; exact (rowo this (j := 2) (v := .nilFunc) rfl).2)
  have hz := heap_alloc_last (w.alloc (.cells #[.int .u8 c.toNat] 5)) (.cells #[.int .u8 c.toNat, .bool false, .func (.func 105) #[] #[.pointer (some ⟨w.heap.size, 0, none⟩)]] 119)
  rw [World.size_alloc] at hz
  have hbx := (Below.heap_alloc (w.alloc (.cells #[.int .u8 c.toNat] 5)) (.cells #[.int .u8 c.toNat, .bool false, .func (.func 105) #[] #[.pointer (some ⟨w.heap.size, 0, none⟩)]] 119) w.heap.size (by simp)).trans (heap_alloc_last w (.cells #[.int .u8 c.toNat] 5))
  have HZ := Lib.hid (And.intro hz hbx)
  clear hz hbx
  go_enter Tryd.func104, Tryd.ntmps104
  go_wp2
  exact bodyPost_ret (results_cell (t := 2) (by kernel_rfl) rfl (load3 HZ.out.1)) rfl ⟨rfl, HZ.out.2, ((Below.refl _ w).alloc (Nat.le_refl _) _).alloc (by simp) _⟩

set_option maxRecDepth 100000 in
theorem flag_do (ob bx : Nat) (S : Nat → Prop) (x : Opx) (c : UInt8) (v : ByteArray) (w : World) (h : OpAt w ob S x) (hb : w.heap[bx]? = some (.cells #[.int .u8 c.toNat] 5 (0, 0))) :
    Calls Tryd.prog 105 #[.pointer (some ⟨ob, 0, none⟩), .string v, .pointer (some ⟨bx, 0, none⟩)] w fun e w' => e = .returned (.bool (decide (plN c ≠ 0))) ∧ OpAt w' ob S (if plN c ≠ 0 then { x with bs := upd x.bs (plN c) } else x) ∧ Nx w S w' S := by
  have HS := Lib.hid (set_any ob S x c w h)
  obtain ⟨c0, _⟩ := rowo hb (j := 0) rfl
  clear h hb
  obtain ⟨y, hy⟩ : ∃ y, (if plN c ≠ 0 then { x with bs := upd x.bs (plN c) } else x) = y := ⟨_, rfl⟩
  obtain ⟨bb, hbb⟩ : ∃ bb, decide (plN c ≠ 0) = bb := ⟨_, rfl⟩
  rw [hy, hbb] at HS ⊢
  clear hy hbb
  go_enter Tryd.func105, Tryd.ntmps105
  go_wp2_with fail
  refine HS.out.mono ?_
  rintro e w1 ⟨rfl, hy1, hn1⟩
  have HF := Lib.hid (And.intro hy1 hn1)
  clear hy1 hn1
  go_wp2
  go_ret
  exact ⟨rfl, HF.out.1, HF.out.2⟩

theorem wpList_ins (w : World) {ops : Array Oper} {rest : List Oper} {o : Oper} {a : Act} {Q : Exit → Act → World → Prop}
    (hg : o.guard = none) (mm kx vx : Operand) (hop : o.op = Op.insert 112 mm kx vx) (m n : Nat) (hn : n < 1000) (D : DataW Value) (hown : w.ownsMap Tryd.prog 9 RV m n D) (k : ByteArray) (v : Value)
    (hm : a.eval mm = .map (some m)) (hx : a.eval kx = .string k) (hv : a.eval vx = v) (hk : k.size ≤ maxLen)
    (hK : ∀ w', w'.ownsMap Tryd.prog 9 RV m (n + 1) (D.put (.string k.data.toList) (.held v)) → Gm m w w' → wpList Tryd.prog ops Q rest (a.put o.dst undef) w') :
    wpList Tryd.prog ops Q (o :: rest) a w := by
  refine wpList_plain hg fun K' hK' => ?_
  obtain ⟨w', hrun, ho, hgr⟩ := hown.update sk9 Tryd.underlying112 (by unfold maxLen; omega) (val := v) (d := .held v) (ps := []) (Go.WideMaps.keyOf_string_mk Tryd.underlying9 hk) rfl
  have h1 := hK w' ho (Gm.of_grown hgr)
  unfold Oper.wp
  simp [execOp, hop, hm, hx, hv, hrun, Result.andThen]
  exact hK' _ _ h1
/-- the table of the long names, the flags' boxes at B 2 .. B 12 -/
def tabL (B : Nat → Nat) : List (ByteArray × Value) := [(⟨#[106, 111, 98, 115]⟩, valV 106 107), (⟨#[102, 105, 108, 101]⟩, valV 102 108), (⟨#[107, 101, 101, 112, 45, 103, 111, 105, 110, 103]⟩, flagV 107 (B 2)), (⟨#[100, 114, 121, 45, 114, 117, 110]⟩, flagV 110 (B 3)), (⟨#[106, 117, 115, 116, 45, 112, 114, 105, 110, 116]⟩, flagV 110 (B 4)), (⟨#[116, 111, 117, 99, 104]⟩, flagV 116 (B 5)), (⟨#[113, 117, 101, 115, 116, 105, 111, 110]⟩, flagV 113 (B 6)), (⟨#[115, 105, 108, 101, 110, 116]⟩, flagV 115 (B 7)), (⟨#[113, 117, 105, 101, 116]⟩, flagV 115 (B 8)), (⟨#[105, 103, 110, 111, 114, 101, 45, 101, 114, 114, 111, 114, 115]⟩, flagV 105 (B 9)), (⟨#[101, 110, 118, 105, 114, 111, 110, 109, 101, 110, 116, 45, 111, 118, 101, 114, 114, 105, 100, 101, 115]⟩, flagV 101 (B 10)), (⟨#[110, 111, 45, 98, 117, 105, 108, 116, 105, 110, 45, 114, 117, 108, 101, 115]⟩, flagV 114 (B 11)), (⟨#[97, 108, 119, 97, 121, 115, 45, 109, 97, 107, 101]⟩, flagV 66 (B 12))]
def tabD (B : Nat → Nat) : DataW Value := (tabL B).foldl (fun D p => D.put (.string p.1.data.toList) (.held p.2)) (.map [])
def tabC (n : Nat) : UInt8 := ([106, 102, 107, 110, 110, 116, 113, 115, 115, 105, 101, 114, 66] : List UInt8).getD n 0
structure LongAt (W : World) (mb : Nat) (B : Nat → Nat) : Prop where
  map : W.ownsMap Tryd.prog 9 RV mb 13 (tabD B)
  box : ∀ n, 2 ≤ n → n ≤ 12 → W.heap[B n]? = some (.cells #[.int .u8 (tabC n).toNat] 5 (0, 0))

def LgA (w : World) (e : Ending) (w' : World) : Prop := ∃ mb B, e = .returned (.map (some mb)) ∧ w.heap.size ≤ mb ∧ LongAt w' mb B ∧ Below w.heap.size w w' ∧ (∀ n, 2 ≤ n → n ≤ 12 → w.heap.size ≤ B n)
set_option maxRecDepth 100000 in
set_option maxHeartbeats 8000000 in
theorem long_any (w : World) : Calls Tryd.prog 85 #[] w fun e w' => LgA w e w' := by
  have hmm := @run_makeMap Tryd.prog
  have hown := World.ownsMap_made w Tryd.prog 9 RV
  go_enter Tryd.func85, Tryd.ntmps85
  go_wp2_with (first | (refine wpList_ins _ rfl _ _ _ rfl w.heap.size 0 (by decide) _ hown ⟨#[106, 111, 98, 115]⟩ (valV 106 107) rfl rfl rfl (by decide) ?_; intro y0 ho0 gy0) | (refine wpList_ins _ rfl _ _ _ rfl w.heap.size 1 (by decide) _ ho0 ⟨#[102, 105, 108, 101]⟩ (valV 102 108) rfl rfl rfl (by decide) ?_; intro y1 ho1 gy1) | fail)
  refine (flag_any 107 _).mono ?_
  rintro e2 x2 ⟨rfl, bx2, bb2⟩
  obtain ⟨b2, hb2⟩ : ∃ b, b = y1.heap.size := ⟨_, rfl⟩
  rw [← hb2] at bx2 ⊢
  have hm2 := map_below ho1 bb2
  have G2 := Lib.hid (And.intro bb2 (And.intro bx2 hb2))
  clear bb2 bx2 hb2
  go_wp2_with (first | (refine wpList_ins _ rfl _ _ _ rfl w.heap.size 2 (by decide) _ hm2 ⟨#[107, 101, 101, 112, 45, 103, 111, 105, 110, 103]⟩ (flagV 107 b2) rfl rfl rfl (by decide) ?_; intro y2 ho2 gy2) | fail)
  refine (flag_any 110 _).mono ?_
  rintro e3 x3 ⟨rfl, bx3, bb3⟩
  obtain ⟨b3, hb3⟩ : ∃ b, b = y2.heap.size := ⟨_, rfl⟩
  rw [← hb3] at bx3 ⊢
  have hm3 := map_below ho2 bb3
  have G3 := Lib.hid (And.intro bb3 (And.intro bx3 hb3))
  clear bb3 bx3 hb3
  go_wp2_with (first | (refine wpList_ins _ rfl _ _ _ rfl w.heap.size 3 (by decide) _ hm3 ⟨#[100, 114, 121, 45, 114, 117, 110]⟩ (flagV 110 b3) rfl rfl rfl (by decide) ?_; intro y3 ho3 gy3) | fail)
  refine (flag_any 110 _).mono ?_
  rintro e4 x4 ⟨rfl, bx4, bb4⟩
  obtain ⟨b4, hb4⟩ : ∃ b, b = y3.heap.size := ⟨_, rfl⟩
  rw [← hb4] at bx4 ⊢
  have hm4 := map_below ho3 bb4
  have G4 := Lib.hid (And.intro bb4 (And.intro bx4 hb4))
  clear bb4 bx4 hb4
  go_wp2_with (first | (refine wpList_ins _ rfl _ _ _ rfl w.heap.size 4 (by decide) _ hm4 ⟨#[106, 117, 115, 116, 45, 112, 114, 105, 110, 116]⟩ (flagV 110 b4) rfl rfl rfl (by decide) ?_; intro y4 ho4 gy4) | fail)
  refine (flag_any 116 _).mono ?_
  rintro e5 x5 ⟨rfl, bx5, bb5⟩
  obtain ⟨b5, hb5⟩ : ∃ b, b = y4.heap.size := ⟨_, rfl⟩
  rw [← hb5] at bx5 ⊢
  have hm5 := map_below ho4 bb5
  have G5 := Lib.hid (And.intro bb5 (And.intro bx5 hb5))
  clear bb5 bx5 hb5
  go_wp2_with (first | (refine wpList_ins _ rfl _ _ _ rfl w.heap.size 5 (by decide) _ hm5 ⟨#[116, 111, 117, 99, 104]⟩ (flagV 116 b5) rfl rfl rfl (by decide) ?_; intro y5 ho5 gy5) | fail)
  refine (flag_any 113 _).mono ?_
  rintro e6 x6 ⟨rfl, bx6, bb6⟩
  obtain ⟨b6, hb6⟩ : ∃ b, b = y5.heap.size := ⟨_, rfl⟩
  rw [← hb6] at bx6 ⊢
  have hm6 := map_below ho5 bb6
  have G6 := Lib.hid (And.intro bb6 (And.intro bx6 hb6))
  clear bb6 bx6 hb6
  go_wp2_with (first | (refine wpList_ins _ rfl _ _ _ rfl w.heap.size 6 (by decide) _ hm6 ⟨#[113, 117, 101, 115, 116, 105, 111, 110]⟩ (flagV 113 b6) rfl rfl rfl (by decide) ?_; intro y6 ho6 gy6) | fail)
  refine (flag_any 115 _).mono ?_
  rintro e7 x7 ⟨rfl, bx7, bb7⟩
  obtain ⟨b7, hb7⟩ : ∃ b, b = y6.heap.size := ⟨_, rfl⟩
  rw [← hb7] at bx7 ⊢
  have hm7 := map_below ho6 bb7
  have G7 := Lib.hid (And.intro bb7 (And.intro bx7 hb7))
  clear bb7 bx7 hb7
  go_wp2_with (first | (refine wpList_ins _ rfl _ _ _ rfl w.heap.size 7 (by decide) _ hm7 ⟨#[115, 105, 108, 101, 110, 116]⟩ (flagV 115 b7) rfl rfl rfl (by decide) ?_; intro y7 ho7 gy7) | fail)
  refine (flag_any 115 _).mono ?_
  rintro e8 x8 ⟨rfl, bx8, bb8⟩
  obtain ⟨b8, hb8⟩ : ∃ b, b = y7.heap.size := ⟨_, rfl⟩
  rw [← hb8] at bx8 ⊢
  have hm8 := map_below ho7 bb8
  have G8 := Lib.hid (And.intro bb8 (And.intro bx8 hb8))
  clear bb8 bx8 hb8
  go_wp2_with (first | (refine wpList_ins _ rfl _ _ _ rfl w.heap.size 8 (by decide) _ hm8 ⟨#[113, 117, 105, 101, 116]⟩ (flagV 115 b8) rfl rfl rfl (by decide) ?_; intro y8 ho8 gy8) | fail)
  refine (flag_any 105 _).mono ?_
  rintro e9 x9 ⟨rfl, bx9, bb9⟩
  obtain ⟨b9, hb9⟩ : ∃ b, b = y8.heap.size := ⟨_, rfl⟩
  rw [← hb9] at bx9 ⊢
  have hm9 := map_below ho8 bb9
  have G9 := Lib.hid (And.intro bb9 (And.intro bx9 hb9))
  clear bb9 bx9 hb9
  go_wp2_with (first | (refine wpList_ins _ rfl _ _ _ rfl w.heap.size 9 (by decide) _ hm9 ⟨#[105, 103, 110, 111, 114, 101, 45, 101, 114, 114, 111, 114, 115]⟩ (flagV 105 b9) rfl rfl rfl (by decide) ?_; intro y9 ho9 gy9) | fail)
  refine (flag_any 101 _).mono ?_
  rintro e10 x10 ⟨rfl, bx10, bb10⟩
  obtain ⟨b10, hb10⟩ : ∃ b, b = y9.heap.size := ⟨_, rfl⟩
  rw [← hb10] at bx10 ⊢
  have hm10 := map_below ho9 bb10
  have G10 := Lib.hid (And.intro bb10 (And.intro bx10 hb10))
  clear bb10 bx10 hb10
  go_wp2_with (first | (refine wpList_ins _ rfl _ _ _ rfl w.heap.size 10 (by decide) _ hm10 ⟨#[101, 110, 118, 105, 114, 111, 110, 109, 101, 110, 116, 45, 111, 118, 101, 114, 114, 105, 100, 101, 115]⟩ (flagV 101 b10) rfl rfl rfl (by decide) ?_; intro y10 ho10 gy10) | fail)
  refine (flag_any 114 _).mono ?_
  rintro e11 x11 ⟨rfl, bx11, bb11⟩
  obtain ⟨b11, hb11⟩ : ∃ b, b = y10.heap.size := ⟨_, rfl⟩
  rw [← hb11] at bx11 ⊢
  have hm11 := map_below ho10 bb11
  have G11 := Lib.hid (And.intro bb11 (And.intro bx11 hb11))
  clear bb11 bx11 hb11
  go_wp2_with (first | (refine wpList_ins _ rfl _ _ _ rfl w.heap.size 11 (by decide) _ hm11 ⟨#[110, 111, 45, 98, 117, 105, 108, 116, 105, 110, 45, 114, 117, 108, 101, 115]⟩ (flagV 114 b11) rfl rfl rfl (by decide) ?_; intro y11 ho11 gy11) | fail)
  refine (flag_any 66 _).mono ?_
  rintro e12 x12 ⟨rfl, bx12, bb12⟩
  obtain ⟨b12, hb12⟩ : ∃ b, b = y11.heap.size := ⟨_, rfl⟩
  rw [← hb12] at bx12 ⊢
  have hm12 := map_below ho11 bb12
  have G12 := Lib.hid (And.intro bb12 (And.intro bx12 hb12))
  clear bb12 bx12 hb12
  go_wp2_with (first | (refine wpList_ins _ rfl _ _ _ rfl w.heap.size 12 (by decide) _ hm12 ⟨#[97, 108, 119, 97, 121, 115, 45, 109, 97, 107, 101]⟩ (flagV 66 b12) rfl rfl rfl (by decide) ?_; intro y12 ho12 gy12) | fail)
  go_ret
  have h12 : Gm w.heap.size y12 y12 := Gm.refl _ _
  have h11 : Gm w.heap.size y11 y12 := (Gm.of_below _ G12.out.1).trans (gy12.trans h12)
  have h10 : Gm w.heap.size y10 y12 := (Gm.of_below _ G11.out.1).trans (gy11.trans h11)
  have h9 : Gm w.heap.size y9 y12 := (Gm.of_below _ G10.out.1).trans (gy10.trans h10)
  have h8 : Gm w.heap.size y8 y12 := (Gm.of_below _ G9.out.1).trans (gy9.trans h9)
  have h7 : Gm w.heap.size y7 y12 := (Gm.of_below _ G8.out.1).trans (gy8.trans h8)
  have h6 : Gm w.heap.size y6 y12 := (Gm.of_below _ G7.out.1).trans (gy7.trans h7)
  have h5 : Gm w.heap.size y5 y12 := (Gm.of_below _ G6.out.1).trans (gy6.trans h6)
  have h4 : Gm w.heap.size y4 y12 := (Gm.of_below _ G5.out.1).trans (gy5.trans h5)
  have h3 : Gm w.heap.size y3 y12 := (Gm.of_below _ G4.out.1).trans (gy4.trans h4)
  have h2 : Gm w.heap.size y2 y12 := (Gm.of_below _ G3.out.1).trans (gy3.trans h3)
  have h1 : Gm w.heap.size y1 y12 := (Gm.of_below _ G2.out.1).trans (gy2.trans h2)
  have h0 : Gm w.heap.size y0 y12 := gy1.trans h1
  have hA : Gm w.heap.size (w.alloc (.map #[] 0)) y12 := gy0.trans h0
  have c2 : y12.heap[b2]? = some (.cells #[.int .u8 (107 : UInt8).toNat] 5 (0, 0)) := ((gy2.trans h2).block b2 (lt_of_block G2.out.2.1) (by have := ho1.lt; have := G2.out.2.2; omega)).trans G2.out.2.1
  have c3 : y12.heap[b3]? = some (.cells #[.int .u8 (110 : UInt8).toNat] 5 (0, 0)) := ((gy3.trans h3).block b3 (lt_of_block G3.out.2.1) (by have := ho2.lt; have := G3.out.2.2; omega)).trans G3.out.2.1
  have c4 : y12.heap[b4]? = some (.cells #[.int .u8 (110 : UInt8).toNat] 5 (0, 0)) := ((gy4.trans h4).block b4 (lt_of_block G4.out.2.1) (by have := ho3.lt; have := G4.out.2.2; omega)).trans G4.out.2.1
  have c5 : y12.heap[b5]? = some (.cells #[.int .u8 (116 : UInt8).toNat] 5 (0, 0)) := ((gy5.trans h5).block b5 (lt_of_block G5.out.2.1) (by have := ho4.lt; have := G5.out.2.2; omega)).trans G5.out.2.1
  have c6 : y12.heap[b6]? = some (.cells #[.int .u8 (113 : UInt8).toNat] 5 (0, 0)) := ((gy6.trans h6).block b6 (lt_of_block G6.out.2.1) (by have := ho5.lt; have := G6.out.2.2; omega)).trans G6.out.2.1
  have c7 : y12.heap[b7]? = some (.cells #[.int .u8 (115 : UInt8).toNat] 5 (0, 0)) := ((gy7.trans h7).block b7 (lt_of_block G7.out.2.1) (by have := ho6.lt; have := G7.out.2.2; omega)).trans G7.out.2.1
  have c8 : y12.heap[b8]? = some (.cells #[.int .u8 (115 : UInt8).toNat] 5 (0, 0)) := ((gy8.trans h8).block b8 (lt_of_block G8.out.2.1) (by have := ho7.lt; have := G8.out.2.2; omega)).trans G8.out.2.1
  have c9 : y12.heap[b9]? = some (.cells #[.int .u8 (105 : UInt8).toNat] 5 (0, 0)) := ((gy9.trans h9).block b9 (lt_of_block G9.out.2.1) (by have := ho8.lt; have := G9.out.2.2; omega)).trans G9.out.2.1
  have c10 : y12.heap[b10]? = some (.cells #[.int .u8 (101 : UInt8).toNat] 5 (0, 0)) := ((gy10.trans h10).block b10 (lt_of_block G10.out.2.1) (by have := ho9.lt; have := G10.out.2.2; omega)).trans G10.out.2.1
  have c11 : y12.heap[b11]? = some (.cells #[.int .u8 (114 : UInt8).toNat] 5 (0, 0)) := ((gy11.trans h11).block b11 (lt_of_block G11.out.2.1) (by have := ho10.lt; have := G11.out.2.2; omega)).trans G11.out.2.1
  have c12 : y12.heap[b12]? = some (.cells #[.int .u8 (66 : UInt8).toNat] 5 (0, 0)) := ((gy12.trans h12).block b12 (lt_of_block G12.out.2.1) (by have := ho11.lt; have := G12.out.2.2; omega)).trans G12.out.2.1
  refine ⟨w.heap.size, fun n => ([0, 0, b2, b3, b4, b5, b6, b7, b8, b9, b10, b11, b12] : List Nat).getD n 0, rfl, Nat.le_refl _, ⟨ho12, fun n hn1 hn2 => ?_⟩, ?_, fun n hn1 hn2 => ?_⟩
  · have hc : n = 2 ∨ n = 3 ∨ n = 4 ∨ n = 5 ∨ n = 6 ∨ n = 7 ∨ n = 8 ∨ n = 9 ∨ n = 10 ∨ n = 11 ∨ n = 12 := by omega
    rcases hc with rfl | rfl | rfl | rfl | rfl | rfl | rfl | rfl | rfl | rfl | rfl
    · exact c2
    · exact c3
    · exact c4
    · exact c5
    · exact c6
    · exact c7
    · exact c8
    · exact c9
    · exact c10
    · exact c11
    · exact c12
  · exact ⟨hA.os, hA.tape, hA.output, Nat.le_trans (by simp) hA.size, fun k hk => (hA.block k (by simp; omega) (by omega)).trans (Below.heap_alloc _ _ _ hk)⟩
  · have hc : n = 2 ∨ n = 3 ∨ n = 4 ∨ n = 5 ∨ n = 6 ∨ n = 7 ∨ n = 8 ∨ n = 9 ∨ n = 10 ∨ n = 11 ∨ n = 12 := by omega
    rcases hc with rfl | rfl | rfl | rfl | rfl | rfl | rfl | rfl | rfl | rfl | rfl
    · show w.heap.size ≤ b2; have := ho1.lt; have := G2.out.2.2; omega
    · show w.heap.size ≤ b3; have := ho2.lt; have := G3.out.2.2; omega
    · show w.heap.size ≤ b4; have := ho3.lt; have := G4.out.2.2; omega
    · show w.heap.size ≤ b5; have := ho4.lt; have := G5.out.2.2; omega
    · show w.heap.size ≤ b6; have := ho5.lt; have := G6.out.2.2; omega
    · show w.heap.size ≤ b7; have := ho6.lt; have := G7.out.2.2; omega
    · show w.heap.size ≤ b8; have := ho7.lt; have := G8.out.2.2; omega
    · show w.heap.size ≤ b9; have := ho8.lt; have := G9.out.2.2; omega
    · show w.heap.size ≤ b10; have := ho9.lt; have := G10.out.2.2; omega
    · show w.heap.size ≤ b11; have := ho10.lt; have := G11.out.2.2; omega
    · show w.heap.size ≤ b12; have := ho11.lt; have := G12.out.2.2; omega

end Go.Proofs.YtmcemaphhlcjfaaDoor
