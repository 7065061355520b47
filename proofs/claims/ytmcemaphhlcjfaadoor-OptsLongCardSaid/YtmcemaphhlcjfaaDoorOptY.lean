/- OptsLong; conditions: the library's one number and one type in their cells. -/
import Derived.Test.YtmcemaphhlcjfaaDoorOptX
namespace Go.Proofs.YtmcemaphhlcjfaaDoor
open Go.RowKit Go.Maps

theorem StrsAt.none_ (w : World) (A : Option Addr) : StrsAt w A [] := fun j x hj => by cases hj
theorem lng_cell {k : Nat} {lw : ByteArray} (h : lngT[k]? = some lw) : (#[.string ⟨#[107, 101, 101, 112, 45, 103, 111, 105, 110, 103]⟩, .string ⟨#[100, 114, 121, 45, 114, 117, 110]⟩, .string ⟨#[106, 117, 115, 116, 45, 112, 114, 105, 110, 116]⟩, .string ⟨#[116, 111, 117, 99, 104]⟩, .string ⟨#[113, 117, 101, 115, 116, 105, 111, 110]⟩, .string ⟨#[115, 105, 108, 101, 110, 116]⟩, .string ⟨#[113, 117, 105, 101, 116]⟩, .string ⟨#[105, 103, 110, 111, 114, 101, 45, 101, 114, 114, 111, 114, 115]⟩, .string ⟨#[101, 110, 118, 105, 114, 111, 110, 109, 101, 110, 116, 45, 111, 118, 101, 114, 114, 105, 100, 101, 115]⟩, .string ⟨#[110, 111, 45, 98, 117, 105, 108, 116, 105, 110, 45, 114, 117, 108, 101, 115]⟩, .string ⟨#[97, 108, 119, 97, 121, 115, 45, 109, 97, 107, 101]⟩] : Array Value)[k]? = some (.string lw) := by
  have e : (#[.string ⟨#[107, 101, 101, 112, 45, 103, 111, 105, 110, 103]⟩, .string ⟨#[100, 114, 121, 45, 114, 117, 110]⟩, .string ⟨#[106, 117, 115, 116, 45, 112, 114, 105, 110, 116]⟩, .string ⟨#[116, 111, 117, 99, 104]⟩, .string ⟨#[113, 117, 101, 115, 116, 105, 111, 110]⟩, .string ⟨#[115, 105, 108, 101, 110, 116]⟩, .string ⟨#[113, 117, 105, 101, 116]⟩, .string ⟨#[105, 103, 110, 111, 114, 101, 45, 101, 114, 114, 111, 114, 115]⟩, .string ⟨#[101, 110, 118, 105, 114, 111, 110, 109, 101, 110, 116, 45, 111, 118, 101, 114, 114, 105, 100, 101, 115]⟩, .string ⟨#[110, 111, 45, 98, 117, 105, 108, 116, 105, 110, 45, 114, 117, 108, 101, 115]⟩, .string ⟨#[97, 108, 119, 97, 121, 115, 45, 109, 97, 107, 101]⟩] : Array Value) = (lngT.map Value.string).toArray := rfl
  rw [e]; simp [h]
theorem sht_cell {k : Nat} {lw : ByteArray} (h : shtT[k]? = some lw) : (#[.string ⟨#[107]⟩, .string ⟨#[110]⟩, .string ⟨#[110]⟩, .string ⟨#[116]⟩, .string ⟨#[113]⟩, .string ⟨#[115]⟩, .string ⟨#[115]⟩, .string ⟨#[105]⟩, .string ⟨#[101]⟩, .string ⟨#[114]⟩, .string ⟨#[66]⟩] : Array Value)[k]? = some (.string lw) := by
  have e : (#[.string ⟨#[107]⟩, .string ⟨#[110]⟩, .string ⟨#[110]⟩, .string ⟨#[116]⟩, .string ⟨#[113]⟩, .string ⟨#[115]⟩, .string ⟨#[115]⟩, .string ⟨#[105]⟩, .string ⟨#[101]⟩, .string ⟨#[114]⟩, .string ⟨#[66]⟩] : Array Value) = (shtT.map Value.string).toArray := rfl
  rw [e]; simp [h]

set_option maxRecDepth 100000 in
set_option maxHeartbeats 16000000 in
theorem OptsLong_law (which jobs : Int) (w : World) (_h1 : (Lit.int .i64 which).wf = true) (_h2 : (Lit.int .i64 jobs).wf = true) (hw : 1 < w.heap.size) (m : Int) (hm : w.cell? ⟨1, 0, none⟩ = some (.int .i64 m)) (hg : w.cell? ⟨0, 0, none⟩ = some ErrT) :
    Calls Tryd.prog 9 #[.int .i64 which, .int .i64 jobs] w fun e w' => e = .returned (.bool true) ∧ Below w.heap.size w w' := by
  have HAl := Lib.hid (optsAlive w hw m hm hg)
  have HPL := Lib.hid fun (wi : World) (hb : Below w.heap.size w wi) (l : List ByteArray) (hl : l.length ≤ 1000) (hz : ∀ v ∈ l, v.size ≤ 1000000) => parse_lit (w := wi) l hl hz (Nat.lt_of_lt_of_le hw hb.size) m ((hb.cell (p := ⟨1, 0, none⟩) hw).trans hm) ((hb.cell (p := ⟨0, 0, none⟩) (Nat.lt_of_succ_lt hw)).trans hg)
  clear hm hg hw _h1 _h2
  go_enter Tryd.func9, Tryd.ntmps9
  go_wp2_with fail
  refine HAl.out.mono ?_
  rintro e w0 ⟨rfl, hb0⟩
  have HB0 := Lib.hid hb0
  clear hb0 HAl
  go_upto_region 4 with fail
  have hlA := heap_alloc_last w0 (.cells #[.string ⟨#[107, 101, 101, 112, 45, 103, 111, 105, 110, 103]⟩, .string ⟨#[100, 114, 121, 45, 114, 117, 110]⟩, .string ⟨#[106, 117, 115, 116, 45, 112, 114, 105, 110, 116]⟩, .string ⟨#[116, 111, 117, 99, 104]⟩, .string ⟨#[113, 117, 101, 115, 116, 105, 111, 110]⟩, .string ⟨#[115, 105, 108, 101, 110, 116]⟩, .string ⟨#[113, 117, 105, 101, 116]⟩, .string ⟨#[105, 103, 110, 111, 114, 101, 45, 101, 114, 114, 111, 114, 115]⟩, .string ⟨#[101, 110, 118, 105, 114, 111, 110, 109, 101, 110, 116, 45, 111, 118, 101, 114, 114, 105, 100, 101, 115]⟩, .string ⟨#[110, 111, 45, 98, 117, 105, 108, 116, 105, 110, 45, 114, 117, 108, 101, 115]⟩, .string ⟨#[97, 108, 119, 97, 121, 115, 45, 109, 97, 107, 101]⟩] 9)
  have hb1 : Below w0.heap.size w0 (w0.alloc (.cells #[.string ⟨#[107, 101, 101, 112, 45, 103, 111, 105, 110, 103]⟩, .string ⟨#[100, 114, 121, 45, 114, 117, 110]⟩, .string ⟨#[106, 117, 115, 116, 45, 112, 114, 105, 110, 116]⟩, .string ⟨#[116, 111, 117, 99, 104]⟩, .string ⟨#[113, 117, 101, 115, 116, 105, 111, 110]⟩, .string ⟨#[115, 105, 108, 101, 110, 116]⟩, .string ⟨#[113, 117, 105, 101, 116]⟩, .string ⟨#[105, 103, 110, 111, 114, 101, 45, 101, 114, 114, 111, 114, 115]⟩, .string ⟨#[101, 110, 118, 105, 114, 111, 110, 109, 101, 110, 116, 45, 111, 118, 101, 114, 114, 105, 100, 101, 115]⟩, .string ⟨#[110, 111, 45, 98, 117, 105, 108, 116, 105, 110, 45, 114, 117, 108, 101, 115]⟩, .string ⟨#[97, 108, 119, 97, 121, 115, 45, 109, 97, 107, 101]⟩] 9)) := (Below.refl _ w0).alloc (Nat.le_refl _) _
  have hs1 : (w0.alloc (.cells #[.string ⟨#[107, 101, 101, 112, 45, 103, 111, 105, 110, 103]⟩, .string ⟨#[100, 114, 121, 45, 114, 117, 110]⟩, .string ⟨#[106, 117, 115, 116, 45, 112, 114, 105, 110, 116]⟩, .string ⟨#[116, 111, 117, 99, 104]⟩, .string ⟨#[113, 117, 101, 115, 116, 105, 111, 110]⟩, .string ⟨#[115, 105, 108, 101, 110, 116]⟩, .string ⟨#[113, 117, 105, 101, 116]⟩, .string ⟨#[105, 103, 110, 111, 114, 101, 45, 101, 114, 114, 111, 114, 115]⟩, .string ⟨#[101, 110, 118, 105, 114, 111, 110, 109, 101, 110, 116, 45, 111, 118, 101, 114, 114, 105, 100, 101, 115]⟩, .string ⟨#[110, 111, 45, 98, 117, 105, 108, 116, 105, 110, 45, 114, 117, 108, 101, 115]⟩, .string ⟨#[97, 108, 119, 97, 121, 115, 45, 109, 97, 107, 101]⟩] 9)).heap.size = w0.heap.size + 1 := World.size_alloc ..
  obtain ⟨w1, hw1⟩ : ∃ w1, w0.alloc (.cells #[.string ⟨#[107, 101, 101, 112, 45, 103, 111, 105, 110, 103]⟩, .string ⟨#[100, 114, 121, 45, 114, 117, 110]⟩, .string ⟨#[106, 117, 115, 116, 45, 112, 114, 105, 110, 116]⟩, .string ⟨#[116, 111, 117, 99, 104]⟩, .string ⟨#[113, 117, 101, 115, 116, 105, 111, 110]⟩, .string ⟨#[115, 105, 108, 101, 110, 116]⟩, .string ⟨#[113, 117, 105, 101, 116]⟩, .string ⟨#[105, 103, 110, 111, 114, 101, 45, 101, 114, 114, 111, 114, 115]⟩, .string ⟨#[101, 110, 118, 105, 114, 111, 110, 109, 101, 110, 116, 45, 111, 118, 101, 114, 114, 105, 100, 101, 115]⟩, .string ⟨#[110, 111, 45, 98, 117, 105, 108, 116, 105, 110, 45, 114, 117, 108, 101, 115]⟩, .string ⟨#[97, 108, 119, 97, 121, 115, 45, 109, 97, 107, 101]⟩] 9) = w1 := ⟨_, rfl⟩
  rw [hw1] at hlA hb1 hs1 ⊢
  have hlB := heap_alloc_last w1 (.cells #[.string ⟨#[107]⟩, .string ⟨#[110]⟩, .string ⟨#[110]⟩, .string ⟨#[116]⟩, .string ⟨#[113]⟩, .string ⟨#[115]⟩, .string ⟨#[115]⟩, .string ⟨#[105]⟩, .string ⟨#[101]⟩, .string ⟨#[114]⟩, .string ⟨#[66]⟩] 9)
  have hb2 : Below w1.heap.size w1 (w1.alloc (.cells #[.string ⟨#[107]⟩, .string ⟨#[110]⟩, .string ⟨#[110]⟩, .string ⟨#[116]⟩, .string ⟨#[113]⟩, .string ⟨#[115]⟩, .string ⟨#[115]⟩, .string ⟨#[105]⟩, .string ⟨#[101]⟩, .string ⟨#[114]⟩, .string ⟨#[66]⟩] 9)) := (Below.refl _ w1).alloc (Nat.le_refl _) _
  have hs2 : (w1.alloc (.cells #[.string ⟨#[107]⟩, .string ⟨#[110]⟩, .string ⟨#[110]⟩, .string ⟨#[116]⟩, .string ⟨#[113]⟩, .string ⟨#[115]⟩, .string ⟨#[115]⟩, .string ⟨#[105]⟩, .string ⟨#[101]⟩, .string ⟨#[114]⟩, .string ⟨#[66]⟩] 9)).heap.size = w0.heap.size + 2 := by rw [World.size_alloc, hs1]
  obtain ⟨w2, hw2⟩ : ∃ w2, w1.alloc (.cells #[.string ⟨#[107]⟩, .string ⟨#[110]⟩, .string ⟨#[110]⟩, .string ⟨#[116]⟩, .string ⟨#[113]⟩, .string ⟨#[115]⟩, .string ⟨#[115]⟩, .string ⟨#[105]⟩, .string ⟨#[101]⟩, .string ⟨#[114]⟩, .string ⟨#[66]⟩] 9) = w2 := ⟨_, rfl⟩
  rw [hw2] at hlB hb2 hs2 ⊢
  rw [hs1] at hlB
  have hlA2 := (hb2.block _ (lt_of_block hlA)).trans hlA
  have HBW := Lib.hid ((HB0.out.trans (hb1.mono HB0.out.size)).trans (hb2.mono (HB0.out.trans (hb1.mono HB0.out.size)).size))
  obtain ⟨lb, hlb⟩ : ∃ lb, w0.heap.size = lb := ⟨_, rfl⟩
  rw [hlb] at hlA2 hlB hs2 ⊢
  have HLA := Lib.hid hlA2
  have HLB := Lib.hid hlB
  have HS2 := Lib.hid hs2
  clear hlA hb1 hs1 hw1 hlB hb2 hs2 hw2 hlA2 hlb HB0
  by_cases a1 : which < 0
  · go_wp2
    go_ret
    exact ⟨rfl, HBW.out⟩
  by_cases a2 : 11 ≤ which
  · go_wp2
    go_ret
    exact ⟨rfl, HBW.out⟩
  by_cases a3 : jobs < -5
  · go_wp2
    go_ret
    exact ⟨rfl, HBW.out⟩
  by_cases a4 : 30 < jobs
  · go_wp2
    go_ret
    exact ⟨rfl, HBW.out⟩
  obtain ⟨k, rfl⟩ : ∃ k : Nat, which = k := ⟨which.toNat, by omega⟩
  have hk : k < 11 := by omega
  obtain ⟨lw, sw, n, t1, t2, z1, z2, f1, f2, f3⟩ := lg_all k hk
  have hJB := jb_all jobs (by omega) (by omega)
  have HDC := Lib.hid (DecR_any jobs (by omega))
  obtain ⟨zd, hjb⟩ := hJB
  obtain ⟨d, hd⟩ : ∃ d, decB jobs = d := ⟨_, rfl⟩
  rw [hd] at HDC zd hjb
  have k2 : (⟨#[45, 45]⟩ : ByteArray).size = 2 := rfl
  have k1 : (⟨#[45]⟩ : ByteArray).size = 1 := rfl
  have k2x : (⟨#[61, 120]⟩ : ByteArray).size = 2 := rfl
  have k7 : (⟨#[45, 45, 106, 111, 98, 115, 61]⟩ : ByteArray).size = 7 := rfl
  have k3 : (⟨#[45, 107, 106]⟩ : ByteArray).size = 3 := rfl
  have k0 : (⟨#[]⟩ : ByteArray).size = 0 := rfl
  obtain ⟨L1, hL1⟩ : ∃ L, (⟨#[45, 45]⟩ : ByteArray) ++ lw = L := ⟨_, rfl⟩
  obtain ⟨S1, hS1⟩ : ∃ L, (⟨#[45]⟩ : ByteArray) ++ sw = L := ⟨_, rfl⟩
  rw [hL1] at f1 f3
  rw [hS1] at f2
  obtain ⟨L2, hL2⟩ : ∃ L, L1 ++ (⟨#[61, 120]⟩ : ByteArray) = L := ⟨_, rfl⟩
  rw [hL2] at f3
  obtain ⟨D1, hD1⟩ : ∃ L, (⟨#[45, 45, 106, 111, 98, 115, 61]⟩ : ByteArray) ++ d = L := ⟨_, rfl⟩
  obtain ⟨D2, hD2⟩ : ∃ L, (⟨#[45, 107, 106]⟩ : ByteArray) ++ d = L := ⟨_, rfl⟩
  obtain ⟨D3, hD3⟩ : ∃ L, D2 ++ (⟨#[]⟩ : ByteArray) = L := ⟨_, rfl⟩
  rw [hD1, hD2, hD3] at hjb
  have zL1 : L1.size ≤ 32 := by rw [← hL1, ByteArray.size_append]; omega
  have zS1 : S1.size ≤ 2 := by rw [← hS1, ByteArray.size_append]; omega
  have zL2 : L2.size ≤ 34 := by rw [← hL2, ByteArray.size_append]; omega
  have zD1 : D1.size ≤ 10 := by rw [← hD1, ByteArray.size_append]; omega
  have zD2 : D2.size ≤ 6 := by rw [← hD2, ByteArray.size_append]; omega
  have zD3 : D3.size ≤ 6 := by rw [← hD3, ByteArray.size_append]; omega
  have HX1 := Lib.hid fun (wi : World) (hb : Below w.heap.size w wi) => HPL.out wi hb [L1] (by simp) (by simp; omega)
  have HX2 := Lib.hid fun (wi : World) (hb : Below w.heap.size w wi) => HPL.out wi hb [S1] (by simp) (by simp; omega)
  have HX3 := Lib.hid fun (wi : World) (hb : Below w.heap.size w wi) => HPL.out wi hb [L2] (by simp) (by simp; omega)
  have HX4 := Lib.hid fun (wi : World) (hb : Below w.heap.size w wi) => HPL.out wi hb [D1] (by simp) (by simp; omega)
  have HX5 := Lib.hid fun (wi : World) (hb : Below w.heap.size w wi) => HPL.out wi hb [D3, ⟨#[45, 102]⟩, ⟨#[109]⟩, ⟨#[45, 102, 110]⟩] (by simp) (by simp; exact ⟨by omega, by decide, by decide, by decide⟩)
  have HX6 := Lib.hid fun (wi : World) (hb : Below w.heap.size w wi) => HPL.out wi hb [⟨#[45, 106]⟩] (by decide) (by decide)
  rw [lg_j] at HX6
  rw [f1] at HX1
  rw [f2] at HX2
  rw [f3] at HX3
  obtain ⟨bsn, hbsn⟩ : ∃ b, upd x0.bs n = b := ⟨_, rfl⟩
  rw [hbsn] at HX1 HX2
  have cA := cell_of_row w2 lb k _ 9 (0, 0) HLA.out
  rw [lng_cell t1] at cA
  have cB := cell_of_row w2 (lb + 1) k _ 9 (0, 0) HLB.out
  rw [sht_cell t2] at cB
  have HCA := Lib.hid cA
  have HCB := Lib.hid cB
  have HJ := Lib.hid hjb
  clear hd t1 t2 f1 f2 f3 hbsn HPL hjb
  -- the walk
  have HBWw2 := HBW
  have HSw2 := HS2
  have cA := HCA.out
  clear HBW HS2 cB HLA HLB
  have HY1 : Hid (Calls Tryd.prog 28 #[.slice (some ⟨w2.heap.size, 0, none⟩) 1 1, .string ⟨#[]⟩] (w2.alloc (.cells #[.string L1] 9)) fun e w' => PsA w2 (some { x0 with bs := bsn }) e w') := HX1.out w2 HBWw2.out
  go_wp2_with fail
  refine HY1.out.mono ?_
  rintro e w30 ⟨hb, v, rfl, vf, vg, vv, hv, of, og, ov⟩
  obtain ⟨AF, Af, rfl, _, _⟩ := of.form
  obtain ⟨AG, Ag, rfl, _, _⟩ := og.form
  obtain ⟨AV, Av, rfl, _, _⟩ := ov.form
  obtain rfl : v = .agg #[.int .i64 1, .bool (bsn 1), .bool (bsn 2), .bool (bsn 3), .bool (bsn 4), .bool (bsn 5), .bool (bsn 6), .bool (bsn 7), .bool (bsn 8), .bool (bsn 9), .bool false, .slice AF 0 Af, .slice AG 0 Ag, .slice AV 0 Av] := hv
  have hb2 : Below w30.heap.size w30 (w30.alloc (.cells #[.int .i64 1, .bool (bsn 1), .bool (bsn 2), .bool (bsn 3), .bool (bsn 4), .bool (bsn 5), .bool (bsn 6), .bool (bsn 7), .bool (bsn 8), .bool (bsn 9), .bool false, .slice AF 0 Af, .slice AG 0 Ag, .slice AV 0 Av] 47)) := (Below.refl _ w30).alloc (Nat.le_refl _) _
  have hbb := hb.trans (hb2.mono hb.size)
  have hr := heap_alloc_last w30 (.cells #[.int .i64 1, .bool (bsn 1), .bool (bsn 2), .bool (bsn 3), .bool (bsn 4), .bool (bsn 5), .bool (bsn 6), .bool (bsn 7), .bool (bsn 8), .bool (bsn 9), .bool false, .slice AF 0 Af, .slice AG 0 Ag, .slice AV 0 Av] 47)
  have hs : (w30.alloc (.cells #[.int .i64 1, .bool (bsn 1), .bool (bsn 2), .bool (bsn 3), .bool (bsn 4), .bool (bsn 5), .bool (bsn 6), .bool (bsn 7), .bool (bsn 8), .bool (bsn 9), .bool false, .slice AF 0 Af, .slice AG 0 Ag, .slice AV 0 Av] 47)).heap.size = w30.heap.size + 1 := World.size_alloc ..
  obtain ⟨w3, hv_w3⟩ : ∃ w2, w30.alloc (.cells #[.int .i64 1, .bool (bsn 1), .bool (bsn 2), .bool (bsn 3), .bool (bsn 4), .bool (bsn 5), .bool (bsn 6), .bool (bsn 7), .bool (bsn 8), .bool (bsn 9), .bool false, .slice AF 0 Af, .slice AG 0 Ag, .slice AV 0 Av] 47) = w2 := ⟨_, rfl⟩
  rw [hv_w3] at hb2 hbb hr hs
  replace HCA := Lib.hid ((hbb.cell (p := ⟨lb, k, none⟩) (World.block_lt_of_cell? _ _ HCA.out)).trans HCA.out)
  replace HCB := Lib.hid ((hbb.cell (p := ⟨lb + 1, k, none⟩) (World.block_lt_of_cell? _ _ HCB.out)).trans HCB.out)
  have HBWw3 := Lib.hid (HBWw2.out.trans (hbb.mono HBWw2.out.size))
  obtain ⟨bw3, hbk⟩ : ∃ x, w30.heap.size = x := ⟨_, rfl⟩
  rw [hbk] at hs hr
  have HSw3 := Lib.hid hs
  have HRw3 := Lib.hid hr
  have HV := Lib.hid hv_w3
  have HK := Lib.hid hbk
  clear hv_w3 hbk
  clear hb hb2 hbb hr hs HY1 HX1 of og ov
  go_upto_region 7 with fail
  rw [HV.out]
  rw [HK.out]
  clear HV HK
  clear cA
  have cB := HCB.out
  have HY2 : Hid (Calls Tryd.prog 28 #[.slice (some ⟨w3.heap.size, 0, none⟩) 1 1, .string ⟨#[]⟩] (w3.alloc (.cells #[.string S1] 9)) fun e w' => PsA w3 (some { x0 with bs := bsn }) e w') := HX2.out w3 HBWw3.out
  go_wp2_with fail
  refine HY2.out.mono ?_
  rintro e w40 ⟨hb, v, rfl, vf, vg, vv, hv, of, og, ov⟩
  obtain ⟨BF, Bf, rfl, _, _⟩ := of.form
  obtain ⟨BG, Bg, rfl, _, _⟩ := og.form
  obtain ⟨BV, Bv, rfl, _, _⟩ := ov.form
  obtain rfl : v = .agg #[.int .i64 1, .bool (bsn 1), .bool (bsn 2), .bool (bsn 3), .bool (bsn 4), .bool (bsn 5), .bool (bsn 6), .bool (bsn 7), .bool (bsn 8), .bool (bsn 9), .bool false, .slice BF 0 Bf, .slice BG 0 Bg, .slice BV 0 Bv] := hv
  have hb2 : Below w40.heap.size w40 (w40.alloc (.cells #[.int .i64 1, .bool (bsn 1), .bool (bsn 2), .bool (bsn 3), .bool (bsn 4), .bool (bsn 5), .bool (bsn 6), .bool (bsn 7), .bool (bsn 8), .bool (bsn 9), .bool false, .slice BF 0 Bf, .slice BG 0 Bg, .slice BV 0 Bv] 47)) := (Below.refl _ w40).alloc (Nat.le_refl _) _
  have hbb := hb.trans (hb2.mono hb.size)
  have hr := heap_alloc_last w40 (.cells #[.int .i64 1, .bool (bsn 1), .bool (bsn 2), .bool (bsn 3), .bool (bsn 4), .bool (bsn 5), .bool (bsn 6), .bool (bsn 7), .bool (bsn 8), .bool (bsn 9), .bool false, .slice BF 0 Bf, .slice BG 0 Bg, .slice BV 0 Bv] 47)
  have hs : (w40.alloc (.cells #[.int .i64 1, .bool (bsn 1), .bool (bsn 2), .bool (bsn 3), .bool (bsn 4), .bool (bsn 5), .bool (bsn 6), .bool (bsn 7), .bool (bsn 8), .bool (bsn 9), .bool false, .slice BF 0 Bf, .slice BG 0 Bg, .slice BV 0 Bv] 47)).heap.size = w40.heap.size + 1 := World.size_alloc ..
  obtain ⟨w4, hv_w4⟩ : ∃ w2, w40.alloc (.cells #[.int .i64 1, .bool (bsn 1), .bool (bsn 2), .bool (bsn 3), .bool (bsn 4), .bool (bsn 5), .bool (bsn 6), .bool (bsn 7), .bool (bsn 8), .bool (bsn 9), .bool false, .slice BF 0 Bf, .slice BG 0 Bg, .slice BV 0 Bv] 47) = w2 := ⟨_, rfl⟩
  rw [hv_w4] at hb2 hbb hr hs
  replace HRw3 := Lib.hid ((hbb.block _ (lt_of_block HRw3.out)).trans HRw3.out)
  replace HCA := Lib.hid ((hbb.cell (p := ⟨lb, k, none⟩) (World.block_lt_of_cell? _ _ HCA.out)).trans HCA.out)
  replace HCB := Lib.hid ((hbb.cell (p := ⟨lb + 1, k, none⟩) (World.block_lt_of_cell? _ _ HCB.out)).trans HCB.out)
  have HBWw4 := Lib.hid (HBWw3.out.trans (hbb.mono HBWw3.out.size))
  obtain ⟨bw4, hbk⟩ : ∃ x, w40.heap.size = x := ⟨_, rfl⟩
  rw [hbk] at hs hr
  have HSw4 := Lib.hid hs
  have HRw4 := Lib.hid hr
  have HV := Lib.hid hv_w4
  have HK := Lib.hid hbk
  clear hv_w4 hbk
  clear hb hb2 hbb hr hs HY2 HX2 of og ov
  go_upto_region 8 with fail
  rw [HV.out]
  rw [HK.out]
  clear HV HK
  clear cB
  have cA := HCA.out
  have HY3 : Hid (Calls Tryd.prog 28 #[.slice (some ⟨w4.heap.size, 0, none⟩) 1 1, .string ⟨#[]⟩] (w4.alloc (.cells #[.string L2] 9)) fun e w' => PsA w4 none e w') := HX3.out w4 HBWw4.out
  go_wp2_with fail
  refine HY3.out.mono ?_
  rintro e w50 ⟨hb, rfl⟩
  unfold zeroO opRow
  have hb2 : Below w50.heap.size w50 (w50.alloc (.cells #[.int .i64 0, .bool false, .bool false, .bool false, .bool false, .bool false, .bool false, .bool false, .bool false, .bool false, .bool false, .slice none 0 0, .slice none 0 0, .slice none 0 0] 47)) := (Below.refl _ w50).alloc (Nat.le_refl _) _
  have hbb := hb.trans (hb2.mono hb.size)
  have hr := heap_alloc_last w50 (.cells #[.int .i64 0, .bool false, .bool false, .bool false, .bool false, .bool false, .bool false, .bool false, .bool false, .bool false, .bool false, .slice none 0 0, .slice none 0 0, .slice none 0 0] 47)
  have hs : (w50.alloc (.cells #[.int .i64 0, .bool false, .bool false, .bool false, .bool false, .bool false, .bool false, .bool false, .bool false, .bool false, .bool false, .slice none 0 0, .slice none 0 0, .slice none 0 0] 47)).heap.size = w50.heap.size + 1 := World.size_alloc ..
  obtain ⟨w5, hv_w5⟩ : ∃ w2, w50.alloc (.cells #[.int .i64 0, .bool false, .bool false, .bool false, .bool false, .bool false, .bool false, .bool false, .bool false, .bool false, .bool false, .slice none 0 0, .slice none 0 0, .slice none 0 0] 47) = w2 := ⟨_, rfl⟩
  rw [hv_w5] at hb2 hbb hr hs
  replace HRw3 := Lib.hid ((hbb.block _ (lt_of_block HRw3.out)).trans HRw3.out)
  replace HRw4 := Lib.hid ((hbb.block _ (lt_of_block HRw4.out)).trans HRw4.out)
  replace HCA := Lib.hid ((hbb.cell (p := ⟨lb, k, none⟩) (World.block_lt_of_cell? _ _ HCA.out)).trans HCA.out)
  replace HCB := Lib.hid ((hbb.cell (p := ⟨lb + 1, k, none⟩) (World.block_lt_of_cell? _ _ HCB.out)).trans HCB.out)
  have HBWw5 := Lib.hid (HBWw4.out.trans (hbb.mono HBWw4.out.size))
  obtain ⟨bw5, hbk⟩ : ∃ x, w50.heap.size = x := ⟨_, rfl⟩
  rw [hbk] at hs hr
  have HSw5 := Lib.hid hs
  have HRw5 := Lib.hid hr
  have HV := Lib.hid hv_w5
  have HK := Lib.hid hbk
  clear hv_w5 hbk
  clear hb hb2 hbb hr hs HY3 HX3 
  go_upto_region 9 with fail
  rw [HV.out]
  rw [HK.out]
  clear HV HK
  clear cA
  go_wp2_with fail
  refine (HDC.out w5).mono ?_
  rintro e w5' ⟨rfl, hw5⟩
  obtain rfl := hw5.symm
  clear HDC
  rcases HJ.out with ⟨g1, g2, g3, g4⟩ | ⟨g1, g3, g4⟩
  · rw [g3] at HX4
    rw [g4] at HX5
    clear g3 g4 HJ
    have HY4 : Hid (Calls Tryd.prog 28 #[.slice (some ⟨w5.heap.size, 0, none⟩) 1 1, .string ⟨#[]⟩] (w5.alloc (.cells #[.string D1] 9)) fun e w' => PsA w5 (some { x0 with j := jobs }) e w') := HX4.out w5 HBWw5.out
    go_wp2_with fail
    refine HY4.out.mono ?_
    rintro e w60 ⟨hb, v, rfl, vf, vg, vv, hv, of, og, ov⟩
    obtain ⟨CF, Cf, rfl, _, _⟩ := of.form
    obtain ⟨CG, Cg, rfl, _, _⟩ := og.form
    obtain ⟨CV, Cv, rfl, _, _⟩ := ov.form
    obtain rfl : v = .agg #[.int .i64 jobs, .bool (false), .bool (false), .bool (false), .bool (false), .bool (false), .bool (false), .bool (false), .bool (false), .bool (false), .bool false, .slice CF 0 Cf, .slice CG 0 Cg, .slice CV 0 Cv] := hv
    have hb2 : Below w60.heap.size w60 (w60.alloc (.cells #[.int .i64 jobs, .bool (false), .bool (false), .bool (false), .bool (false), .bool (false), .bool (false), .bool (false), .bool (false), .bool (false), .bool false, .slice CF 0 Cf, .slice CG 0 Cg, .slice CV 0 Cv] 47)) := (Below.refl _ w60).alloc (Nat.le_refl _) _
    have hbb := hb.trans (hb2.mono hb.size)
    have hr := heap_alloc_last w60 (.cells #[.int .i64 jobs, .bool (false), .bool (false), .bool (false), .bool (false), .bool (false), .bool (false), .bool (false), .bool (false), .bool (false), .bool false, .slice CF 0 Cf, .slice CG 0 Cg, .slice CV 0 Cv] 47)
    have hs : (w60.alloc (.cells #[.int .i64 jobs, .bool (false), .bool (false), .bool (false), .bool (false), .bool (false), .bool (false), .bool (false), .bool (false), .bool (false), .bool false, .slice CF 0 Cf, .slice CG 0 Cg, .slice CV 0 Cv] 47)).heap.size = w60.heap.size + 1 := World.size_alloc ..
    obtain ⟨w6, hv_w6⟩ : ∃ w2, w60.alloc (.cells #[.int .i64 jobs, .bool (false), .bool (false), .bool (false), .bool (false), .bool (false), .bool (false), .bool (false), .bool (false), .bool (false), .bool false, .slice CF 0 Cf, .slice CG 0 Cg, .slice CV 0 Cv] 47) = w2 := ⟨_, rfl⟩
    rw [hv_w6] at hb2 hbb hr hs
    replace HRw3 := Lib.hid ((hbb.block _ (lt_of_block HRw3.out)).trans HRw3.out)
    replace HRw4 := Lib.hid ((hbb.block _ (lt_of_block HRw4.out)).trans HRw4.out)
    replace HCA := Lib.hid ((hbb.cell (p := ⟨lb, k, none⟩) (World.block_lt_of_cell? _ _ HCA.out)).trans HCA.out)
    replace HCB := Lib.hid ((hbb.cell (p := ⟨lb + 1, k, none⟩) (World.block_lt_of_cell? _ _ HCB.out)).trans HCB.out)
    have HBWw6 := Lib.hid (HBWw5.out.trans (hbb.mono HBWw5.out.size))
    obtain ⟨bw6, hbk⟩ : ∃ x, w60.heap.size = x := ⟨_, rfl⟩
    rw [hbk] at hs hr
    have HSw6 := Lib.hid hs
    have HRw6 := Lib.hid hr
    have HV := Lib.hid hv_w6
    have HK := Lib.hid hbk
    clear hv_w6 hbk
    clear hb hb2 hbb hr hs HY4 HX4 of og ov
    go_upto_region 11 with fail
    rw [HV.out]
    rw [HK.out]
    clear HV HK
    have HY5 : Hid (Calls Tryd.prog 28 #[.slice (some ⟨w6.heap.size, 0, none⟩) 4 4, .string ⟨#[]⟩] (w6.alloc (.cells #[.string D3, .string ⟨#[45, 102]⟩, .string ⟨#[109]⟩, .string ⟨#[45, 102, 110]⟩] 9)) fun e w' => PsA w6 (some { x0 with j := jobs, bs := upd x0.bs 1, fs := [⟨#[109]⟩, ⟨#[110]⟩] }) e w') := HX5.out w6 HBWw6.out
    go_wp2_with fail
    refine HY5.out.mono ?_
    rintro e w70 ⟨hb, v, rfl, vf, vg, vv, hv, of, og, ov⟩
    obtain ⟨KF, Kf, rfl, _, _⟩ := of.form
    obtain ⟨KG, Kg, rfl, _, _⟩ := og.form
    obtain ⟨KV, Kv, rfl, _, _⟩ := ov.form
    obtain rfl : v = .agg #[.int .i64 jobs, .bool (true), .bool (false), .bool (false), .bool (false), .bool (false), .bool (false), .bool (false), .bool (false), .bool (false), .bool false, .slice KF 2 Kf, .slice KG 0 Kg, .slice KV 0 Kv] := hv
    have hb2 : Below w70.heap.size w70 (w70.alloc (.cells #[.int .i64 jobs, .bool (true), .bool (false), .bool (false), .bool (false), .bool (false), .bool (false), .bool (false), .bool (false), .bool (false), .bool false, .slice KF 2 Kf, .slice KG 0 Kg, .slice KV 0 Kv] 47)) := (Below.refl _ w70).alloc (Nat.le_refl _) _
    have hbb := hb.trans (hb2.mono hb.size)
    have hr := heap_alloc_last w70 (.cells #[.int .i64 jobs, .bool (true), .bool (false), .bool (false), .bool (false), .bool (false), .bool (false), .bool (false), .bool (false), .bool (false), .bool false, .slice KF 2 Kf, .slice KG 0 Kg, .slice KV 0 Kv] 47)
    have hs : (w70.alloc (.cells #[.int .i64 jobs, .bool (true), .bool (false), .bool (false), .bool (false), .bool (false), .bool (false), .bool (false), .bool (false), .bool (false), .bool false, .slice KF 2 Kf, .slice KG 0 Kg, .slice KV 0 Kv] 47)).heap.size = w70.heap.size + 1 := World.size_alloc ..
    obtain ⟨w7, hv_w7⟩ : ∃ w2, w70.alloc (.cells #[.int .i64 jobs, .bool (true), .bool (false), .bool (false), .bool (false), .bool (false), .bool (false), .bool (false), .bool (false), .bool (false), .bool false, .slice KF 2 Kf, .slice KG 0 Kg, .slice KV 0 Kv] 47) = w2 := ⟨_, rfl⟩
    rw [hv_w7] at hb2 hbb hr hs
    replace HRw3 := Lib.hid ((hbb.block _ (lt_of_block HRw3.out)).trans HRw3.out)
    replace HRw4 := Lib.hid ((hbb.block _ (lt_of_block HRw4.out)).trans HRw4.out)
    replace HRw6 := Lib.hid ((hbb.block _ (lt_of_block HRw6.out)).trans HRw6.out)
    replace HCA := Lib.hid ((hbb.cell (p := ⟨lb, k, none⟩) (World.block_lt_of_cell? _ _ HCA.out)).trans HCA.out)
    replace HCB := Lib.hid ((hbb.cell (p := ⟨lb + 1, k, none⟩) (World.block_lt_of_cell? _ _ HCB.out)).trans HCB.out)
    have HKL := Lib.hid ((of.strs).below hb2)
    have HBWw7 := Lib.hid (HBWw6.out.trans (hbb.mono HBWw6.out.size))
    obtain ⟨bw7, hbk⟩ : ∃ x, w70.heap.size = x := ⟨_, rfl⟩
    rw [hbk] at hs hr
    have HSw7 := Lib.hid hs
    have HRw7 := Lib.hid hr
    have HV := Lib.hid hv_w7
    have HK := Lib.hid hbk
    clear hv_w7 hbk
    clear hb hb2 hbb hr hs HY5 HX5 of og ov
    go_upto_region 12 with fail
    rw [HV.out]
    rw [HK.out]
    clear HV HK
    have HY6 : Hid (Calls Tryd.prog 28 #[.slice (some ⟨w7.heap.size, 0, none⟩) 1 1, .string ⟨#[]⟩] (w7.alloc (.cells #[.string ⟨#[45, 106]⟩] 9)) fun e w' => PsA w7 none e w') := HX6.out w7 HBWw7.out
    go_wp2_with fail
    refine HY6.out.mono ?_
    rintro e w80 ⟨hb, rfl⟩
    unfold zeroO opRow
    have hb2 : Below w80.heap.size w80 (w80.alloc (.cells #[.int .i64 0, .bool false, .bool false, .bool false, .bool false, .bool false, .bool false, .bool false, .bool false, .bool false, .bool false, .slice none 0 0, .slice none 0 0, .slice none 0 0] 47)) := (Below.refl _ w80).alloc (Nat.le_refl _) _
    have hbb := hb.trans (hb2.mono hb.size)
    have hr := heap_alloc_last w80 (.cells #[.int .i64 0, .bool false, .bool false, .bool false, .bool false, .bool false, .bool false, .bool false, .bool false, .bool false, .bool false, .slice none 0 0, .slice none 0 0, .slice none 0 0] 47)
    have hs : (w80.alloc (.cells #[.int .i64 0, .bool false, .bool false, .bool false, .bool false, .bool false, .bool false, .bool false, .bool false, .bool false, .bool false, .slice none 0 0, .slice none 0 0, .slice none 0 0] 47)).heap.size = w80.heap.size + 1 := World.size_alloc ..
    obtain ⟨w8, hv_w8⟩ : ∃ w2, w80.alloc (.cells #[.int .i64 0, .bool false, .bool false, .bool false, .bool false, .bool false, .bool false, .bool false, .bool false, .bool false, .bool false, .slice none 0 0, .slice none 0 0, .slice none 0 0] 47) = w2 := ⟨_, rfl⟩
    rw [hv_w8] at hb2 hbb hr hs
    replace HRw3 := Lib.hid ((hbb.block _ (lt_of_block HRw3.out)).trans HRw3.out)
    replace HRw4 := Lib.hid ((hbb.block _ (lt_of_block HRw4.out)).trans HRw4.out)
    replace HRw6 := Lib.hid ((hbb.block _ (lt_of_block HRw6.out)).trans HRw6.out)
    replace HRw7 := Lib.hid ((hbb.block _ (lt_of_block HRw7.out)).trans HRw7.out)
    replace HKL := Lib.hid (HKL.out.below hbb)
    replace HCA := Lib.hid ((hbb.cell (p := ⟨lb, k, none⟩) (World.block_lt_of_cell? _ _ HCA.out)).trans HCA.out)
    replace HCB := Lib.hid ((hbb.cell (p := ⟨lb + 1, k, none⟩) (World.block_lt_of_cell? _ _ HCB.out)).trans HCB.out)
    have HBWw8 := Lib.hid (HBWw7.out.trans (hbb.mono HBWw7.out.size))
    obtain ⟨bw8, hbk⟩ : ∃ x, w80.heap.size = x := ⟨_, rfl⟩
    rw [hbk] at hs hr
    have HSw8 := Lib.hid hs
    have HRw8 := Lib.hid hr
    have HV := Lib.hid hv_w8
    have HK := Lib.hid hbk
    clear hv_w8 hbk
    clear hb hb2 hbb hr hs HY6 HX6 
    go_upto_region 13 with fail
    rw [HV.out]
    rw [HK.out]
    clear HV HK
    have p0 := (rowo HRw3.out (j := 0) (v := .int .i64 1) rfl).1
    have q0 := (rowo HRw4.out (j := 0) (v := .int .i64 1) rfl).1
    have p1 := (rowo HRw3.out (j := 1) (v := .bool (bsn 1)) rfl).1
    have q1 := (rowo HRw4.out (j := 1) (v := .bool (bsn 1)) rfl).1
    have p2 := (rowo HRw3.out (j := 2) (v := .bool (bsn 2)) rfl).1
    have q2 := (rowo HRw4.out (j := 2) (v := .bool (bsn 2)) rfl).1
    have p3 := (rowo HRw3.out (j := 3) (v := .bool (bsn 3)) rfl).1
    have q3 := (rowo HRw4.out (j := 3) (v := .bool (bsn 3)) rfl).1
    have p4 := (rowo HRw3.out (j := 4) (v := .bool (bsn 4)) rfl).1
    have q4 := (rowo HRw4.out (j := 4) (v := .bool (bsn 4)) rfl).1
    have p5 := (rowo HRw3.out (j := 5) (v := .bool (bsn 5)) rfl).1
    have q5 := (rowo HRw4.out (j := 5) (v := .bool (bsn 5)) rfl).1
    have p6 := (rowo HRw3.out (j := 6) (v := .bool (bsn 6)) rfl).1
    have q6 := (rowo HRw4.out (j := 6) (v := .bool (bsn 6)) rfl).1
    have p7 := (rowo HRw3.out (j := 7) (v := .bool (bsn 7)) rfl).1
    have q7 := (rowo HRw4.out (j := 7) (v := .bool (bsn 7)) rfl).1
    have p8 := (rowo HRw3.out (j := 8) (v := .bool (bsn 8)) rfl).1
    have q8 := (rowo HRw4.out (j := 8) (v := .bool (bsn 8)) rfl).1
    have p9 := (rowo HRw3.out (j := 9) (v := .bool (bsn 9)) rfl).1
    have q9 := (rowo HRw4.out (j := 9) (v := .bool (bsn 9)) rfl).1
    have p10 := (rowo HRw3.out (j := 10) (v := .bool false) rfl).1
    have q10 := (rowo HRw4.out (j := 10) (v := .bool false) rfl).1
    have p11 := (rowo HRw3.out (j := 11) (v := .slice AF 0 Af) rfl).1
    have q11 := (rowo HRw4.out (j := 11) (v := .slice BF 0 Bf) rfl).1
    have p12 := (rowo HRw3.out (j := 12) (v := .slice AG 0 Ag) rfl).1
    have q12 := (rowo HRw4.out (j := 12) (v := .slice BG 0 Bg) rfl).1
    have p13 := (rowo HRw3.out (j := 13) (v := .slice AV 0 Av) rfl).1
    have q13 := (rowo HRw4.out (j := 13) (v := .slice BV 0 Bv) rfl).1
    have HSM : Hid (Calls Tryd.prog 30 #[.agg #[.int .i64 1, .bool (bsn 1), .bool (bsn 2), .bool (bsn 3), .bool (bsn 4), .bool (bsn 5), .bool (bsn 6), .bool (bsn 7), .bool (bsn 8), .bool (bsn 9), .bool false, .slice AF 0 Af, .slice AG 0 Ag, .slice AV 0 Av], .agg #[.int .i64 1, .bool (bsn 1), .bool (bsn 2), .bool (bsn 3), .bool (bsn 4), .bool (bsn 5), .bool (bsn 6), .bool (bsn 7), .bool (bsn 8), .bool (bsn 9), .bool false, .slice BF 0 Bf, .slice BG 0 Bg, .slice BV 0 Bv]] w8 fun e w' => e = .returned (.bool true) ∧ Below w8.heap.size w8 w') :=
      SameO_any w8 1 bsn bsn false AF AG AV BF BG BV Af Ag Av Bf Bg Bv [] [] [] (fun _ _ _ => rfl) (StrsAt.none_ _ _) (StrsAt.none_ _ _) (StrsAt.none_ _ _) (StrsAt.none_ _ _) (StrsAt.none_ _ _) (StrsAt.none_ _ _) (by decide) (by decide) (by decide)
    go_wp2_with fail
    refine (numO_any 0 _).mono ?_
    rintro e w' ⟨rfl, hw'⟩
    obtain rfl := hw'.symm
    go_wp2_with fail
    refine (numO_any 0 _).mono ?_
    rintro e w' ⟨rfl, hw'⟩
    obtain rfl := hw'.symm
    go_wp2_with fail
    refine HSM.out.mono ?_
    rintro e w9 ⟨rfl, hb9⟩
    have HR6 := Lib.hid ((hb9.block _ (lt_of_block HRw6.out)).trans HRw6.out)
    have HR7 := Lib.hid ((hb9.block _ (lt_of_block HRw7.out)).trans HRw7.out)
    have HKL9 := Lib.hid (HKL.out.below hb9)
    have HB9 := Lib.hid (HBWw8.out.trans (hb9.mono HBWw8.out.size))
    clear hb9 HSM HRw3 HRw4 p0 q0 p1 q1 p2 q2 p3 q3 p4 q4 p5 q5 p6 q6 p7 q7 p8 q8 p9 q9 p10 q10 p11 q11 p12 q12 p13 q13
    go_wp2_with fail
    refine (numO_any 60 _).mono ?_
    rintro e w' ⟨rfl, hw'⟩
    obtain rfl := hw'.symm
    go_wp2_with fail
    refine (numO_any 60 _).mono ?_
    rintro e w' ⟨rfl, hw'⟩
    obtain rfl := hw'.symm
    go_wp2_with fail
    refine (numO_any 0 _).mono ?_
    rintro e w' ⟨rfl, hw'⟩
    obtain rfl := hw'.symm
    go_wp2_with fail
    refine (numO_any 0 _).mono ?_
    rintro e w' ⟨rfl, hw'⟩
    obtain rfl := hw'.symm
    have g5 : ¬ jobs < 1 := by omega
    have g6 : ¬ 16 < jobs := by omega
    have c0 := (rowo HR6.out (j := 0) (v := .int .i64 jobs) rfl).1
    have d0 := (rowo HR7.out (j := 0) (v := .int .i64 jobs) rfl).1
    have d1 := (rowo HR7.out (j := 1) (v := .bool true) rfl).1
    have d11 := (rowo HR7.out (j := 11) (v := .slice KF 2 Kf) rfl).1
    obtain ⟨kb, ko, rfl, e0⟩ := HKL9.out 0 ⟨#[109]⟩ rfl
    rw [Nat.add_zero] at e0
    obtain ⟨kb2, ko2, hk2, e1⟩ := HKL9.out 1 ⟨#[110]⟩ rfl
    cases hk2
    have hjj : (jobs == jobs) = true := beq_self_eq_true _
    go_wp2_with fail
    refine (numO_any 0 _).mono ?_
    rintro e w' ⟨rfl, hw'⟩
    obtain rfl := hw'.symm
    go_wp2
    go_ret
    exact ⟨rfl, HB9.out⟩
  · rw [g3] at HX4
    rw [g4] at HX5
    clear g3 g4 HJ
    have HY4 : Hid (Calls Tryd.prog 28 #[.slice (some ⟨w5.heap.size, 0, none⟩) 1 1, .string ⟨#[]⟩] (w5.alloc (.cells #[.string D1] 9)) fun e w' => PsA w5 none e w') := HX4.out w5 HBWw5.out
    go_wp2_with fail
    refine HY4.out.mono ?_
    rintro e w60 ⟨hb, rfl⟩
    unfold zeroO opRow
    have hb2 : Below w60.heap.size w60 (w60.alloc (.cells #[.int .i64 0, .bool false, .bool false, .bool false, .bool false, .bool false, .bool false, .bool false, .bool false, .bool false, .bool false, .slice none 0 0, .slice none 0 0, .slice none 0 0] 47)) := (Below.refl _ w60).alloc (Nat.le_refl _) _
    have hbb := hb.trans (hb2.mono hb.size)
    have hr := heap_alloc_last w60 (.cells #[.int .i64 0, .bool false, .bool false, .bool false, .bool false, .bool false, .bool false, .bool false, .bool false, .bool false, .bool false, .slice none 0 0, .slice none 0 0, .slice none 0 0] 47)
    have hs : (w60.alloc (.cells #[.int .i64 0, .bool false, .bool false, .bool false, .bool false, .bool false, .bool false, .bool false, .bool false, .bool false, .bool false, .slice none 0 0, .slice none 0 0, .slice none 0 0] 47)).heap.size = w60.heap.size + 1 := World.size_alloc ..
    obtain ⟨w6, hv_w6⟩ : ∃ w2, w60.alloc (.cells #[.int .i64 0, .bool false, .bool false, .bool false, .bool false, .bool false, .bool false, .bool false, .bool false, .bool false, .bool false, .slice none 0 0, .slice none 0 0, .slice none 0 0] 47) = w2 := ⟨_, rfl⟩
    rw [hv_w6] at hb2 hbb hr hs
    replace HRw3 := Lib.hid ((hbb.block _ (lt_of_block HRw3.out)).trans HRw3.out)
    replace HRw4 := Lib.hid ((hbb.block _ (lt_of_block HRw4.out)).trans HRw4.out)
    replace HCA := Lib.hid ((hbb.cell (p := ⟨lb, k, none⟩) (World.block_lt_of_cell? _ _ HCA.out)).trans HCA.out)
    replace HCB := Lib.hid ((hbb.cell (p := ⟨lb + 1, k, none⟩) (World.block_lt_of_cell? _ _ HCB.out)).trans HCB.out)
    have HBWw6 := Lib.hid (HBWw5.out.trans (hbb.mono HBWw5.out.size))
    obtain ⟨bw6, hbk⟩ : ∃ x, w60.heap.size = x := ⟨_, rfl⟩
    rw [hbk] at hs hr
    have HSw6 := Lib.hid hs
    have HRw6 := Lib.hid hr
    have HV := Lib.hid hv_w6
    have HK := Lib.hid hbk
    clear hv_w6 hbk
    clear hb hb2 hbb hr hs HY4 HX4 
    go_upto_region 11 with fail
    rw [HV.out]
    rw [HK.out]
    clear HV HK
    have HY5 : Hid (Calls Tryd.prog 28 #[.slice (some ⟨w6.heap.size, 0, none⟩) 4 4, .string ⟨#[]⟩] (w6.alloc (.cells #[.string D3, .string ⟨#[45, 102]⟩, .string ⟨#[109]⟩, .string ⟨#[45, 102, 110]⟩] 9)) fun e w' => PsA w6 none e w') := HX5.out w6 HBWw6.out
    go_wp2_with fail
    refine HY5.out.mono ?_
    rintro e w70 ⟨hb, rfl⟩
    unfold zeroO opRow
    have hb2 : Below w70.heap.size w70 (w70.alloc (.cells #[.int .i64 0, .bool false, .bool false, .bool false, .bool false, .bool false, .bool false, .bool false, .bool false, .bool false, .bool false, .slice none 0 0, .slice none 0 0, .slice none 0 0] 47)) := (Below.refl _ w70).alloc (Nat.le_refl _) _
    have hbb := hb.trans (hb2.mono hb.size)
    have hr := heap_alloc_last w70 (.cells #[.int .i64 0, .bool false, .bool false, .bool false, .bool false, .bool false, .bool false, .bool false, .bool false, .bool false, .bool false, .slice none 0 0, .slice none 0 0, .slice none 0 0] 47)
    have hs : (w70.alloc (.cells #[.int .i64 0, .bool false, .bool false, .bool false, .bool false, .bool false, .bool false, .bool false, .bool false, .bool false, .bool false, .slice none 0 0, .slice none 0 0, .slice none 0 0] 47)).heap.size = w70.heap.size + 1 := World.size_alloc ..
    obtain ⟨w7, hv_w7⟩ : ∃ w2, w70.alloc (.cells #[.int .i64 0, .bool false, .bool false, .bool false, .bool false, .bool false, .bool false, .bool false, .bool false, .bool false, .bool false, .slice none 0 0, .slice none 0 0, .slice none 0 0] 47) = w2 := ⟨_, rfl⟩
    rw [hv_w7] at hb2 hbb hr hs
    replace HRw3 := Lib.hid ((hbb.block _ (lt_of_block HRw3.out)).trans HRw3.out)
    replace HRw4 := Lib.hid ((hbb.block _ (lt_of_block HRw4.out)).trans HRw4.out)
    replace HCA := Lib.hid ((hbb.cell (p := ⟨lb, k, none⟩) (World.block_lt_of_cell? _ _ HCA.out)).trans HCA.out)
    replace HCB := Lib.hid ((hbb.cell (p := ⟨lb + 1, k, none⟩) (World.block_lt_of_cell? _ _ HCB.out)).trans HCB.out)
    have HBWw7 := Lib.hid (HBWw6.out.trans (hbb.mono HBWw6.out.size))
    obtain ⟨bw7, hbk⟩ : ∃ x, w70.heap.size = x := ⟨_, rfl⟩
    rw [hbk] at hs hr
    have HSw7 := Lib.hid hs
    have HRw7 := Lib.hid hr
    have HV := Lib.hid hv_w7
    have HK := Lib.hid hbk
    clear hv_w7 hbk
    clear hb hb2 hbb hr hs HY5 HX5 
    go_upto_region 12 with fail
    rw [HV.out]
    rw [HK.out]
    clear HV HK
    have HY6 : Hid (Calls Tryd.prog 28 #[.slice (some ⟨w7.heap.size, 0, none⟩) 1 1, .string ⟨#[]⟩] (w7.alloc (.cells #[.string ⟨#[45, 106]⟩] 9)) fun e w' => PsA w7 none e w') := HX6.out w7 HBWw7.out
    go_wp2_with fail
    refine HY6.out.mono ?_
    rintro e w80 ⟨hb, rfl⟩
    unfold zeroO opRow
    have hb2 : Below w80.heap.size w80 (w80.alloc (.cells #[.int .i64 0, .bool false, .bool false, .bool false, .bool false, .bool false, .bool false, .bool false, .bool false, .bool false, .bool false, .slice none 0 0, .slice none 0 0, .slice none 0 0] 47)) := (Below.refl _ w80).alloc (Nat.le_refl _) _
    have hbb := hb.trans (hb2.mono hb.size)
    have hr := heap_alloc_last w80 (.cells #[.int .i64 0, .bool false, .bool false, .bool false, .bool false, .bool false, .bool false, .bool false, .bool false, .bool false, .bool false, .slice none 0 0, .slice none 0 0, .slice none 0 0] 47)
    have hs : (w80.alloc (.cells #[.int .i64 0, .bool false, .bool false, .bool false, .bool false, .bool false, .bool false, .bool false, .bool false, .bool false, .bool false, .slice none 0 0, .slice none 0 0, .slice none 0 0] 47)).heap.size = w80.heap.size + 1 := World.size_alloc ..
    obtain ⟨w8, hv_w8⟩ : ∃ w2, w80.alloc (.cells #[.int .i64 0, .bool false, .bool false, .bool false, .bool false, .bool false, .bool false, .bool false, .bool false, .bool false, .bool false, .slice none 0 0, .slice none 0 0, .slice none 0 0] 47) = w2 := ⟨_, rfl⟩
    rw [hv_w8] at hb2 hbb hr hs
    replace HRw3 := Lib.hid ((hbb.block _ (lt_of_block HRw3.out)).trans HRw3.out)
    replace HRw4 := Lib.hid ((hbb.block _ (lt_of_block HRw4.out)).trans HRw4.out)
    replace HCA := Lib.hid ((hbb.cell (p := ⟨lb, k, none⟩) (World.block_lt_of_cell? _ _ HCA.out)).trans HCA.out)
    replace HCB := Lib.hid ((hbb.cell (p := ⟨lb + 1, k, none⟩) (World.block_lt_of_cell? _ _ HCB.out)).trans HCB.out)
    have HBWw8 := Lib.hid (HBWw7.out.trans (hbb.mono HBWw7.out.size))
    obtain ⟨bw8, hbk⟩ : ∃ x, w80.heap.size = x := ⟨_, rfl⟩
    rw [hbk] at hs hr
    have HSw8 := Lib.hid hs
    have HRw8 := Lib.hid hr
    have HV := Lib.hid hv_w8
    have HK := Lib.hid hbk
    clear hv_w8 hbk
    clear hb hb2 hbb hr hs HY6 HX6 
    go_upto_region 13 with fail
    rw [HV.out]
    rw [HK.out]
    clear HV HK
    have p0 := (rowo HRw3.out (j := 0) (v := .int .i64 1) rfl).1
    have q0 := (rowo HRw4.out (j := 0) (v := .int .i64 1) rfl).1
    have p1 := (rowo HRw3.out (j := 1) (v := .bool (bsn 1)) rfl).1
    have q1 := (rowo HRw4.out (j := 1) (v := .bool (bsn 1)) rfl).1
    have p2 := (rowo HRw3.out (j := 2) (v := .bool (bsn 2)) rfl).1
    have q2 := (rowo HRw4.out (j := 2) (v := .bool (bsn 2)) rfl).1
    have p3 := (rowo HRw3.out (j := 3) (v := .bool (bsn 3)) rfl).1
    have q3 := (rowo HRw4.out (j := 3) (v := .bool (bsn 3)) rfl).1
    have p4 := (rowo HRw3.out (j := 4) (v := .bool (bsn 4)) rfl).1
    have q4 := (rowo HRw4.out (j := 4) (v := .bool (bsn 4)) rfl).1
    have p5 := (rowo HRw3.out (j := 5) (v := .bool (bsn 5)) rfl).1
    have q5 := (rowo HRw4.out (j := 5) (v := .bool (bsn 5)) rfl).1
    have p6 := (rowo HRw3.out (j := 6) (v := .bool (bsn 6)) rfl).1
    have q6 := (rowo HRw4.out (j := 6) (v := .bool (bsn 6)) rfl).1
    have p7 := (rowo HRw3.out (j := 7) (v := .bool (bsn 7)) rfl).1
    have q7 := (rowo HRw4.out (j := 7) (v := .bool (bsn 7)) rfl).1
    have p8 := (rowo HRw3.out (j := 8) (v := .bool (bsn 8)) rfl).1
    have q8 := (rowo HRw4.out (j := 8) (v := .bool (bsn 8)) rfl).1
    have p9 := (rowo HRw3.out (j := 9) (v := .bool (bsn 9)) rfl).1
    have q9 := (rowo HRw4.out (j := 9) (v := .bool (bsn 9)) rfl).1
    have p10 := (rowo HRw3.out (j := 10) (v := .bool false) rfl).1
    have q10 := (rowo HRw4.out (j := 10) (v := .bool false) rfl).1
    have p11 := (rowo HRw3.out (j := 11) (v := .slice AF 0 Af) rfl).1
    have q11 := (rowo HRw4.out (j := 11) (v := .slice BF 0 Bf) rfl).1
    have p12 := (rowo HRw3.out (j := 12) (v := .slice AG 0 Ag) rfl).1
    have q12 := (rowo HRw4.out (j := 12) (v := .slice BG 0 Bg) rfl).1
    have p13 := (rowo HRw3.out (j := 13) (v := .slice AV 0 Av) rfl).1
    have q13 := (rowo HRw4.out (j := 13) (v := .slice BV 0 Bv) rfl).1
    have HSM : Hid (Calls Tryd.prog 30 #[.agg #[.int .i64 1, .bool (bsn 1), .bool (bsn 2), .bool (bsn 3), .bool (bsn 4), .bool (bsn 5), .bool (bsn 6), .bool (bsn 7), .bool (bsn 8), .bool (bsn 9), .bool false, .slice AF 0 Af, .slice AG 0 Ag, .slice AV 0 Av], .agg #[.int .i64 1, .bool (bsn 1), .bool (bsn 2), .bool (bsn 3), .bool (bsn 4), .bool (bsn 5), .bool (bsn 6), .bool (bsn 7), .bool (bsn 8), .bool (bsn 9), .bool false, .slice BF 0 Bf, .slice BG 0 Bg, .slice BV 0 Bv]] w8 fun e w' => e = .returned (.bool true) ∧ Below w8.heap.size w8 w') :=
      SameO_any w8 1 bsn bsn false AF AG AV BF BG BV Af Ag Av Bf Bg Bv [] [] [] (fun _ _ _ => rfl) (StrsAt.none_ _ _) (StrsAt.none_ _ _) (StrsAt.none_ _ _) (StrsAt.none_ _ _) (StrsAt.none_ _ _) (StrsAt.none_ _ _) (by decide) (by decide) (by decide)
    go_wp2_with fail
    refine (numO_any 0 _).mono ?_
    rintro e w' ⟨rfl, hw'⟩
    obtain rfl := hw'.symm
    go_wp2_with fail
    refine (numO_any 0 _).mono ?_
    rintro e w' ⟨rfl, hw'⟩
    obtain rfl := hw'.symm
    go_wp2_with fail
    refine HSM.out.mono ?_
    rintro e w9 ⟨rfl, hb9⟩
    have HB9 := Lib.hid (HBWw8.out.trans (hb9.mono HBWw8.out.size))
    clear hb9 HSM HRw3 HRw4 p0 q0 p1 q1 p2 q2 p3 q3 p4 q4 p5 q5 p6 q6 p7 q7 p8 q8 p9 q9 p10 q10 p11 q11 p12 q12 p13 q13
    go_wp2_with fail
    refine (numO_any 60 _).mono ?_
    rintro e w' ⟨rfl, hw'⟩
    obtain rfl := hw'.symm
    go_wp2_with fail
    refine (numO_any 60 _).mono ?_
    rintro e w' ⟨rfl, hw'⟩
    obtain rfl := hw'.symm
    go_wp2_with fail
    refine (numO_any 60 _).mono ?_
    rintro e w' ⟨rfl, hw'⟩
    obtain rfl := hw'.symm
    go_wp2_with fail
    refine (numO_any 60 _).mono ?_
    rintro e w' ⟨rfl, hw'⟩
    obtain rfl := hw'.symm
    rcases g1 with g1 | g1
    · have g2 : ¬ (16 : Int) < jobs := by omega
      go_wp2_with fail
      refine (numO_any 60 _).mono ?_
      rintro e w' ⟨rfl, hw'⟩
      obtain rfl := hw'.symm
      go_wp2
      go_ret
      exact ⟨rfl, HB9.out⟩
    · have g2 : ¬ jobs < 1 := by omega
      go_wp2_with fail
      refine (numO_any 60 _).mono ?_
      rintro e w' ⟨rfl, hw'⟩
      obtain rfl := hw'.symm
      go_wp2
      go_ret
      exact ⟨rfl, HB9.out⟩
end Go.Proofs.YtmcemaphhlcjfaaDoor
