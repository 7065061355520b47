/- The store of variables: a map whose entries are variables, held as a list by rising names; what New, may, Set, Get, Undefine, Append answer and leave. -/
import Derived.Test.YtndoloohdloflabBase
import Derived.Maps.OwnSet
import Derived.Maps.AppendAt
import Derived.StringKeys
import Derived.RangeFuncBox
namespace Go.Proofs.Ytndoloohdloflab
open Go.RowKit Go.Maps

/-- a variable -/
structure Vr where
  name : ByteArray
  value : ByteArray
  flav : Int
  origin : Int
  export_ : Int
def Vr.val (v : Vr) : Value := .agg #[.string v.name, .string v.value, .int .i64 v.flav, .int .i64 v.origin, .int .i64 v.export_]
def vr0 : Vr := ⟨⟨#[]⟩, ⟨#[]⟩, 0, 0, 0⟩
def RV (v : Value) : Option (DataW Value × List MemPlace) := some (.held v, [])
def kl (b : ByteArray) : Lit := .string b.data.toList
def entV (v : Vr) : Lit × DataW Value := (kl v.name, .held v.val)
def dOf (l : List Vr) : DataW Value := .map (l.map entV)
def getV (l : List Vr) (k : ByteArray) : Option Vr := l.find? fun v => v.name.data.toList == k.data.toList
def insV (x : Vr) : List Vr → List Vr
  | [] => [x]
  | y :: r => if bytesBefore x.name.data.toList y.name.data.toList then x :: y :: r else y :: insV x r
def delV (l : List Vr) (k : ByteArray) : List Vr := l.filter fun v => !(v.name.data.toList == k.data.toList)
def putV (l : List Vr) (x : Vr) : List Vr := insV x (delV l x.name)

theorem ins_map (x : Vr) (l : List Vr) : DataW.insert (entV x) (l.map entV) = (insV x l).map entV := by
  induction l with
  | nil => rfl
  | cons y l ih =>
    have e : (entV x).1.before (entV y).1 = bytesBefore x.name.data.toList y.name.data.toList := rfl
    simp only [List.map_cons, DataW.insert, insV, e]
    split
    · rfl
    · rw [List.map_cons, ih]
theorem del_map (l : List Vr) (k : ByteArray) : (l.map entV).filter (fun p => !p.1.sameKey (kl k)) = (delV l k).map entV := by
  rw [List.filter_map]; rfl
theorem dOf_del (l : List Vr) (k : ByteArray) : (dOf l).del (kl k) = dOf (delV l k) := by
  show DataW.map _ = DataW.map _; rw [del_map]
theorem dOf_put (l : List Vr) (x : Vr) : (dOf l).put (kl x.name) (.held x.val) = dOf (putV l x) := by
  show DataW.map _ = DataW.map _
  rw [del_map]
  exact congrArg _ (ins_map x _)
theorem dOf_find (l : List Vr) (k : ByteArray) : (l.map entV).find? (fun p => p.1.sameKey (kl k)) = (getV l k).map entV := by
  rw [List.find?_map]; rfl
theorem any_find {α : Type} (p : α → Bool) (l : List α) : l.any p = (l.find? p).isSome := by
  induction l with
  | nil => rfl
  | cons x l ih => simp only [List.any_cons, List.find?_cons]; cases p x <;> simp [ih]
theorem dOf_has (l : List Vr) (k : ByteArray) : Maps.has (dOf l) (kl k) = (getV l k).isSome := by
  have h := congrArg Option.isSome (dOf_find l k)
  rw [Option.isSome_map] at h
  rw [← h]
  exact any_find _ _
theorem dOf_at (l : List Vr) (k : ByteArray) : (dOf l).atKey (kl k) (.held vr0.val) = .held ((getV l k).getD vr0).val := by
  unfold dOf DataW.atKey
  have h := dOf_find l k
  cases hg : getV l k <;> rw [hg] at h <;> simp [h] <;> rfl
theorem dOf_size (l : List Vr) : Maps.size (dOf l) = l.length := by simp [dOf, Maps.size]

theorem own_tight {H : Type} {P : Program} {k : TypeId} {R : Value → Option (DataW H × List MemPlace)} {w : World} {b n : Nat} {D : DataW H} (h : w.ownsMap P k R b n D) : w.ownsMap P k R b (Maps.size D) D := by
  obtain ⟨es, clock, hb, F, hs, rfl⟩ := h
  refine ⟨es, clock, hb, F, ?_, rfl⟩
  simp [Maps.size, length_sorted]

/-- the store at p, whose map is at m, has the variables l, by rising names -/
structure StoreAt (w : World) (p m : Nat) (l : List Vr) : Prop where
  box : Boxed w p 89 (.map (some m))
  map : w.ownsMap Try.prog 9 RV m l.length (dOf l)
  len : l.length ≤ 1000

theorem StoreAt.ne {w : World} {p m : Nat} {l : List Vr} (h : StoreAt w p m l) : p ≠ m := by
  rintro rfl
  obtain ⟨es, clock, hb, _⟩ := h.map
  have := h.box
  unfold Boxed at this
  rw [this] at hb; cases hb
theorem StoreAt.kept {w w' : World} {p m : Nat} {l : List Vr} (h : StoreAt w p m l) {row : Option Nat} (hg : w.grownBy w' row) (hp : some p ≠ row) (hm : some m ≠ row) : StoreAt w' p m l :=
  ⟨h.box.kept hg hp, h.map.kept hg hm, h.len⟩
theorem StoreAt.alloc {w : World} {p m : Nat} {l : List Vr} (h : StoreAt w p m l) (o : Obj) : StoreAt (w.alloc o) p m l := ⟨h.box.alloc o, h.map.alloc o, h.len⟩

theorem sk9 : Keyed Try.prog 9 := string_keyed Try.underlying9
theorem zero64 (w : World) : (zeroValue 64).run Try.prog w = .ok vr0.val w := by kernel_rfl

theorem New_any (w : World) : Calls Try.prog 37 #[] w fun e w' => ∃ p m, e = .returned (.pointer (some ⟨p, 0, none⟩)) ∧ StoreAt w' p m [] ∧ w.grownBy w' none ∧ w.heap.size ≤ p ∧ w.heap.size ≤ m := by
  have hmm := @run_makeMap Try.prog
  go_enter Try.func37, Try.ntmps37
  go_wp2
  go_ret
  have g : w.grownBy ((w.alloc (.map #[] 0)).alloc (.cells #[.map (some w.heap.size)] 89)) none := (World.grownBy_alloc w _ none).trans (World.grownBy_alloc _ _ none)
  refine ⟨_, _, rfl, ⟨?_, (World.ownsMap_made w _ _ _).alloc _, by simp⟩, g, by omega, Nat.le_refl _⟩
  have := Boxed.new (w.alloc (.map #[] 0)) 89 (.map (some w.heap.size))
  rw [World.size_alloc] at this
  exact this

theorem wpList_lookV (w : World) {ops : Array Oper} {rest : List Oper} {o : Oper} {a : Act} {Q : Exit → Act → World → Prop}
    (hg : o.guard = none) (mm x : Operand) (hop : o.op = Op.lookup 85 mm x true) (m n : Nat) (l : List Vr)
    (hm : a.eval mm = .map (some m)) (hown : w.ownsMap Try.prog 9 RV m n (dOf l)) (k : ByteArray) (hx : a.eval x = .string k) (hk : k.size ≤ maxLen)
    (r : Vr) (hr : (getV l k).getD vr0 = r) (f : Bool) (hf : (getV l k).isSome = f)
    (hK : wpList Try.prog ops Q rest (a.put o.dst (.tuple #[.agg #[.string r.name, .string r.value, .int .i64 r.flav, .int .i64 r.origin, .int .i64 r.export_], .bool f])) w) :
    wpList Try.prog ops Q (o :: rest) a w :=
  wpList_lookup_own_ok w hg mm x 85 hop 9 64 sk9 Try.underlying85 RV (zero64 _) (.held vr0.val) [] rfl m n _ hm hown _ _ hx (Go.WideMaps.keyOf_string_mk Try.underlying9 hk) (fun v ps hv => by
    have h2 := dOf_at l k
    have h1 := dOf_has l k
    unfold kl at h1 h2
    rw [h2, hr] at hv
    rw [h1, hf]
    obtain rfl : v = r.val := by simpa [RV] using congrArg (fun z => z.map Prod.fst) hv
    exact hK)
theorem wpList_lookV1 (w : World) {ops : Array Oper} {rest : List Oper} {o : Oper} {a : Act} {Q : Exit → Act → World → Prop}
    (hg : o.guard = none) (mm x : Operand) (hop : o.op = Op.lookup 85 mm x false) (m n : Nat) (l : List Vr)
    (hm : a.eval mm = .map (some m)) (hown : w.ownsMap Try.prog 9 RV m n (dOf l)) (k : ByteArray) (hx : a.eval x = .string k) (hk : k.size ≤ maxLen)
    (r : Vr) (hr : (getV l k).getD vr0 = r)
    (hK : wpList Try.prog ops Q rest (a.put o.dst (.agg #[.string r.name, .string r.value, .int .i64 r.flav, .int .i64 r.origin, .int .i64 r.export_])) w) :
    wpList Try.prog ops Q (o :: rest) a w := by
  refine wpList_plain hg fun K' hK' => ?_
  obtain ⟨v, ps, hrun, hv⟩ := hown.lookup sk9 Try.underlying85 (zero64 w) (zd := .held vr0.val) (zp := []) rfl (Go.WideMaps.keyOf_string_mk Try.underlying9 hk)
  have h2 := dOf_at l k
  unfold kl at h2
  rw [h2, hr] at hv
  obtain rfl : v = r.val := by simpa [RV] using congrArg (fun z => z.map Prod.fst) hv
  unfold Oper.wp
  simp [execOp, hop, hm, hx, hrun, Result.andThen]
  exact hK' _ _ hK

set_option maxRecDepth 100000 in
theorem may_any (w : World) (p m : Nat) (l : List Vr) (k : ByteArray) (hk : k.size ≤ 140737488351232) (o : Int) (H : StoreAt w p m l) :
    Calls Try.prog 61 #[.pointer (some ⟨p, 0, none⟩), .string k, .int .i64 o] w fun e w' => e = .returned (.bool (match getV l k with | some v => decide (v.origin ≤ o) | none => decide (l.length < 1000))) ∧ w.grownBy w' none := by
  have hb := H.box.cell
  have hlt := H.box.lt
  have HM := Lib.hid H.map
  have HK : Hid (k.size ≤ maxLen) := by unfold Hid maxLen; omega
  have g0 : w.grownBy (w.alloc (.cells #[.string ⟨#[]⟩, .string ⟨#[]⟩, .int .i64 0, .int .i64 0, .int .i64 0] 64)) none := World.grownBy_alloc w _ _
  clear H
  rcases hg : getV l k with _ | ⟨n0, v0, f0, o0, e0⟩
  · have HR : Hid ((getV l k).getD vr0 = vr0) := by unfold Hid; rw [hg]; rfl
    have HF : Hid ((getV l k).isSome = false) := by unfold Hid; rw [hg]; rfl
    go_enter Try.func61, Try.ntmps61
    go_wp2_with (first | (at_lookup; refine wpList_lookV _ rfl _ _ rfl m _ l rfl HM.out k rfl HK.out vr0 HR.out false HF.out ?_) | (at_len; refine wpList_len_own _ rfl _ 85 rfl 9 64 Try.underlying85 RV m _ _ rfl (HM.out.alloc _) ?_; rw [dOf_size]))
    go_ret
    exact ⟨ret_bool (by simp only [decide_eq_decide]; omega), World.grownBy_alloc _ _ _⟩
  · have HR : Hid ((getV l k).getD vr0 = ⟨n0, v0, f0, o0, e0⟩) := by unfold Hid; rw [hg]; rfl
    have HF : Hid ((getV l k).isSome = true) := by unfold Hid; rw [hg]; rfl
    go_enter Try.func61, Try.ntmps61
    go_wp2_with (at_lookup; refine wpList_lookV _ rfl _ _ rfl m _ l rfl HM.out k rfl HK.out _ HR.out true HF.out ?_)
    go_ret
    exact ⟨rfl, World.grownBy_alloc _ _ _⟩

set_option maxRecDepth 100000 in
theorem Get_any (w : World) (p m : Nat) (l : List Vr) (k : ByteArray) (hk : k.size ≤ 140737488351232) (H : StoreAt w p m l) :
    Calls Try.prog 46 #[.pointer (some ⟨p, 0, none⟩), .string k] w fun e w' => e = .returned (.tuple #[((getV l k).getD vr0).val, .bool (getV l k).isSome]) ∧ w.grownBy w' none := by
  have hb := H.box.cell
  have hlt := H.box.lt
  have HM := Lib.hid H.map
  have HK : Hid (k.size ≤ maxLen) := by unfold Hid maxLen; omega
  clear H
  obtain ⟨f, hf⟩ : ∃ f, (getV l k).isSome = f := ⟨_, rfl⟩
  obtain ⟨r, hr⟩ : ∃ r, (getV l k).getD vr0 = r := ⟨_, rfl⟩
  rw [hf, hr]
  have HF := Lib.hid hf
  have HR := Lib.hid hr
  clear hf hr
  obtain ⟨n0, v0, f0, o0, e0⟩ := r
  go_enter Try.func46, Try.ntmps46
  go_wp2_with (at_lookup; refine wpList_lookV _ rfl _ _ rfl m _ l rfl (HM.out.alloc _) k rfl HK.out _ HR.out _ HF.out ?_)
  refine bodyPost_ret (v := .tuple #[.agg #[.string n0, .string v0, .int .i64 f0, .int .i64 o0, .int .i64 e0], .bool f]) (by simp [results, Try.results46, go_sem]) rfl ⟨rfl, (World.grownBy_alloc w _ none).trans (World.grownBy_alloc _ _ none)⟩

def mayV (l : List Vr) (k : ByteArray) (o : Int) : Bool := match getV l k with | some v => decide (v.origin ≤ o) | none => decide (l.length < 1000)
def setV (l : List Vr) (k v : ByteArray) (f o : Int) : List Vr := if mayV l k o then putV l ⟨k, v, f, o, ((getV l k).getD vr0).export_⟩ else l

set_option maxRecDepth 100000 in
theorem Set_any (w : World) (p m : Nat) (l : List Vr) (k v : ByteArray) (hk : k.size ≤ 140737488351232) (f o : Int) (H : StoreAt w p m l) :
    Calls Try.prog 38 #[.pointer (some ⟨p, 0, none⟩), .string k, .string v, .int .i64 f, .int .i64 o] w fun e w' => e = .returned (.bool (mayV l k o)) ∧ StoreAt w' p m (setV l k v f o) ∧ w.grownBy w' (some m) := by
  have HH := Lib.hid H
  have HC := Lib.hid (may_any w p m l k hk o H)
  have HK : Hid (k.size ≤ maxLen) := by unfold Hid maxLen; omega
  unfold setV
  cases hm : mayV l k o
  · unfold mayV at hm
    rw [hm] at HC
    clear hm H
    go_enter Try.func38, Try.ntmps38
    go_wp2_with (go_at_call 61; refine (HC.out).mono ?_; rintro e w1 ⟨rfl, HB⟩)
    go_ret
    exact ⟨rfl, HH.out.kept HB (by simp) (by simp), HB.but _⟩
  · have HM2 := Lib.hid hm
    unfold mayV at hm
    rw [hm] at HC
    obtain ⟨r, hr⟩ : ∃ r, (getV l k).getD vr0 = r := ⟨_, rfl⟩
    rw [hr]
    have HR := Lib.hid hr
    clear hm hr H
    obtain ⟨n0, v0, f0, o0, e0⟩ := r
    go_enter Try.func38, Try.ntmps38
    go_wp2_with (first | (go_at_call 61; refine (HC.out).mono ?_; rintro e w1 ⟨rfl, HB⟩; have HH1 := Lib.hid (HH.out.kept HB (by simp) (by simp)); have hb := HH1.out.box.cell; have hlt := HH1.out.box.lt) | (at_lookup; refine wpList_lookV1 _ rfl _ _ rfl m _ l rfl (by assumption : Hid (StoreAt _ p m l)).out.map k rfl HK.out _ HR.out ?_))
    obtain ⟨w2, hrun, hown2, hgrow2⟩ := ((HH1.out.map.alloc (.cells #[.string n0, .string v0, .int .i64 f0, .int .i64 o0, .int .i64 e0] 64)).drew).update sk9 Try.underlying85 (by have := HH1.out.len; unfold maxLen; omega) (key := .string k) (val := (⟨k, v, f, o, e0⟩ : Vr).val) (Go.WideMaps.keyOf_string_mk Try.underlying9 HK.out) (d := .held (⟨k, v, f, o, e0⟩ : Vr).val) (ps := []) rfl
    have hb1 : (w1.alloc (.cells #[.string n0, .string v0, .int .i64 f0, .int .i64 o0, .int .i64 e0] 64)).drew.cell? ⟨p, 0, none⟩ = some (.map (some m)) := (HH1.out.box.alloc _).cell
    unfold Vr.val at hrun
    go_region
    go_wp2
    go_ret
    have hp := dOf_put l ⟨k, v, f, o, e0⟩
    unfold kl at hp
    have hsz := Maps.size_put (HH.out.map.tidy sk9) (k := .string k.data.toList) (d := .held (⟨k, v, f, o, e0⟩ : Vr).val)
    have hh := dOf_has l k
    unfold kl at hh
    rw [hp] at hown2 hsz
    rw [hh, dOf_size, dOf_size] at hsz
    have ht := own_tight hown2
    rw [dOf_size] at ht
    have g12 : w1.grownBy w2 (some m) := (World.grownBy_alloc w1 (.cells #[.string n0, .string v0, .int .i64 f0, .int .i64 o0, .int .i64 e0] 64) (some m)).trans ⟨hgrow2.os, hgrow2.tape, hgrow2.output, hgrow2.size, hgrow2.block⟩
    refine ⟨rfl, ⟨HH1.out.box.kept g12 (fun e => HH1.out.ne (by simpa using e)), ht, ?_⟩, (HB.but (some m)).trans g12⟩
    have h2 := HM2.out
    have h3 := HH.out.len
    rw [hsz]
    unfold mayV at h2
    cases hg : getV l k with
    | none => rw [hg] at h2; simp at h2; simp; omega
    | some x => simp; omega

def undefV (l : List Vr) (k : ByteArray) (o : Int) : Bool := match getV l k with | some v => !decide (v.origin > o) | none => true

set_option maxRecDepth 100000 in
theorem Undefine_any (w : World) (p m : Nat) (l : List Vr) (k : ByteArray) (hk : k.size ≤ 140737488351232) (o : Int) (H : StoreAt w p m l) :
    Calls Try.prog 73 #[.pointer (some ⟨p, 0, none⟩), .string k, .int .i64 o] w fun e w' => e = .returned (.bool (undefV l k o)) ∧ StoreAt w' p m (if undefV l k o then delV l k else l) ∧ w.grownBy w' (some m) := by
  have HH := Lib.hid H
  have hb := H.box.cell
  have hlt := H.box.lt
  have HK : Hid (k.size ≤ maxLen) := by unfold Hid maxLen; omega
  have hend : ∀ (r : Vr) w2, w2.ownsMap Try.prog 9 RV m l.length ((dOf l).del (.string k.data.toList)) → World.mapTurned (w.alloc (.cells #[.string r.name, .string r.value, .int .i64 r.flav, .int .i64 r.origin, .int .i64 r.export_] 64)) w2 m → StoreAt w2 p m (delV l k) ∧ w.grownBy w2 (some m) := by
    intro r w2 h1 h2
    have e := dOf_del l k
    unfold kl at e
    rw [e] at h1
    have ht := own_tight h1
    rw [dOf_size] at ht
    have g := (World.grownBy_alloc w _ (some m)).trans h2.grown
    refine ⟨⟨H.box.kept g (fun e => H.ne (by simpa using e)), ht, Nat.le_trans (List.length_filter_le _ _) H.len⟩, g⟩
  have HE := Lib.hid hend
  clear H hend
  rcases hg : getV l k with _ | ⟨n0, v0, f0, o0, e0⟩
  · have hu : undefV l k o = true := by simp [undefV, hg]
    rw [hu, if_pos rfl]
    have HR : Hid ((getV l k).getD vr0 = vr0) := by unfold Hid; rw [hg]; rfl
    have HF : Hid ((getV l k).isSome = false) := by unfold Hid; rw [hg]; rfl
    go_enter Try.func73, Try.ntmps73
    go_wp2_with (first | (at_lookup; refine wpList_lookV _ rfl _ _ rfl m _ l rfl HH.out.map k rfl HK.out vr0 HR.out false HF.out ?_) | (at_delete; refine wpList_delete_own _ rfl _ _ 85 9 rfl 64 sk9 Try.underlying85 RV m _ _ rfl (HH.out.map.alloc _) _ _ rfl (Go.WideMaps.keyOf_string_mk Try.underlying9 HK.out) ?_; intro w2 hown2 hturn2))
    go_ret
    exact ⟨rfl, HE.out _ _ hown2 hturn2⟩
  · have HR : Hid ((getV l k).getD vr0 = ⟨n0, v0, f0, o0, e0⟩) := by unfold Hid; rw [hg]; rfl
    have HF : Hid ((getV l k).isSome = true) := by unfold Hid; rw [hg]; rfl
    by_cases hc : o0 > o
    · have hu : undefV l k o = false := by simp [undefV, hg]; omega
      rw [hu, if_neg (by simp)]
      go_enter Try.func73, Try.ntmps73
      go_wp2_with (at_lookup; refine wpList_lookV _ rfl _ _ rfl m _ l rfl HH.out.map k rfl HK.out _ HR.out true HF.out ?_)
      go_ret
      exact ⟨rfl, HH.out.alloc _, World.grownBy_alloc _ _ _⟩
    · have hu : undefV l k o = true := by simp [undefV, hg]; omega
      rw [hu, if_pos rfl]
      go_enter Try.func73, Try.ntmps73
      go_wp2_with (first | (at_lookup; refine wpList_lookV _ rfl _ _ rfl m _ l rfl HH.out.map k rfl HK.out _ HR.out true HF.out ?_) | (at_delete; refine wpList_delete_own _ rfl _ _ 85 9 rfl 64 sk9 Try.underlying85 RV m _ _ rfl (HH.out.map.alloc _) _ _ rfl (Go.WideMaps.keyOf_string_mk Try.underlying9 HK.out) ?_; intro w2 hown2 hturn2))
      go_ret
      exact ⟨rfl, HE.out ⟨n0, v0, f0, o0, e0⟩ _ hown2 hturn2⟩

/-- what Append sets -/
def joinV (old v : ByteArray) : ByteArray := if old.size = 0 then v else old ++ ⟨#[32]⟩ ++ v
def appV (l : List Vr) (k v : ByteArray) (o : Int) : Bool × List Vr := match getV l k with
  | none => (mayV l k o, setV l k v 1 o)
  | some x => (mayV l k o, setV l k (joinV x.value v) x.flav o)

set_option maxRecDepth 100000 in
theorem Append_any (w : World) (p m : Nat) (l : List Vr) (k v : ByteArray) (hk : k.size ≤ 140737488351232) (hv : v.size ≤ 140737488351232) (hl : ∀ x, getV l k = some x → x.value.size ≤ 140737488351232) (o : Int) (H : StoreAt w p m l) :
    Calls Try.prog 60 #[.pointer (some ⟨p, 0, none⟩), .string k, .string v, .int .i64 o] w fun e w' => e = .returned (.bool (appV l k v o).1) ∧ StoreAt w' p m (appV l k v o).2 ∧ w.grownBy w' (some m) := by
  have HH := Lib.hid H
  have hb := H.box.cell
  have hlt := H.box.lt
  have HK : Hid (k.size ≤ maxLen) := by unfold Hid maxLen; omega
  clear H
  unfold appV
  rcases hg : getV l k with _ | ⟨n0, v0, f0, o0, e0⟩
  · have HR : Hid ((getV l k).getD vr0 = vr0) := by unfold Hid; rw [hg]; rfl
    have HF : Hid ((getV l k).isSome = false) := by unfold Hid; rw [hg]; rfl
    go_enter Try.func60, Try.ntmps60
    go_wp2_with (first | (at_lookup; refine wpList_lookV _ rfl _ _ rfl m _ l rfl HH.out.map k rfl HK.out vr0 HR.out false HF.out ?_) | (go_at_call 38; refine (Set_any _ p m l k v hk 1 o (HH.out.alloc _)).mono ?_; rintro e w1 ⟨rfl, HS, HB⟩))
    go_ret
    exact ⟨rfl, HS, (World.grownBy_alloc _ _ _).trans HB⟩
  · have HR : Hid ((getV l k).getD vr0 = ⟨n0, v0, f0, o0, e0⟩) := by unfold Hid; rw [hg]; rfl
    have HF : Hid ((getV l k).isSome = true) := by unfold Hid; rw [hg]; rfl
    have hv0 : v0.size ≤ 140737488351232 := hl _ hg
    by_cases hc : v0.size = 0
    · obtain rfl : v0 = ⟨#[]⟩ := by cases v0; congr; exact Array.size_eq_zero_iff.1 hc
      have hj : joinV ⟨#[]⟩ v = v := by simp [joinV, ByteArray.size]
      simp only [hj]
      go_enter Try.func60, Try.ntmps60
      go_wp2_with (first | (at_lookup; refine wpList_lookV _ rfl _ _ rfl m _ l rfl HH.out.map k rfl HK.out _ HR.out true HF.out ?_) | (go_at_call 38; refine (Set_any _ p m l k _ hk _ o (HH.out.alloc _)).mono ?_; rintro e w1 ⟨rfl, HS, HB⟩))
      go_ret
      exact ⟨rfl, HS, (World.grownBy_alloc _ _ _).trans HB⟩
    · have hj : joinV v0 v = v0 ++ ⟨#[32]⟩ ++ v := by simp [joinV, hc]
      have hne : (v0.toList == []) = false := by cases v0; simp [ByteArray.size] at hc; simp [ba_toList]; exact hc
      simp only [hj]
      go_enter Try.func60, Try.ntmps60
      go_wp2_with (first | (at_lookup; refine wpList_lookV _ rfl _ _ rfl m _ l rfl HH.out.map k rfl HK.out _ HR.out true HF.out ?_) | (go_at_call 38; refine (Set_any _ p m l k _ hk _ o (HH.out.alloc _)).mono ?_; rintro e w1 ⟨rfl, HS, HB⟩))
      go_ret
      exact ⟨rfl, HS, (World.grownBy_alloc _ _ _).trans HB⟩
end Go.Proofs.Ytndoloohdloflab
