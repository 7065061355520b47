/- The parts of a text, as package refs gathers them; condition: at most a million bytes. -/
import Derived.Test.YtndoloohdloflaaRefs8
import Derived.Deep.AppendLies
import Derived.Laws.BytesArg
import Derived.Laws.IdiomStrings
namespace Go.Proofs.Ytndoloohdloflaa
open Go.RowKit

def pRow (p : Int × ByteArray × ByteArray × List ByteArray) (v : Value) : List Value := [.int .i64 p.1, .string p.2.1, .string p.2.2.1, v]
def pRows : List ((Int × ByteArray × ByteArray × List ByteArray) × Value) → List Value
  | [] => []
  | x :: l => pRow x.1 x.2 ++ pRows l
theorem pRows_app (a : List ((Int × ByteArray × ByteArray × List ByteArray) × Value)) (x : (Int × ByteArray × ByteArray × List ByteArray) × Value) : pRows (a ++ [x]) = pRows a ++ pRow x.1 x.2 := by
  induction a with
  | nil => simp [pRows]
  | cons y l ih => simp [pRows, ih]
theorem pRows_len (a : List ((Int × ByteArray × ByteArray × List ByteArray) × Value)) : (pRows a).length = a.length * 4 := by
  induction a with
  | nil => rfl
  | cons y l ih => simp [pRows, pRow, ih]; omega
/-- each part's arguments stand in a row of the call's own -/
def ArgsIn (W : World) (h : Nat) (l : List ((Int × ByteArray × ByteArray × List ByteArray) × Value)) : Prop := ∀ x ∈ l, OwnG W h 9 1 x.2 x.1.2.2.2.length (x.1.2.2.2.map Value.string)
def PSt (W : World) (h : Nat) (bs : List UInt8) (l : List ((Int × ByteArray × ByteArray × List ByteArray) × Value)) : Prop :=
  ∃ v u, W.heap[h]? = some (.cells #[v] 38 (0, 0)) ∧ W.heap[h + 1]? = some (.cells #[u] 76 (0, 0)) ∧ OwnG W h 5 1 u bs.length (Lib.byteCells bs) ∧ OwnG W h 44 4 v l.length (pRows l) ∧ ArgsIn W h l
def flushP (l : List (Int × ByteArray × ByteArray × List ByteArray)) (bs : List UInt8) : List (Int × ByteArray × ByteArray × List ByteArray) := if bs = [] then l else l ++ [((1 : Int), mk bs, (⟨#[]⟩ : ByteArray), ([] : List ByteArray))]

theorem Try.info44 : (Try.prog.info? 44).map (fun i => (i.zero, i.size, i.bytes)) = some (some (.agg #[.int .i64 0, .string ⟨#[]⟩, .string ⟨#[]⟩, .slice none 0 0]), 4, 64) := by kernel_rfl
theorem conv76 {W : World} {base : Nat} {v : Value} {bs : List UInt8} (hg : OwnG W base 5 1 v bs.length (Lib.byteCells bs)) : (convert 76 9 v).run Try.prog W = .ok (.string (mk bs)) W := by
  rcases hg.2 with ⟨rfl, h0⟩ | ⟨g, cap, cur, rfl, hb, _⟩
  · have e : bs = [] := List.eq_nil_of_length_eq_zero h0
    subst e
    exact run_convert_bytes_nil W 76 5 Try.underlying76 Try.underlying5 0 0 9 Try.underlying9
  · refine run_convert_bytes_back W 76 9 5 ⟨g, 0, none⟩ cap bs Try.underlying76 Try.underlying5 Try.underlying9 fun j hj => ?_
    have e2 : Addr.add ⟨g, 0, none⟩ j = ⟨g, j, none⟩ := by
      simp only [Addr.add]
      split
      · subst_vars; rfl
      · simp
    rw [e2]
    exact hg.cells j _ (by simp [Lib.byteCells, hj])
theorem PSt.below {W W' : World} {h : Nat} {bs : List UInt8} {l : List ((Int × ByteArray × ByteArray × List ByteArray) × Value)} (hp : PSt W h bs l) (hb : Below W.heap.size W W') : PSt W' h bs l := by
  obtain ⟨v, u, h1, h2, h3, h4, h5⟩ := hp
  exact ⟨v, u, (hb.block _ (lt_of_block h1)).trans h1, (hb.block _ (lt_of_block h2)).trans h2, h3.below hb, h4.below hb, fun x hx => (h5 x hx).below hb⟩
theorem typed_of {W : World} {h : Nat} {e : TypeId} {size : Nat} {v : Value} {n : Nat} {xs : List Value} {b : Nat} {u : Value} {t : TypeId} (ho : OwnG W h e size v n xs) (hb : W.heap[b]? = some (.cells #[u] t (0, 0))) (hte : t ≠ e) : ∀ k, v.ownBlock = some k → k ≠ b := by
  rintro k hk rfl
  obtain ⟨c, fz, hc⟩ := ho.typed k hk
  rw [hb] at hc; cases hc; exact hte rfl
theorem OwnG.set1 {W : World} {h : Nat} {e : TypeId} {size : Nat} {v : Value} {n : Nat} {xs : List Value} {b : Nat} {u : Value} {t : TypeId} (ho : OwnG W h e size v n xs) (hb : W.heap[b]? = some (.cells #[u] t (0, 0))) (hte : t ≠ e) (u' : Value) : OwnG (W.setCell ⟨b, 0, none⟩ u') h e size v n xs :=
  ho.move fun k hk => Below.heap_setCell _ _ _ _ (typed_of ho hb hte k hk)
/-- one more part behind the parts: what an append and a store leave -/
theorem PSt.pushed {W w1 : World} {h : Nat} {bs : List UInt8} {l : List ((Int × ByteArray × ByteArray × List ByteArray) × Value)} {v u v' : Value} {p : (Int × ByteArray × ByteArray × List ByteArray)} {x : Value} {o : Obj} (h1 : W.heap[h]? = some (.cells #[v] 38 (0, 0))) (h2 : W.heap[h + 1]? = some (.cells #[u] 76 (0, 0))) (h3 : OwnG W h 5 1 u bs.length (Lib.byteCells bs)) (h4 : OwnG W h 44 4 v l.length (pRows l)) (h5 : ArgsIn W h l)
    (hx : OwnG W h 9 1 x p.2.2.2.length (p.2.2.2.map Value.string)) (hg : (W.alloc o).grownBy w1 v.ownBlock) (ho1 : OwnG w1 h 44 4 v' (l.length + 1) (pRows l ++ pRow p x)) :
    w1.heap[h]? = some (.cells #[v] 38 (0, 0)) ∧ w1.heap[h + 1]? = some (.cells #[u] 76 (0, 0)) ∧ PSt (w1.setCell ⟨h, 0, none⟩ v') h bs (l ++ [(p, x)]) ∧ Below h W (w1.setCell ⟨h, 0, none⟩ v') := by
  have hA : Below W.heap.size W (W.alloc o) := (Below.refl _ W).alloc (Nat.le_refl _) o
  have h4a := h4.below hA
  have hT : ∀ k, v.ownBlock = some k → ∃ c fz, (W.alloc o).heap[k]? = some (.cells c 44 fz) := fun k hk => h4a.typed k hk
  have hl1 := lt_of_block h1
  have hl2 := lt_of_block h2
  have e1 : w1.heap[h]? = some (.cells #[v] 38 (0, 0)) := (hg.block h (by simp; omega) (fun e => typed_of h4 h1 (by decide) h e.symm rfl)).trans ((hA.block h hl1).trans h1)
  have e2 : w1.heap[h + 1]? = some (.cells #[u] 76 (0, 0)) := (hg.block (h + 1) (by simp; omega) (fun e => typed_of h4 h2 (by decide) (h + 1) e.symm rfl)).trans ((hA.block (h + 1) hl2).trans h2)
  refine ⟨e1, e2, ⟨v', u, one_setCell e1, ?_, ?_, ?_, ?_⟩, ?_⟩
  · rw [Below.heap_setCell _ _ _ _ (by simp)]; exact e2
  · exact ((h3.below hA).aside hg hT (by decide)).set1 e1 (by decide) v'
  · rw [pRows_app, List.length_append]
    exact ho1.set1 e1 (by decide) v'
  · intro y hy
    rcases List.mem_append.1 hy with hy | hy
    · exact (((h5 y hy).below hA).aside hg hT (by decide)).set1 e1 (by decide) v'
    · rw [List.mem_singleton] at hy
      subst hy
      exact ((hx.below hA).aside hg hT (by decide)).set1 e1 (by decide) v'
  · exact (((Below.refl h W).alloc (by omega) o).grown hg (by simp; omega) (fun k e => (h4.block_lt k e).1)).setCell (p := ⟨h, 0, none⟩) (Nat.le_refl h) _

theorem PSt.cleared {W : World} {h : Nat} {bs : List UInt8} {l : List ((Int × ByteArray × ByteArray × List ByteArray) × Value)} (hp : PSt W h bs l) : PSt (W.setCell ⟨h + 1, 0, none⟩ (.slice none 0 0)) h [] l := by
  obtain ⟨v, u, h1, h2, h3, h4, h5⟩ := hp
  refine ⟨v, _, ?_, one_setCell h2, OwnG.nil _ _ _ _, h4.set1 h2 (by decide) _, fun x hx => (h5 x hx).set1 h2 (by decide) _⟩
  rw [Below.heap_setCell _ _ _ _ (by simp)]; exact h1
/-- one more byte behind the plain ones: what an append and a store leave -/
theorem PSt.byted {W w1 : World} {h : Nat} {bs : List UInt8} {l : List ((Int × ByteArray × ByteArray × List ByteArray) × Value)} {v u u' : Value} {c : UInt8} {o : Obj} (h1 : W.heap[h]? = some (.cells #[v] 38 (0, 0))) (h2 : W.heap[h + 1]? = some (.cells #[u] 76 (0, 0))) (h3 : OwnG W h 5 1 u bs.length (Lib.byteCells bs)) (h4 : OwnG W h 44 4 v l.length (pRows l)) (h5 : ArgsIn W h l)
    (hg : (W.alloc o).grownBy w1 u.ownBlock) (ho1 : OwnG w1 h 5 1 u' (bs.length + 1) (Lib.byteCells bs ++ [.int .u8 c.toNat])) :
    w1.heap[h + 1]? = some (.cells #[u] 76 (0, 0)) ∧ PSt (w1.setCell ⟨h + 1, 0, none⟩ u') h (bs ++ [c]) l ∧ Below h W (w1.setCell ⟨h + 1, 0, none⟩ u') := by
  have hA : Below W.heap.size W (W.alloc o) := (Below.refl _ W).alloc (Nat.le_refl _) o
  have h3a := h3.below hA
  have hT : ∀ k, u.ownBlock = some k → ∃ c fz, (W.alloc o).heap[k]? = some (.cells c 5 fz) := fun k hk => h3a.typed k hk
  have hl1 := lt_of_block h1
  have hl2 := lt_of_block h2
  have e1 : w1.heap[h]? = some (.cells #[v] 38 (0, 0)) := (hg.block h (by simp; omega) (fun e => typed_of h3 h1 (by decide) h e.symm rfl)).trans ((hA.block h hl1).trans h1)
  have e2 : w1.heap[h + 1]? = some (.cells #[u] 76 (0, 0)) := (hg.block (h + 1) (by simp; omega) (fun e => typed_of h3 h2 (by decide) (h + 1) e.symm rfl)).trans ((hA.block (h + 1) hl2).trans h2)
  refine ⟨e2, ⟨v, u', ?_, one_setCell e2, ?_, ?_, ?_⟩, ?_⟩
  · rw [Below.heap_setCell _ _ _ _ (by simp)]; exact e1
  · rw [bcells_app, List.length_append]
    exact ho1.set1 e2 (by decide) u'
  · exact ((h4.below hA).aside hg hT (by decide)).set1 e2 (by decide) u'
  · exact fun y hy => (((h5 y hy).below hA).aside hg hT (by decide)).set1 e2 (by decide) u'
  · exact (((Below.refl h W).alloc (by omega) o).grown hg (by simp; omega) (fun k e => (h3.block_lt k e).1)).setCell (p := ⟨h + 1, 0, none⟩) (by simp) _
theorem step_append_G {P : Program} {w : World} {ops : Array Oper} {o : Oper} {a : Act} {K : Act → World → Prop} {Q : Exit → Act → World → Prop} {E : Prop} (hgd : o.guard = none) (s x : Operand) (t : TypeId)
    (ho : o.op = .call { callee := .builtin .append, args := #[s, x], argTypes := #[t, t] })
    (base : Nat) (e : TypeId) (i : TypeInfo) (z : Value) (size bytes : Nat) (ht : P.underlying t = some (.slice e)) (hi : P.info? e = some i) (hz : i.zero = some z)
    (hsize : i.size = size) (hby : i.bytes = bytes) (hzs : z.cells.size = size)
    (v : Value) (n : Nat) (xs : List Value) (hs : a.eval s = v) (hown : OwnG w base e size v n xs)
    (ad : Addr) (m c : Nat) (news : List Value) (hx : a.eval x = .slice (some ad) m c) (hl : news.length = m * size) (hnews : ∀ j u, news[j]? = some u → w.cell? (ad.add j) = some u) (h1 : ∀ u ∈ news, u.oneCell' = true)
    (hm : 0 < m) (h63 : n + m ≤ maxLen) (hbytes : (n + m) * bytes ≤ 140737488355328) (hbase : base ≤ w.heap.size)
    (h : ∀ g cap w', OwnG w' base e size (.slice (some ⟨g, 0, none⟩) (n + m) cap) (n + m) (xs ++ news) → w.grownBy w' v.ownBlock → (v.ownBlock = some g ∨ g = w.heap.size) → g < w'.heap.size → K (a.put o.dst (.slice (some ⟨g, 0, none⟩) (n + m) cap)) w') :
    if Region.wanted o (yielded ops a.tmps) = true then Oper.wp P o a w K Q else E := by
  have hw : Region.wanted o (yielded ops a.tmps) = true := by simp [Region.wanted, hgd]
  rw [if_pos hw]
  exact wp_append_G w s x t ho base e i z size bytes ht hi hz hsize hby hzs v n xs hs hown ad m c news hx hl hnews h1 hm h63 hbytes hbase h

set_option maxRecDepth 100000 in
set_option maxHeartbeats 1000000 in
theorem flush_any (W : World) (h : Nat) (bs : List UInt8) (l : List ((Int × ByteArray × ByteArray × List ByteArray) × Value)) (hbs : bs.length ≤ 1000000) (hl : l.length ≤ 1000000) (hp : PSt W h bs l) :
    Calls Try.prog 82 #[.pointer (some ⟨h + 1, 0, none⟩), .pointer (some ⟨h, 0, none⟩)] W fun e W' => e = .returned (.tuple #[]) ∧ (∃ l', PSt W' h [] l' ∧ l'.map (·.1) = flushP (l.map (·.1)) bs) ∧ Below h W W' := by
  obtain ⟨i0, hi, hz0, hz1, hz2⟩ := info_parts Try.info44
  obtain ⟨v, u, h1, h2, h3, h4, h5⟩ := hp
  have hc1 := cell_of_one h1
  have hf1 := free_of_one h1
  have hc2 := cell_of_one h2
  have hf2 := free_of_one h2
  have hl1 := lt_of_block h1
  have hl2 := lt_of_block h2
  have hcv := conv76 h3
  obtain ⟨A2, c2, rfl, _, _⟩ := h3.form
  obtain ⟨A1, c1, rfl, _, _⟩ := h4.form
  by_cases hb0 : bs = []
  · subst hb0
    have HR : Hid (∃ l', PSt W h [] l' ∧ l'.map (·.1) = flushP (l.map (·.1)) []) := ⟨l, ⟨_, _, h1, h2, h3, h4, h5⟩, by simp [flushP]⟩
    clear h1 h2 h3 h4 h5 hcv
    go_enter Try.func82, Try.ntmps82
    go_wp2
    go_end0
    exact ⟨rfl, HR.out, Below.refl _ _⟩
  · have hpos : (0 : Int) < bs.length := by have : bs.length ≠ 0 := fun e => hb0 (List.eq_nil_of_length_eq_zero e); omega
    have hposn : 0 < bs.length := by omega
    obtain ⟨sb, hsb⟩ : ∃ sb, mk bs = sb := ⟨_, rfl⟩
    have hF : flushP (l.map (·.1)) bs = l.map (·.1) ++ [((1 : Int), sb, (⟨#[]⟩ : ByteArray), ([] : List ByteArray))] := by rw [← hsb]; simp [flushP, hb0]
    have HX := Lib.hid fun (w1 : World) (v' : Value) (o : Obj) (hg : (W.alloc o).grownBy w1 (Value.slice A1 l.length c1).ownBlock) (ho1 : OwnG w1 h 44 4 v' (l.length + 1) (pRows l ++ pRow ((1 : Int), sb, (⟨#[]⟩ : ByteArray), ([] : List ByteArray)) (.slice none 0 0))) =>
      PSt.pushed (p := ((1 : Int), sb, (⟨#[]⟩ : ByteArray), ([] : List ByteArray))) (x := .slice none 0 0) h1 h2 h3 h4 h5 (OwnG.nil _ _ _ _) hg ho1
    have hO := Lib.hid fun o => h4.below ((Below.refl _ W).alloc (Nat.le_refl _) o)
    rw [hF]
    obtain ⟨N, hN⟩ : ∃ N, bs.length = N := ⟨_, rfl⟩
    rw [hN] at hc2 hcv hpos hposn hbs HX
    rw [hsb] at hcv
    have HN := Lib.hid hN
    clear h1 h2 h3 h4 h5 hF hb0 hsb hN
    go_enter Try.func82, Try.ntmps82
    go_wp2_with (at_builtin; refine wpList_append_G _ rfl _ _ 38 rfl h 44 i0 (.agg #[.int .i64 0, .string ⟨#[]⟩, .string ⟨#[]⟩, .slice none 0 0]) 4 64 Try.underlying38 hi hz0 hz1 hz2 rfl (.slice A1 l.length c1) l.length (pRows l) rfl (hO.out _) ⟨W.heap.size, 0, none⟩ 1 1 (pRow ((1 : Int), sb, (⟨#[]⟩ : ByteArray), ([] : List ByteArray)) (.slice none 0 0)) rfl rfl (World.news_of_block (heap_alloc_last W _)) (by simp [Value.oneCell', pRow]) (by omega) (by unfold maxLen; omega) (by omega) (by simp; omega) ?_; intro g cap w1 hown1 hgrow1 _ _; obtain ⟨e1, e2, e3, e4⟩ := HX.out w1 _ _ hgrow1 hown1; have E3 := Lib.hid e3; have E4 := Lib.hid e4; have k1 := cell_of_one e1; have k2 := free_of_one e1; have k3 := cell_of_one e2; have k4 := free_of_one e2; clear hown1 hgrow1 e3 e4)
    go_end0
    exact ⟨rfl, ⟨_, E3.out.cleared, by simp⟩, E4.out.setCell (p := ⟨h + 1, 0, none⟩) (by simp) _⟩

def partsG (s : ByteArray) : Nat → Nat → List UInt8 → List (Int × ByteArray × ByteArray × List ByteArray) → Option (List (Int × ByteArray × ByteArray × List ByteArray))
  | 0, _, _, _ => none
  | f + 1, i, bs, acc =>
    if i < s.size then
      if s.get! i = 36 ∧ i + 1 < s.size then
        if s.get! (i + 1) = 36 then partsG s f (i + 2) (bs ++ [36]) acc
        else if s.get! (i + 1) = 40 ∨ s.get! (i + 1) = 123 then
          if endI s (i + 1) < 0 then none else partsG s f ((endI s (i + 1)).toNat + 1) [] (flushP acc bs ++ [withinP (s.extract (i + 2) (endI s (i + 1)).toNat)])
        else partsG s f (i + 2) [] (flushP acc bs ++ [((2 : Int), s.extract (i + 1) (i + 2), (⟨#[]⟩ : ByteArray), ([] : List ByteArray))])
      else partsG s f (i + 1) (bs ++ [s.get! i]) acc
    else some (flushP acc bs)
def partsI (s : ByteArray) : Option (List (Int × ByteArray × ByteArray × List ByteArray)) := partsG s (s.size + 1) 0 [] []
/-- what Parse answers, and leaves -/
def ParseRes (w : World) (R : Option (List (Int × ByteArray × ByteArray × List ByteArray))) (e : Ending) (W' : World) : Prop :=
  Below w.heap.size w W' ∧ match R with
  | some ps => ∃ v l, e = .returned (.tuple #[v, .int .i64 0]) ∧ l.map (·.1) = ps ∧ OwnG W' w.heap.size 44 4 v l.length (pRows l) ∧ ArgsIn W' w.heap.size l
  | none => e = .returned (.tuple #[.slice none 0 0, .int .i64 40])
end Go.Proofs.Ytndoloohdloflaa
