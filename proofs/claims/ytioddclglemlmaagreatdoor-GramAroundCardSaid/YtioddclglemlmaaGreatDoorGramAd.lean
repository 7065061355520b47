/- The texts and trees of GramAround; a row of new blocks; no condition. -/
import Derived.Test.YtioddclglemlmaaGreatDoorGramLi2
namespace Go.Proofs.YtioddclglemlmaaGreatDoor
open Go.RowKit

def arF (a b : ByteArray) : List ByteArray :=
  [(⟨#[40]⟩ ++ a) ++ ⟨#[10, 41]⟩, (⟨#[123, 32]⟩ ++ a) ++ ⟨#[10, 125]⟩, (((⟨#[105, 102, 32]⟩ ++ a) ++ ⟨#[10, 116, 104, 101, 110, 32]⟩) ++ b) ++ ⟨#[10, 102, 105]⟩,
   (((⟨#[119, 104, 105, 108, 101, 32]⟩ ++ a) ++ ⟨#[10, 100, 111, 32]⟩) ++ b) ++ ⟨#[10, 100, 111, 110, 101]⟩,
   (⟨#[102, 111, 114, 32, 105, 32, 105, 110, 32, 49, 32, 50, 59, 32, 100, 111, 32]⟩ ++ a) ++ ⟨#[10, 100, 111, 110, 101]⟩,
   (⟨#[99, 97, 115, 101, 32, 119, 32, 105, 110, 32, 112, 41, 32]⟩ ++ a) ++ ⟨#[10, 59, 59, 32, 101, 115, 97, 99]⟩]
def arT (x y : CmdT) : List CmdT :=
  [.mk 11 false [] [] [] [x] [] [], .mk 10 false [] [] [] [x] [] [], .mk 6 false [] [] [] [x, y] [] [], .mk 7 false [] [] [] [x, y] [] [], .mk 8 false [] [bI, b1, b2] [] [x] [] [], .mk 9 false [] [bWw] [] [] [[bPp]] [x]]
theorem around_all {a b : ByteArray} {ks ms : List CmdT} (ha : SomeText a ks) (hb : SomeText b ms) : ∀ i, i < 6 → Around ((arF a b).getD i ⟨#[]⟩) ((arT (oneT ks) (oneT ms)).getD i (.leaf 0)) := by
  intro i hi
  obtain rfl | rfl | rfl | rfl | rfl | rfl : i = 0 ∨ i = 1 ∨ i = 2 ∨ i = 3 ∨ i = 4 ∨ i = 5 := by omega
  · exact gram_sub (by simp [arF]) ha
  · exact gram_grp (by simp [arF]) ha
  · exact gram_if (by simp [arF]) ha hb
  · exact gram_while (by simp [arF]) ha hb
  · exact gram_for (by simp [arF]) ha
  · exact gram_case (by simp [arF]) ha
theorem arF_fit {a b : ByteArray} (ha : a.size ≤ 2000) (hb : b.size ≤ 2000) (na : ∀ c ∈ a.data.toList, c ≠ 92 ∧ c ≠ 35) (nb : ∀ c ∈ b.data.toList, c ≠ 92 ∧ c ≠ 35) :
    ∀ i, i < 6 → ((arF a b).getD i ⟨#[]⟩).size ≤ 65536 ∧ ∀ c ∈ ((arF a b).getD i ⟨#[]⟩).data.toList, c ≠ 92 ∧ c ≠ 35 := by
  have app : ∀ (x y : ByteArray) (n m : Nat), x.size ≤ n → y.size ≤ m → (∀ c ∈ x.data.toList, c ≠ 92 ∧ c ≠ 35) → (∀ c ∈ y.data.toList, c ≠ 92 ∧ c ≠ 35) → (x ++ y).size ≤ n + m ∧ ∀ c ∈ (x ++ y).data.toList, c ≠ 92 ∧ c ≠ 35 := by
    intro x y n m h1 h2 h3 h4
    refine ⟨by rw [ByteArray.size_append]; omega, fun c hc => ?_⟩
    have : c ∈ x.data.toList ++ y.data.toList := by simpa using hc
    rcases List.mem_append.1 this with h | h
    · exact h3 c h
    · exact h4 c h
  have lit : ∀ (l : List UInt8), (l.all fun c => c != 92 && c != 35) = true → ∀ c ∈ (⟨l.toArray⟩ : ByteArray).data.toList, c ≠ 92 ∧ c ≠ 35 := by
    intro l hl c hc
    have := List.all_eq_true.1 hl c (by simpa using hc)
    simpa using this
  have one : ∀ (x y z : ByteArray), x.size ≤ 50 → y.size ≤ 2000 → z.size ≤ 50 → (∀ c ∈ x.data.toList, c ≠ 92 ∧ c ≠ 35) → (∀ c ∈ y.data.toList, c ≠ 92 ∧ c ≠ 35) → (∀ c ∈ z.data.toList, c ≠ 92 ∧ c ≠ 35) → ((x ++ y) ++ z).size ≤ 65536 ∧ ∀ c ∈ ((x ++ y) ++ z).data.toList, c ≠ 92 ∧ c ≠ 35 := by
    intro x y z h1 h2 h3 h4 h5 h6
    have p1 := app x y _ _ h1 h2 h4 h5
    have p2 := app _ z _ _ p1.1 h3 p1.2 h6
    exact ⟨by have := p2.1; omega, p2.2⟩
  have two : ∀ (x y z u v : ByteArray), x.size ≤ 50 → y.size ≤ 2000 → z.size ≤ 50 → u.size ≤ 2000 → v.size ≤ 50 → (∀ c ∈ x.data.toList, c ≠ 92 ∧ c ≠ 35) → (∀ c ∈ y.data.toList, c ≠ 92 ∧ c ≠ 35) → (∀ c ∈ z.data.toList, c ≠ 92 ∧ c ≠ 35) → (∀ c ∈ u.data.toList, c ≠ 92 ∧ c ≠ 35) → (∀ c ∈ v.data.toList, c ≠ 92 ∧ c ≠ 35) → ((((x ++ y) ++ z) ++ u) ++ v).size ≤ 65536 ∧ ∀ c ∈ ((((x ++ y) ++ z) ++ u) ++ v).data.toList, c ≠ 92 ∧ c ≠ 35 := by
    intro x y z u v h1 h2 h3 h4 h5 g1 g2 g3 g4 g5
    have p1 := app x y _ _ h1 h2 g1 g2
    have p2 := app _ z _ _ p1.1 h3 p1.2 g3
    have p3 := app _ u _ _ p2.1 h4 p2.2 g4
    have p4 := app _ v _ _ p3.1 h5 p3.2 g5
    exact ⟨by have := p4.1; omega, p4.2⟩
  intro i hi
  obtain rfl | rfl | rfl | rfl | rfl | rfl : i = 0 ∨ i = 1 ∨ i = 2 ∨ i = 3 ∨ i = 4 ∨ i = 5 := by omega
  · exact one _ _ _ (by decide) ha (by decide) (lit [40] (by decide)) na (lit [10, 41] (by decide))
  · exact one _ _ _ (by decide) ha (by decide) (lit [123, 32] (by decide)) na (lit [10, 125] (by decide))
  · exact two _ _ _ _ _ (by decide) ha (by decide) hb (by decide) (lit [105, 102, 32] (by decide)) na (lit [10, 116, 104, 101, 110, 32] (by decide)) nb (lit [10, 102, 105] (by decide))
  · exact two _ _ _ _ _ (by decide) ha (by decide) hb (by decide) (lit [119, 104, 105, 108, 101, 32] (by decide)) na (lit [10, 100, 111, 32] (by decide)) nb (lit [10, 100, 111, 110, 101] (by decide))
  · exact one _ _ _ (by decide) ha (by decide) (lit [102, 111, 114, 32, 105, 32, 105, 110, 32, 49, 32, 50, 59, 32, 100, 111, 32] (by decide)) na (lit [10, 100, 111, 110, 101] (by decide))
  · exact one _ _ _ (by decide) ha (by decide) (lit [99, 97, 115, 101, 32, 119, 32, 105, 110, 32, 112, 41, 32] (by decide)) na (lit [10, 59, 59, 32, 101, 115, 97, 99] (by decide))
/-- new blocks, one behind the other -/
def allocs : World → List Obj → World
  | w, [] => w
  | w, o :: l => allocs (w.alloc o) l
theorem allocs_size : ∀ (l : List Obj) (w : World), (allocs w l).heap.size = w.heap.size + l.length
  | [], _ => rfl
  | o :: l, w => by rw [allocs, allocs_size l, World.size_alloc, List.length_cons]; omega
theorem allocs_old : ∀ (l : List Obj) (w : World) (k : Nat), k < w.heap.size → (allocs w l).heap[k]? = w.heap[k]?
  | [], _, _, _ => rfl
  | o :: l, w, k, h => by rw [allocs, allocs_old l _ k (by rw [World.size_alloc]; omega)]; exact Below.heap_alloc _ _ _ h
theorem allocs_new : ∀ (l : List Obj) (w : World) (i : Nat) (o : Obj), l[i]? = some o → (allocs w l).heap[w.heap.size + i]? = some o
  | [], _, _, _, h => by simp at h
  | o :: l, w, 0, o', h => by
    cases h
    rw [allocs, allocs_old l _ _ (by rw [World.size_alloc]; omega)]
    exact heap_alloc_last w o
  | o :: l, w, i + 1, o', h => by
    have := allocs_new l (w.alloc o) i o' (by simpa using h)
    rw [World.size_alloc] at this
    rw [allocs, show w.heap.size + (i + 1) = w.heap.size + 1 + i by omega]
    exact this
theorem allocs_below : ∀ (l : List Obj) (w : World), Below w.heap.size w (allocs w l)
  | [], w => Below.refl _ w
  | o :: l, w => ((Below.refl _ w).alloc (Nat.le_refl _) o).trans ((allocs_below l (w.alloc o)).mono (by rw [World.size_alloc]; omega))
theorem own_block {W : World} {S : Nat → Prop} {g : Nat} {e : TypeId} {size n : Nat} {cur : List Value} (h : W.heap[g]? = some (.cells cur.toArray e (0, 0))) (hl : cur.length = n * size) (hn : n ≤ 1000) (hS : S g) : RdG W S e size (.slice (some ⟨g, 0, none⟩) n n) n cur := by
  refine ⟨⟨hl, .inr ⟨g, n, _, rfl, Nat.zero_le _, h, Nat.le_refl _, by unfold maxLen; omega, by rw [List.size_toArray, hl]; exact Nat.le_refl _, ?_⟩⟩, fun k hk => ?_⟩
  · rw [← hl]; simp
  · obtain rfl : g = k := by simpa [Value.ownBlock] using hk
    exact hS
theorem arm_one {W : World} {S : Nat → Prop} {v : Value} {c : List Value} {ps : List ByteArray} {t : CmdT} (hp : RdG W S 9 1 v ps.length (strV ps)) (hc : CmdAt W S c t) : ArmsAt W S [v] [c] [ps] [t] := ArmsAt.nil.snoc hp hc
theorem kid_two {W : World} {S : Nat → Prop} {c d : List Value} {x y : CmdT} (hc : CmdAt W S c x) (hd : CmdAt W S d y) : KidsAt W S [c, d] [x, y] := (KidsAt.one hc).snoc hd
/-- the blocks of what GramAround wants -/
def arO (n : Nat) (cx cy : List Value) : List Obj :=
  [.cells cx.toArray 28, .cells cx.toArray 28, .cells (cx ++ cy).toArray 28, .cells (cx ++ cy).toArray 28, .cells #[.string ⟨#[105]⟩, .string ⟨#[49]⟩, .string ⟨#[50]⟩] 9, .cells cx.toArray 28, .cells #[.string ⟨#[119]⟩] 9, .cells #[.string ⟨#[112]⟩] 9,
   .cells (.slice (some ⟨n + 7, 0, none⟩) 1 1 :: cx).toArray 37, .cells (arC n).flatten.toArray 28]
where arC (n : Nat) : List (List Value) :=
  [[.int .i64 11, .bool false, .slice none 0 0, .slice none 0 0, .slice none 0 0, .slice (some ⟨n, 0, none⟩) 1 1, .slice none 0 0],
   [.int .i64 10, .bool false, .slice none 0 0, .slice none 0 0, .slice none 0 0, .slice (some ⟨n + 1, 0, none⟩) 1 1, .slice none 0 0],
   [.int .i64 6, .bool false, .slice none 0 0, .slice none 0 0, .slice none 0 0, .slice (some ⟨n + 2, 0, none⟩) 2 2, .slice none 0 0],
   [.int .i64 7, .bool false, .slice none 0 0, .slice none 0 0, .slice none 0 0, .slice (some ⟨n + 3, 0, none⟩) 2 2, .slice none 0 0],
   [.int .i64 8, .bool false, .slice none 0 0, .slice (some ⟨n + 4, 0, none⟩) 3 3, .slice none 0 0, .slice (some ⟨n + 5, 0, none⟩) 1 1, .slice none 0 0],
   [.int .i64 9, .bool false, .slice none 0 0, .slice (some ⟨n + 6, 0, none⟩) 1 1, .slice none 0 0, .slice none 0 0, .slice (some ⟨n + 8, 0, none⟩) 1 1]]
theorem ar_world {w W : World} {S : Nat → Prop} {cx cy : List Value} {x y : CmdT} (hx : CmdAt w S cx x) (hy : CmdAt w S cy y) (hS : ∀ k, S k → k < w.heap.size) (hW : W = allocs w (arO w.heap.size cx cy)) :
    RdG W (fun k => k < W.heap.size) 28 7 (.slice (some ⟨w.heap.size + 9, 0, none⟩) 6 6) 6 (arO.arC w.heap.size).flatten ∧ KidsAt W (fun k => k < W.heap.size) (arO.arC w.heap.size) (arT x y) := by
  have hsz : W.heap.size = w.heap.size + 10 := by rw [hW, allocs_size]; rfl
  have hn : ∀ i o, (arO w.heap.size cx cy)[i]? = some o → W.heap[w.heap.size + i]? = some o := fun i o h => by rw [hW]; exact allocs_new _ _ i o h
  have mx := hx.move (W' := W) (S' := fun k => k < W.heap.size) (fun k e => by have := hS k e; omega) fun k e => by rw [hW]; exact allocs_old _ _ k (hS k e)
  have my := hy.move (W' := W) (S' := fun k => k < W.heap.size) (fun k e => by have := hS k e; omega) fun k e => by rw [hW]; exact allocs_old _ _ k (hS k e)
  have lx := hx.len
  have ly := hy.len
  have nil2 : ∀ (e : TypeId) (s : Nat), RdG W (fun k => k < W.heap.size) e s (.slice none 0 0) 0 [] := fun e s => RdG.nil _ _ _ _
  refine ⟨own_block (hn 9 _ rfl) rfl (by decide) (by omega), rfl, fun i hi => ?_⟩
  have hi : i < 6 := hi
  obtain rfl | rfl | rfl | rfl | rfl | rfl : i = 0 ∨ i = 1 ∨ i = 2 ∨ i = 3 ∨ i = 4 ∨ i = 5 := by omega
  · exact CmdAt.of (nil2 _ _) (nil2 _ _) (nil2 _ _) (kc := [cx]) (own_block (cur := [cx].flatten) (by have := hn 0 _ rfl; simpa using this) (by simp [lx]) (by decide) (by show w.heap.size < W.heap.size; omega)) (KidsAt.one mx) (pc := []) (bc := []) (nil2 _ _) ArmsAt.nil
  · exact CmdAt.of (nil2 _ _) (nil2 _ _) (nil2 _ _) (kc := [cx]) (own_block (cur := [cx].flatten) (by have := hn 1 _ rfl; simpa using this) (by simp [lx]) (by decide) (by show w.heap.size + 1 < W.heap.size; omega)) (KidsAt.one mx) (pc := []) (bc := []) (nil2 _ _) ArmsAt.nil
  · exact CmdAt.of (nil2 _ _) (nil2 _ _) (nil2 _ _) (kc := [cx, cy]) (own_block (cur := [cx, cy].flatten) (by have := hn 2 _ rfl; simpa using this) (by simp [lx, ly]) (by decide) (by show w.heap.size + 2 < W.heap.size; omega)) (kid_two mx my) (pc := []) (bc := []) (nil2 _ _) ArmsAt.nil
  · exact CmdAt.of (nil2 _ _) (nil2 _ _) (nil2 _ _) (kc := [cx, cy]) (own_block (cur := [cx, cy].flatten) (by have := hn 3 _ rfl; simpa using this) (by simp [lx, ly]) (by decide) (by show w.heap.size + 3 < W.heap.size; omega)) (kid_two mx my) (pc := []) (bc := []) (nil2 _ _) ArmsAt.nil
  · exact CmdAt.of (nil2 _ _) (own_block (cur := strV [bI, b1, b2]) (hn 4 _ rfl) rfl (by decide) (by show w.heap.size + 4 < W.heap.size; omega)) (nil2 _ _) (kc := [cx]) (own_block (cur := [cx].flatten) (by have := hn 5 _ rfl; simpa using this) (by simp [lx]) (by decide) (by show w.heap.size + 5 < W.heap.size; omega)) (KidsAt.one mx) (pc := []) (bc := []) (nil2 _ _) ArmsAt.nil
  · exact CmdAt.of (nil2 _ _) (own_block (cur := strV [bWw]) (hn 6 _ rfl) rfl (by decide) (by show w.heap.size + 6 < W.heap.size; omega)) (nil2 _ _) (kc := []) (nil2 _ _) KidsAt.nil (pc := [.slice (some ⟨w.heap.size + 7, 0, none⟩) 1 1]) (bc := [cx]) (own_block (cur := ArmC [.slice (some ⟨w.heap.size + 7, 0, none⟩) 1 1] [cx]) (by have := hn 8 _ rfl; simpa [ArmC] using this) (by simp [ArmC, lx]) (by decide) (by show w.heap.size + 8 < W.heap.size; omega))
      (arm_one (own_block (cur := strV [bPp]) (hn 7 _ rfl) rfl (by decide) (by show w.heap.size + 7 < W.heap.size; omega)) mx)
end Go.Proofs.YtioddclglemlmaaGreatDoor
