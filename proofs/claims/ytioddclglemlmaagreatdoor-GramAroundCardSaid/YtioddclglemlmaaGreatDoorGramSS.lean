/- Two lists of texts that are one. Two commands that are one tree. Two lists of commands that are one. The laws' number of an error. Conditions: as each part says. -/
import Derived.Test.YtioddclglemlmaaGreatDoorGramR
import Derived.Test.YtioddclglemlmaaGreatDoorGramKi
/- Two lists of texts that are one; conditions: lists that lie in memory. -/
namespace Go.Proofs.YtioddclglemlmaaGreatDoor
open Go.RowKit

theorem strV_get {xs : List ByteArray} {k : Nat} (h : k < xs.length) : (strV xs)[k]? = some (.string xs[k]) := by simp [strV, h]
theorem OwnG.addr {w : World} {base : Nat} {e : TypeId} {size : Nat} {A : Option Addr} {c n : Nat} {xs : List Value} (h : OwnG w base e size (.slice A n c) n xs) (hn : 0 < n) : ∃ g, A = some ⟨g, 0, none⟩ := by
  rcases h.2 with ⟨h2, h3⟩ | ⟨g, cap, cur, h3, _⟩
  · omega
  · cases h3; exact ⟨g, rfl⟩
theorem OwnG.len_le {w : World} {base : Nat} {e : TypeId} {size : Nat} {v : Value} {n : Nat} {xs : List Value} (h : OwnG w base e size v n xs) : n ≤ maxLen := by
  obtain ⟨A, c, _, h1, h2⟩ := h.form
  omega
theorem OwnG.drewN {w : World} {base : Nat} {e : TypeId} {size : Nat} {v : Value} {n : Nat} {xs : List Value} (h : OwnG w base e size v n xs) (m : Nat) : OwnG (w.drewN m) base e size v n xs := h.move fun _ _ => rfl
set_option maxRecDepth 100000 in
set_option maxHeartbeats 1000000 in
theorem texts_self (w : World) (v1 v2 : Value) (xs : List ByteArray) (h1 : OwnG w 0 9 1 v1 xs.length (strV xs)) (h2 : OwnG w 0 9 1 v2 xs.length (strV xs)) :
    Calls Tryz.prog 15 #[v1, v2] w fun e w' => e = .returned (.bool true) ∧ ∃ m, w' = w.drewN m := by
  have hle := h1.len_le
  obtain ⟨A, c, rfl, _, _⟩ := id h1.form
  obtain ⟨B, d, rfl, _, _⟩ := id h2.form
  obtain ⟨N, hN⟩ : ∃ N, xs.length = N := ⟨_, rfl⟩
  rw [hN] at h1 h2 hle ⊢
  have HN := Lib.hid hN
  have H1 := Lib.hid h1
  have H2 := Lib.hid h2
  unfold maxLen at hle
  clear h1 h2 hN
  go_enter Tryz.func15, Tryz.ntmps15
  go_wp2
  go_loopw [5] (fun i wi => ∃ k : Nat, i = .int .i64 k ∧ k ≤ N ∧ ∃ m, wi = w.drewN m) (fun i _ => N - (intOf i).toNat)
  case atStart => exact ⟨0, rfl, Nat.zero_le _, 0, rfl⟩
  case round =>
    obtain ⟨k, rfl, hk, m, hwr⟩ := hrel
    have HWR := Lib.hid hwr
    by_cases hlt : k < N
    · obtain ⟨g, rfl⟩ := H1.out.addr (by omega)
      obtain ⟨g2, rfl⟩ := H2.out.addr (by omega)
      have hx : (strV xs)[k]? = some (.string (xs[k]'(by rw [HN.out]; exact hlt))) := strV_get _
      have kx : wr.cell? ⟨g, k, none⟩ = some (.string (xs[k]'(by rw [HN.out]; exact hlt))) := (by rw [hwr]; exact (H1.out.drewN m).cells k _ hx)
      have ky : wr.cell? ⟨g2, k, none⟩ = some (.string (xs[k]'(by rw [HN.out]; exact hlt))) := (by rw [hwr]; exact (H2.out.drewN m).cells k _ hx)
      clear hwr
      have q1 : ((k : Int) < N) := by omega
      generalize xs[k]'(by rw [HN.out]; exact hlt) = x at kx ky
      have hb : (x.toList == x.toList) = true := beq_self_eq_true _
      clear hx
      go_wp2
      go_quiet (fail)
      go_wp2
      exact ⟨⟨k + 1, by go_num, by omega, _, by rw [HWR.out, World.drewN_drewN]⟩, by simp [intOf]; omega⟩
    · clear hwr
      go_wp2
      go_ret
      exact ⟨rfl, _, HWR.out⟩
end Go.Proofs.YtioddclglemlmaaGreatDoor

/- Two commands that are one tree; conditions: trees that lie in memory. -/
namespace Go.Proofs.YtioddclglemlmaaGreatDoor
open Go.RowKit

theorem flat_get {α : Type} (d : α) : ∀ (l : List (List α)) (k : Nat) (m : Nat), (∀ c ∈ l, c.length = m) → k < l.length → ∀ j, j < m → (l.flatten)[k * m + j]? = some ((l.getD k []).getD j d)
  | [], k, m, _, h, _, _ => absurd h (Nat.not_lt_zero _)
  | c :: l, 0, m, hl, _, j, hj => by
    have hc := hl c (List.mem_cons_self ..)
    rw [Nat.zero_mul, Nat.zero_add, List.flatten_cons, List.getElem?_append_left (by omega), List.getD_cons_zero, List.getD_eq_getElem?_getD, List.getElem?_eq_getElem (by omega)]
    rfl
  | c :: l, k + 1, m, hl, h, j, hj => by
    have hc := hl c (List.mem_cons_self ..)
    rw [List.flatten_cons, List.getElem?_append_right (by rw [Nat.add_mul]; omega), List.getD_cons_succ, ← flat_get d l k m (fun c hc => hl c (List.mem_cons_of_mem _ hc)) (Nat.lt_of_succ_lt_succ h) j hj]
    congr 1
    rw [Nat.add_mul]; omega
/-- all blocks of a tree stand in the heap -/
theorem RdG.lt {W : World} {S : Nat → Prop} {e : TypeId} {size : Nat} {v : Value} {n : Nat} {xs : List Value} (h : RdG W S e size v n xs) : RdG W (fun k => S k ∧ k < W.heap.size) e size v n xs := ⟨h.1, fun k hk => ⟨h.2 k hk, (h.1.block_lt k hk).2⟩⟩
theorem CmdAt.lt {W : World} {S : Nat → Prop} {c : List Value} {t : CmdT} (h : CmdAt W S c t) : CmdAt W (fun k => S k ∧ k < W.heap.size) c t := by
  induction h with
  | mk kc pc bc h0 h1 h2 h3 h4 h5 _ h7 h8 h9 h10 h11 _ ih6 ih12 =>
    exact .mk kc pc bc h0 h1.lt h2.lt h3.lt h4.lt h5 ih6 h7.lt h8 h9 h10 (fun i hi => (h11 i hi).lt) ih12
/-- a list's k-th command: its cells -/
theorem kid_cells {W : World} {S S' : Nat → Prop} {v : Value} {n : Nat} {kc : List (List Value)} {kids : List CmdT} (ho : RdG W S 28 7 v n kc.flatten) (hk : KidsAt W S' kc kids) {k : Nat} (h : k < kids.length) {g c : Nat} (hv : v = .slice (some ⟨g, 0, none⟩) n c) :
    ∀ j, j < 7 → W.cell? ⟨g, k * 7 + j, none⟩ = some ((kc.getD k []).getD j undef) := by
  intro j hj
  subst hv
  refine ho.1.cells _ _ (flat_get undef kc k 7 (fun c hc => ?_) (by rw [hk.1]; exact h) j hj)
  obtain ⟨i, hi, rfl⟩ := List.getElem_of_mem hc
  have := (hk.2 i (by rw [← hk.1]; exact hi)).len
  rwa [List.getD_eq_getElem?_getD, List.getElem?_eq_getElem hi] at this
theorem row7 {W : World} {b : Nat} {a0 a1 a2 a3 a4 a5 a6 : Value} (h : W.heap[b]? = some (.cells #[a0, a1, a2, a3, a4, a5, a6] 28 (0, 0))) :
    W.cell? ⟨b, 0, none⟩ = some a0 ∧ W.cell? ⟨b, 1, none⟩ = some a1 ∧ W.cell? ⟨b, 2, none⟩ = some a2 ∧ W.cell? ⟨b, 3, none⟩ = some a3 ∧ W.cell? ⟨b, 4, none⟩ = some a4 ∧ W.cell? ⟨b, 5, none⟩ = some a5 ∧ W.cell? ⟨b, 6, none⟩ = some a6 :=
  ⟨(rowc h (j := 0) rfl).1, (rowc h (j := 1) rfl).1, (rowc h (j := 2) rfl).1, (rowc h (j := 3) rfl).1, (rowc h (j := 4) rfl).1, (rowc h (j := 5) rfl).1, (rowc h (j := 6) rfl).1⟩
/-- a list's k-th arm: its cells -/
theorem arm8_cells {W : World} {S S' : Nat → Prop} {v : Value} {n : Nat} {pc : List Value} {bc : List (List Value)} {pats : List (List ByteArray)} {bodies : List CmdT} (ho : RdG W S 37 8 v n (ArmC pc bc)) (hk : ArmsAt W S' pc bc pats bodies) {k : Nat} (h : k < pats.length) {g c : Nat} (hv : v = .slice (some ⟨g, 0, none⟩) n c) :
    W.cell? ⟨g, k * 8, none⟩ = some (pc.getD k undef) ∧ ∀ j, j < 7 → W.cell? ⟨g, k * 8 + (j + 1), none⟩ = some ((bc.getD k []).getD j undef) := by
  subst hv
  obtain ⟨h1, h2, h3, h4, h5⟩ := hk
  have hz : (pc.zip bc).length = pats.length := by rw [List.length_zip, h1, h2, ← h3, Nat.min_self]
  have hl : ∀ c ∈ (pc.zip bc).map (fun x => x.1 :: x.2), c.length = 8 := by
    intro c hc
    obtain ⟨i, hi, rfl⟩ := List.getElem_of_mem hc
    rw [List.length_map, hz] at hi
    have := (h5 i (by omega)).len
    rw [List.getD_eq_getElem?_getD, List.getElem?_eq_getElem (by omega)] at this
    simp only [List.getElem_map, List.getElem_zip, List.length_cons]
    simpa using this
  have hg := flat_get undef ((pc.zip bc).map (fun x => x.1 :: x.2)) k 8 hl (by rw [List.length_map, hz]; exact h)
  have e : ((pc.zip bc).map (fun x => x.1 :: x.2)).getD k [] = pc.getD k undef :: bc.getD k [] := by
    rw [List.getD_eq_getElem?_getD, List.getElem?_eq_getElem (by rw [List.length_map, hz]; exact h)]
    simp only [List.getElem_map, List.getElem_zip, Option.getD_some]
    rw [List.getD_eq_getElem?_getD, List.getElem?_eq_getElem (by omega), List.getD_eq_getElem?_getD, List.getElem?_eq_getElem (by omega)]
    rfl
  rw [e] at hg
  refine ⟨?_, fun j hj => ?_⟩
  · have := ho.1.cells _ _ (hg 0 (by omega))
    rwa [List.getD_cons_zero, Nat.add_zero] at this
  · have := ho.1.cells _ _ (hg (j + 1) (by omega))
    rwa [List.getD_cons_succ] at this
/-- the worlds of Same: two boxes -/
structure SmW (w wi : World) (r1 r2 : Array Value) : Prop where
  below : Below w.heap.size w wi
  one : wi.heap[w.heap.size]? = some (.cells r1 28 (0, 0))
  two : wi.heap[w.heap.size + 1]? = some (.cells r2 28 (0, 0))
theorem SmW.start (w : World) (r1 r2 : Array Value) : SmW w ((w.alloc (.cells r1 28)).alloc (.cells r2 28)) r1 r2 := by
  have e2 := heap_alloc_last (w.alloc (.cells r1 28)) (.cells r2 28)
  have e1 := (Below.heap_alloc (w.alloc (.cells r1 28)) (.cells r2 28) w.heap.size (by simp)).trans (heap_alloc_last w (.cells r1 28))
  rw [World.size_alloc] at e2
  exact ⟨((Below.refl _ w).alloc (Nat.le_refl _) _).alloc (by simp) _, e1, e2⟩
theorem SmW.next {w wi wj : World} {r1 r2 : Array Value} (h : SmW w wi r1 r2) (hb : Below wi.heap.size wi wj) : SmW w wj r1 r2 :=
  ⟨h.below.trans (hb.mono h.below.size), (hb.block _ (lt_of_block h.one)).trans h.one, (hb.block _ (lt_of_block h.two)).trans h.two⟩
theorem SmW.drewN {w wi : World} {r1 r2 : Array Value} (h : SmW w wi r1 r2) (m : Nat) : SmW w (wi.drewN m) r1 r2 := h.next (below_drewN (Below.refl _ _) m)
/-- what a call of Same at a tree tells, wherever it lies again -/
def SameQ (W : World) (S : Nat → Prop) (c1 : List Value) (t : CmdT) : Prop := ∀ (w : World) (S2 : Nat → Prop) (c2 : List Value), (∀ k, S k → w.heap[k]? = W.heap[k]?) → CmdAt w S2 c2 t →
    Calls Tryz.prog 11 #[.agg c1.toArray, .agg c2.toArray] w fun e w' => e = .returned (.bool true) ∧ Below w.heap.size w w'
theorem redV_get : ∀ (rs : List (ByteArray × ByteArray)) (k : Nat), k < rs.length → ∃ a b, (redV rs)[k * 2]? = some (.string a) ∧ (redV rs)[k * 2 + 1]? = some (.string b)
  | [], _, h => absurd h (Nat.not_lt_zero _)
  | (a, b) :: rs, 0, _ => ⟨a, b, rfl, rfl⟩
  | (a, b) :: rs, k + 1, h => by
    have ih := redV_get rs k (Nat.lt_of_succ_lt_succ h)
    rw [show (k + 1) * 2 = k * 2 + 2 by omega]
    exact ih
set_option maxRecDepth 100000 in
set_option maxHeartbeats 4000000 in
theorem Same_step {W : World} {S : Nat → Prop} (hSW : ∀ k, S k → k < W.heap.size) {kind : Int} {no : Bool} {az ws : List ByteArray} {rs : List (ByteArray × ByteArray)} {kids : List CmdT} {pats : List (List ByteArray)} {bodies : List CmdT} {va vw vr vk vm : Value} (kc : List (List Value)) (pc : List Value) (bc : List (List Value))
    (h1 : RdG W S 9 1 va az.length (strV az)) (h2 : RdG W S 9 1 vw ws.length (strV ws)) (h3 : RdG W S 52 2 vr rs.length (redV rs)) (h4 : RdG W S 28 7 vk kids.length kc.flatten) (h5 : KidsAt W S kc kids) (h6 : RdG W S 37 8 vm pats.length (ArmC pc bc)) (h7 : ArmsAt W S pc bc pats bodies)
    (ihk : ∀ i, i < kids.length → SameQ W S (kc.getD i []) (kids.getD i (.leaf 0))) (ihb : ∀ i, i < bodies.length → SameQ W S (bc.getD i []) (bodies.getD i (.leaf 0))) :
    SameQ W S [.int .i64 kind, .bool no, va, vw, vr, vk, vm] (.mk kind no az ws rs kids pats bodies) := by
  intro w S2 c2 hS hc2
  have hSw : ∀ k, S k → k < w.heap.size := fun k hk => by
    have := hS k hk
    rw [Array.getElem?_eq_getElem (hSW k hk)] at this
    exact (Array.getElem?_eq_some_iff.1 this).1
  have hc2 := hc2.lt
  generalize hS3 : (fun k => S2 k ∧ k < w.heap.size) = S3 at hc2
  have hS3 : ∀ k, S3 k → k < w.heap.size := fun k hk => by rw [← hS3] at hk; exact hk.2
  cases hc2 with
  | @mk _ _ _ _ _ _ _ _ ua uw ur uk um kc2 pc2 bc2 g0 g1 g2 g3 g4 g5 g6 g7 g8 g9 g10 g11 g12 =>
    obtain ⟨A2, m2, rfl⟩ := h1.form
    obtain ⟨A3, m3, rfl⟩ := h2.form
    obtain ⟨A4, m4, rfl⟩ := h3.form
    obtain ⟨A5, m5, rfl⟩ := h4.form
    obtain ⟨A6, m6, rfl⟩ := h6.form
    obtain ⟨B2, n2, rfl⟩ := g1.form
    obtain ⟨B3, n3, rfl⟩ := g2.form
    obtain ⟨B4, n4, rfl⟩ := g3.form
    obtain ⟨B5, n5, rfl⟩ := g4.form
    obtain ⟨B6, n6, rfl⟩ := g7.form
    have LR := h3.1.len_le
    have LK := h4.1.len_le
    have LM := h6.1.len_le
    unfold maxLen at LR LK LM
    have mv1 : ∀ wi, Below w.heap.size w wi → ∀ k, S k → wi.heap[k]? = W.heap[k]? := fun wi hb k hk => (hb.block k (hSw k hk)).trans (hS k hk)
    have mv2 : ∀ wi, Below w.heap.size w wi → ∀ k, S3 k → wi.heap[k]? = w.heap[k]? := fun wi hb k hk => hb.block k (hS3 k hk)
    have HA := Lib.hid fun wi (hb : Below w.heap.size w wi) => texts_self wi _ _ az (h1.move (S' := S) (fun _ e => e) (mv1 wi hb)).1 (g1.move (S' := S3) (fun _ e => e) (mv2 wi hb)).1
    have HWd := Lib.hid fun wi (hb : Below w.heap.size w wi) => texts_self wi _ _ ws (h2.move (S' := S) (fun _ e => e) (mv1 wi hb)).1 (g2.move (S' := S3) (fun _ e => e) (mv2 wi hb)).1
    have HRd := Lib.hid fun wi (hb : Below w.heap.size w wi) => And.intro (h3.move (S' := S) (fun _ e => e) (mv1 wi hb)).1 (g3.move (S' := S3) (fun _ e => e) (mv2 wi hb)).1
    have HKd := Lib.hid fun wi (hb : Below w.heap.size w wi) => And.intro (h4.move (S' := S) (fun _ e => e) (mv1 wi hb)) (g4.move (S' := S3) (fun _ e => e) (mv2 wi hb))
    have HKs := Lib.hid fun wi (hb : Below w.heap.size w wi) => And.intro (h5.move (S' := S) (fun _ e => e) (mv1 wi hb)) ((show KidsAt w S3 kc2 kids from ⟨g5, g6⟩).move (S' := S3) (fun _ e => e) (mv2 wi hb))
    have HMd := Lib.hid fun wi (hb : Below w.heap.size w wi) => And.intro (h6.move (S' := S) (fun _ e => e) (mv1 wi hb)) (RdG.move (xs := ArmC pc2 bc2) (S' := S3) g7 (fun _ e => e) (mv2 wi hb))
    have HMs := Lib.hid fun wi (hb : Below w.heap.size w wi) => And.intro (h7.move (S' := S) (fun _ e => e) (mv1 wi hb)) ((show ArmsAt w S3 pc2 bc2 pats bodies from ⟨g8, g9, g10, g11, g12⟩).move (S' := S3) (fun _ e => e) (mv2 wi hb))
    have MV := Lib.hid mv1
    have IHK := Lib.hid ihk
    have IHB := Lib.hid ihb
    obtain ⟨NR, hNR⟩ : ∃ n, rs.length = n := ⟨_, rfl⟩
    obtain ⟨NK, hNK⟩ : ∃ n, kids.length = n := ⟨_, rfl⟩
    obtain ⟨NM, hNM⟩ : ∃ n, pats.length = n := ⟨_, rfl⟩
    rw [hNR] at LR
    rw [hNK] at LK
    rw [hNM] at LM
    rw [hNR] at HRd
    rw [hNK] at HKd
    rw [hNM] at HMd
    obtain ⟨NA, hNA⟩ : ∃ n, az.length = n := ⟨_, rfl⟩
    obtain ⟨NW, hNW⟩ : ∃ n, ws.length = n := ⟨_, rfl⟩
    rw [hNA] at HA
    rw [hNW] at HWd
    rw [hNR, hNK, hNM, hNA, hNW]
    have HNR := Lib.hid hNR
    have HNK := Lib.hid hNK
    have HNM := Lib.hid hNM
    have HST := Lib.hid (SmW.start w #[.int .i64 kind, .bool no, .slice A2 NA m2, .slice A3 NW m3, .slice A4 NR m4, .slice A5 NK m5, .slice A6 NM m6] #[.int .i64 kind, .bool no, .slice B2 NA n2, .slice B3 NW n3, .slice B4 NR n4, .slice B5 NK n5, .slice B6 NM n6])
    have hkk : (kind != kind) = false := by simp
    have hnn : (no != no) = false := by simp
    clear h1 h2 h3 h4 h5 h6 h7 g0 g1 g2 g3 g4 g5 g6 g7 g8 g9 g10 g11 g12 mv1 mv2 ihk ihb hS hSw hS3 hNR hNK hNM hNA hNW
    obtain ⟨w2, hw2⟩ : ∃ w2, (w.alloc (.cells #[.int .i64 kind, .bool no, .slice A2 NA m2, .slice A3 NW m3, .slice A4 NR m4, .slice A5 NK m5, .slice A6 NM m6] 28)).alloc (.cells #[.int .i64 kind, .bool no, .slice B2 NA n2, .slice B3 NW n3, .slice B4 NR n4, .slice B5 NK n5, .slice B6 NM n6] 28) = w2 := ⟨_, rfl⟩
    rw [hw2] at HST
    have HW2 := Lib.hid hw2
    clear hw2
    go_enter Tryz.func11, Tryz.ntmps11
    go_wp2_with fail
    rw [HW2.out]
    refine (HA.out w2 HST.out.below).mono ?_
    rintro e w3 ⟨rfl, ma, hw3⟩
    have H3 := Lib.hid (by rw [hw3]; exact HST.out.drewN ma : SmW w w3 _ _)
    obtain ⟨x0, x1, x2, x3, x4, x5, x6⟩ := row7 H3.out.one
    obtain ⟨y0, y1, y2, y3, y4, y5, y6⟩ := row7 H3.out.two
    clear hw3
    go_wp2_with fail
    refine (HWd.out w3 H3.out.below).mono ?_
    rintro e w4 ⟨rfl, mb, hw4⟩
    have H4 := Lib.hid (by rw [hw4]; exact H3.out.drewN mb : SmW w w4 _ _)
    clear x0 x1 x2 x3 x4 x5 x6 y0 y1 y2 y3 y4 y5 y6 hw4
    go_wp2
    go_loopw [7] (fun i wi => ∃ k : Nat, i = .int .i64 k ∧ k ≤ NR ∧ SmW w wi #[.int .i64 kind, .bool no, .slice A2 NA m2, .slice A3 NW m3, .slice A4 NR m4, .slice A5 NK m5, .slice A6 NM m6] #[.int .i64 kind, .bool no, .slice B2 NA n2, .slice B3 NW n3, .slice B4 NR n4, .slice B5 NK n5, .slice B6 NM n6]) (fun i _ => NR - (intOf i).toNat)
    case atStart => exact ⟨0, rfl, Nat.zero_le _, H4.out⟩
    case round =>
      obtain ⟨k, rfl, hk, hsm⟩ := hrel
      have HSM := Lib.hid hsm
      obtain ⟨x0, x1, x2, x3, x4, x5, x6⟩ := row7 hsm.one
      obtain ⟨y0, y1, y2, y3, y4, y5, y6⟩ := row7 hsm.two
      clear hsm H4
      by_cases hlt : k < NR
      · obtain ⟨o1, o2⟩ := HRd.out wr HSM.out.below
        obtain ⟨g1, rfl⟩ := o1.addr (by omega)
        obtain ⟨g2, rfl⟩ := o2.addr (by omega)
        obtain ⟨ta, tb, ha, hb⟩ := redV_get rs k (by rw [HNR.out]; exact hlt)
        have p1 := o1.cells _ _ ha
        have p2 := o1.cells _ _ hb
        have p3 := o2.cells _ _ ha
        have p4 := o2.cells _ _ hb
        have q1 : ((k : Int) < NR) := by omega
        have hta : (ta.toList == ta.toList) = true := beq_self_eq_true _
        have htb : (tb.toList == tb.toList) = true := beq_self_eq_true _
        clear o1 o2 ha hb
        go_wp2
        go_quiet (fail)
        go_wp2
        exact ⟨⟨k + 1, by go_num, by omega, HSM.out.drewN _⟩, by simp [intOf]; omega⟩
      · clear HRd
        go_wp2
        clear x0 x1 x2 x3 x4 x5 x6 y0 y1 y2 y3 y4 y5 y6
        go_loopw [8, 9] (fun i _ wi => ∃ k : Nat, i = .int .i64 k ∧ k ≤ NK ∧ SmW w wi #[.int .i64 kind, .bool no, .slice A2 NA m2, .slice A3 NW m3, .slice A4 NR m4, .slice A5 NK m5, .slice A6 NM m6] #[.int .i64 kind, .bool no, .slice B2 NA n2, .slice B3 NW n3, .slice B4 NR n4, .slice B5 NK n5, .slice B6 NM n6]) (fun i _ _ => NK - (intOf i).toNat)
        case atStart => exact ⟨0, rfl, Nat.zero_le _, HSM.out⟩
        case round =>
          clear hlt hk
          obtain ⟨j, rfl, hk, hsm⟩ := hrel
          have HSN := Lib.hid hsm
          obtain ⟨x0, x1, x2, x3, x4, x5, x6⟩ := row7 hsm.one
          obtain ⟨y0, y1, y2, y3, y4, y5, y6⟩ := row7 hsm.two
          clear hsm HSM
          by_cases hlt : j < NK
          · obtain ⟨o1, o2⟩ := HKd.out wr HSN.out.below
            obtain ⟨g1, rfl⟩ := o1.1.addr (by omega)
            obtain ⟨g2, rfl⟩ := o2.1.addr (by omega)
            obtain ⟨s1, s2⟩ := HKs.out wr HSN.out.below
            have hkl : j < kids.length := by rw [HNK.out]; exact hlt
            have p := kid_cells o1 s1 hkl rfl
            have q := kid_cells o2 s2 hkl rfl
            have t1 := s1.2 j hkl
            have t2 := s2.2 j hkl
            have hcall := Lib.hid fun wi (hb : Below wr.heap.size wr wi) => IHK.out j hkl wi S3 (kc2.getD j []) (MV.out wi (HSN.out.below.trans (hb.mono HSN.out.below.size))) (((HKs.out wi (HSN.out.below.trans (hb.mono HSN.out.below.size))).2).2 j hkl)
            obtain ⟨kd, nn, D2, d2, e2, D3, d3, e3, D4, d4, e4, D5, d5, e5, D6, d6, e6, h7⟩ := t1.lit
            obtain ⟨kd', nn', F2, f2, i2, F3, f3, i3, F4, f4, i4, F5, f5, i5, F6, f6, i6, h8⟩ := t2.lit
            rw [h7] at p hcall
            rw [h8] at q hcall
            have p0 := p 0 (by decide)
            have p1 := p 1 (by decide)
            have p2 := p 2 (by decide)
            have p3 := p 3 (by decide)
            have p4 := p 4 (by decide)
            have p5 := p 5 (by decide)
            have p6 := p 6 (by decide)
            have q0 := q 0 (by decide)
            have q1 := q 1 (by decide)
            have q2 := q 2 (by decide)
            have q3 := q 3 (by decide)
            have q4 := q 4 (by decide)
            have q5 := q 5 (by decide)
            have q6 := q 6 (by decide)
            simp only [List.getD_cons_zero, List.getD_cons_succ, Nat.add_zero] at p0 p1 p2 p3 p4 p5 p6 q0 q1 q2 q3 q4 q5 q6
            have qk : ((j : Int) < NK) := by omega
            clear o1 o2 s1 s2 p q t1 t2 h7 h8
            go_wp2
            go_still_tail 10, (by kernel_rfl)
            change wpList _ _ _ _ _ wr.drew
            have HB5 := Lib.hid (below_drewN (Below.refl wr.heap.size wr) 1)
            obtain ⟨w5, hw5⟩ : ∃ w5, wr.drew = w5 := ⟨_, rfl⟩
            have HB5 : Hid (Below wr.heap.size wr w5) := by rw [← hw5]; exact HB5.out
            rw [hw5]
            have HC := Lib.hid (hcall.out w5 HB5.out)
            have HS5 := Lib.hid (HSN.out.next HB5.out)
            clear hw5 hcall x0 x1 x2 x3 x4 x5 x6 y0 y1 y2 y3 y4 y5 y6 p0 p1 p2 p3 p4 p5 p6 q0 q1 q2 q3 q4 q5 q6
            go_wp2_with fail
            refine HC.out.mono ?_
            rintro e w6 ⟨rfl, hb6⟩
            have HS6 := Lib.hid (HS5.out.next hb6)
            clear hb6
            go_wp2
            exact ⟨⟨j + 1, by go_num, by omega, HS6.out⟩, by simp [intOf]; omega⟩
          · clear HKd HKs IHK
            go_wp2
            clear x0 x1 x2 x3 x4 x5 x6 y0 y1 y2 y3 y4 y5 y6 hlt hk
            go_loopw [10, 11, 12] (fun i _ _ wi => ∃ l : Nat, i = .int .i64 l ∧ l ≤ NM ∧ SmW w wi #[.int .i64 kind, .bool no, .slice A2 NA m2, .slice A3 NW m3, .slice A4 NR m4, .slice A5 NK m5, .slice A6 NM m6] #[.int .i64 kind, .bool no, .slice B2 NA n2, .slice B3 NW n3, .slice B4 NR n4, .slice B5 NK n5, .slice B6 NM n6]) (fun i _ _ _ => NM - (intOf i).toNat)
            case atStart => exact ⟨0, rfl, Nat.zero_le _, HSN.out⟩
            case round =>
              obtain ⟨l, rfl, hk, hsm⟩ := hrel
              have HSL := Lib.hid hsm
              obtain ⟨x0, x1, x2, x3, x4, x5, x6⟩ := row7 hsm.one
              obtain ⟨y0, y1, y2, y3, y4, y5, y6⟩ := row7 hsm.two
              clear hsm HSN
              by_cases hlt : l < NM
              · obtain ⟨o1, o2⟩ := HMd.out wr HSL.out.below
                obtain ⟨g1, rfl⟩ := o1.1.addr (by omega)
                obtain ⟨g2, rfl⟩ := o2.1.addr (by omega)
                obtain ⟨s1, s2⟩ := HMs.out wr HSL.out.below
                have hkl : l < pats.length := by rw [HNM.out]; exact hlt
                have hkb : l < bodies.length := by rw [← s1.2.2.1]; exact hkl
                obtain ⟨pp, p⟩ := arm8_cells o1 s1 hkl rfl
                obtain ⟨qq, q⟩ := arm8_cells o2 s2 hkl rfl
                have t1 := s1.2.2.2.2 l hkb
                have t2 := s2.2.2.2.2 l hkb
                have u1 := s1.2.2.2.1 l hkl
                have u2 := s2.2.2.2.1 l hkl
                have hcall := Lib.hid fun wi (hb : Below wr.heap.size wr wi) => IHB.out l hkb wi S3 (bc2.getD l []) (MV.out wi (HSL.out.below.trans (hb.mono HSL.out.below.size))) (((HMs.out wi (HSL.out.below.trans (hb.mono HSL.out.below.size))).2).2.2.2.2 l hkb)
                have htx := Lib.hid fun wi (hb : Below w.heap.size w wi) => texts_self wi _ _ _ ((HMs.out wi hb).1.2.2.2.1 l hkl).1 ((HMs.out wi hb).2.2.2.2.1 l hkl).1
                obtain ⟨kd, nn, D2, d2, e2, D3, d3, e3, D4, d4, e4, D5, d5, e5, D6, d6, e6, h7⟩ := t1.lit
                obtain ⟨kd', nn', F2, f2, i2, F3, f3, i3, F4, f4, i4, F5, f5, i5, F6, f6, i6, h8⟩ := t2.lit
                obtain ⟨G1, k1, h9⟩ := u1.form
                obtain ⟨G2, k2, h10⟩ := u2.form
                rw [h7] at p hcall
                rw [h8] at q hcall
                rw [h9] at pp htx
                rw [h10] at qq htx
                have p0 := p 0 (by decide)
                have p1 := p 1 (by decide)
                have p2 := p 2 (by decide)
                have p3 := p 3 (by decide)
                have p4 := p 4 (by decide)
                have p5 := p 5 (by decide)
                have p6 := p 6 (by decide)
                have q0 := q 0 (by decide)
                have q1 := q 1 (by decide)
                have q2 := q 2 (by decide)
                have q3 := q 3 (by decide)
                have q4 := q 4 (by decide)
                have q5 := q 5 (by decide)
                have q6 := q 6 (by decide)
                simp only [List.getD_cons_zero, List.getD_cons_succ, Nat.zero_add, Nat.reduceAdd] at p0 p1 p2 p3 p4 p5 p6 q0 q1 q2 q3 q4 q5 q6
                have qk : ((l : Int) < NM) := by omega
                have HAC := Lib.hid fun wi (hb : Below w.heap.size w wi) => And.intro (arm8_cells (HMd.out wi hb).1 (HMs.out wi hb).1 hkl rfl).1 (arm8_cells (HMd.out wi hb).2 (HMs.out wi hb).2 hkl rfl).1
                rw [h9, h10] at HAC
                generalize (pats.getD l []).length = PN at pp qq htx HAC h9 h10
                clear h9 h10
                clear o1 o2 s1 s2 p q t1 t2 u1 u2 h7 h8
                go_wp2
                go_still_tail 12, (by kernel_rfl)
                change wpList _ _ _ _ _ wr.drew
                have HB5 := Lib.hid (below_drewN (Below.refl wr.heap.size wr) 1)
                obtain ⟨w5, hw5⟩ : ∃ w5, wr.drew = w5 := ⟨_, rfl⟩
                have HB5 : Hid (Below wr.heap.size wr w5) := by rw [← hw5]; exact HB5.out
                rw [hw5]
                have HC := Lib.hid (hcall.out w5 HB5.out)
                have HS5 := Lib.hid (HSL.out.next HB5.out)
                clear hw5 hcall x0 x1 x2 x3 x4 x5 x6 y0 y1 y2 y3 y4 y5 y6 p0 p1 p2 p3 p4 p5 p6 q0 q1 q2 q3 q4 q5 q6 pp qq
                go_wp2_with fail
                refine HC.out.mono ?_
                rintro e w6 ⟨rfl, hb6⟩
                have HS6 := Lib.hid (HS5.out.next hb6)
                clear hb6
                obtain ⟨pp, qq⟩ := HAC.out w6 HS6.out.below
                obtain ⟨x0, x1, x2, x3, x4, x5, x6⟩ := row7 HS6.out.one
                obtain ⟨y0, y1, y2, y3, y4, y5, y6⟩ := row7 HS6.out.two
                have HT := Lib.hid fun n => htx.out (w6.drewN n) (below_drewN HS6.out.below n)
                go_wp2
                go_quiet (first | (go_at_call 15; exact Calls.quiet_of (HT.out _)) | fail)
                have HS7 := Lib.hid (HS6.out.drewN nq)
                go_wp2
                exact ⟨⟨l + 1, by go_num, by omega, HS7.out⟩, by simp [intOf]; omega⟩
              · go_wp2
                go_ret
                exact ⟨rfl, HSL.out.below⟩
theorem SameQ_of {W : World} {S : Nat → Prop} {c : List Value} {t : CmdT} (hS : ∀ k, S k → k < W.heap.size) (h : CmdAt W S c t) : SameQ W S c t := by
  induction h with
  | mk kc pc bc a0 a1 a2 a3 a4 a5 a6 a7 a8 a9 a10 a11 a12 ih6 ih12 =>
    exact Same_step hS kc pc bc a1 a2 a3 a4 ⟨a5, a6⟩ a7 ⟨a8, a9, a10, a11, a12⟩ ih6 ih12
/-- two trees that are one -/
theorem Same_any {W : World} {S1 S2 : Nat → Prop} {c1 c2 : List Value} {t : CmdT} (h1 : CmdAt W S1 c1 t) (h2 : CmdAt W S2 c2 t) : Calls Tryz.prog 11 #[.agg c1.toArray, .agg c2.toArray] W fun e w' => e = .returned (.bool true) ∧ Below W.heap.size W w' :=
  SameQ_of (fun _ hk => hk.2) h1.lt W S2 c2 (fun _ _ => rfl) h2
end Go.Proofs.YtioddclglemlmaaGreatDoor

/- Two lists of commands that are one; conditions: lists that lie in memory. -/
namespace Go.Proofs.YtioddclglemlmaaGreatDoor
open Go.RowKit

set_option maxRecDepth 100000 in
set_option maxHeartbeats 2000000 in
theorem same_any (w : World) {S1 S2 : Nat → Prop} {v1 v2 : Value} {kc1 kc2 : List (List Value)} {kids : List CmdT} (h1 : RdG w S1 28 7 v1 kids.length kc1.flatten) (h2 : RdG w S2 28 7 v2 kids.length kc2.flatten) (k1 : KidsAt w S1 kc1 kids) (k2 : KidsAt w S2 kc2 kids)
    (b1 : ∀ k, S1 k → k < w.heap.size) (b2 : ∀ k, S2 k → k < w.heap.size) :
    Calls Tryz.prog 10 #[v1, v2] w fun e w' => e = .returned (.bool true) ∧ Below w.heap.size w w' := by
  have hle := h1.1.len_le
  obtain ⟨A, c, rfl⟩ := h1.form
  obtain ⟨B, d, rfl⟩ := h2.form
  have HKd := Lib.hid fun wi (hb : Below w.heap.size w wi) => And.intro (h1.move (S' := S1) (fun _ e => e) fun k hk => hb.block k (b1 k hk)) (h2.move (S' := S2) (fun _ e => e) fun k hk => hb.block k (b2 k hk))
  have HKs := Lib.hid fun wi (hb : Below w.heap.size w wi) => And.intro (k1.move (S' := S1) (fun _ e => e) fun k hk => hb.block k (b1 k hk)) (k2.move (S' := S2) (fun _ e => e) fun k hk => hb.block k (b2 k hk))
  obtain ⟨N, hN⟩ : ∃ N, kids.length = N := ⟨_, rfl⟩
  rw [hN] at HKd hle ⊢
  have HN := Lib.hid hN
  unfold maxLen at hle
  clear h1 h2 hN k1 k2 b1 b2
  go_enter Tryz.func10, Tryz.ntmps10
  go_wp2
  go_loopw [5, 6] (fun i _ wi => ∃ k : Nat, i = .int .i64 k ∧ k ≤ N ∧ Below w.heap.size w wi) (fun i _ _ => N - (intOf i).toNat)
  case atStart => exact ⟨0, rfl, Nat.zero_le _, Below.refl _ _⟩
  case round =>
    obtain ⟨j, rfl, hk, hbel⟩ := hrel
    have HB := Lib.hid hbel
    clear hbel
    by_cases hlt : j < N
    · obtain ⟨o1, o2⟩ := HKd.out wr HB.out
      obtain ⟨g1, rfl⟩ := o1.1.addr (by omega)
      obtain ⟨g2, rfl⟩ := o2.1.addr (by omega)
      obtain ⟨s1, s2⟩ := HKs.out wr HB.out
      have hkl : j < kids.length := by rw [HN.out]; exact hlt
      have p := kid_cells o1 s1 hkl rfl
      have q := kid_cells o2 s2 hkl rfl
      have t1 := s1.2 j hkl
      have t2 := s2.2 j hkl
      have hcall := Lib.hid fun wi (hb : Below wr.heap.size wr wi) => Same_any (((HKs.out wi (HB.out.trans (hb.mono HB.out.size))).1).2 j hkl) (((HKs.out wi (HB.out.trans (hb.mono HB.out.size))).2).2 j hkl)
      obtain ⟨kd, nn, D2, d2, e2, D3, d3, e3, D4, d4, e4, D5, d5, e5, D6, d6, e6, h7⟩ := t1.lit
      obtain ⟨kd', nn', F2, f2, i2, F3, f3, i3, F4, f4, i4, F5, f5, i5, F6, f6, i6, h8⟩ := t2.lit
      rw [h7] at p
      rw [h8] at q
      rw [h7, h8] at hcall
      have p0 := p 0 (by decide)
      have p1 := p 1 (by decide)
      have p2 := p 2 (by decide)
      have p3 := p 3 (by decide)
      have p4 := p 4 (by decide)
      have p5 := p 5 (by decide)
      have p6 := p 6 (by decide)
      have q0 := q 0 (by decide)
      have q1 := q 1 (by decide)
      have q2 := q 2 (by decide)
      have q3 := q 3 (by decide)
      have q4 := q 4 (by decide)
      have q5 := q 5 (by decide)
      have q6 := q 6 (by decide)
      simp only [List.getD_cons_zero, List.getD_cons_succ, Nat.add_zero] at p0 p1 p2 p3 p4 p5 p6 q0 q1 q2 q3 q4 q5 q6
      have qk : ((j : Int) < N) := by omega
      clear o1 o2 s1 s2 p q t1 t2 h7 h8
      go_wp2
      go_still_tail 8, (by kernel_rfl)
      change wpList _ _ _ _ _ wr.drew
      have HB5 := Lib.hid (below_drewN (Below.refl wr.heap.size wr) 1)
      obtain ⟨w5, hw5⟩ : ∃ w5, wr.drew = w5 := ⟨_, rfl⟩
      have HB5 : Hid (Below wr.heap.size wr w5) := by rw [← hw5]; exact HB5.out
      rw [hw5]
      have HC := Lib.hid (hcall.out w5 HB5.out)
      have HS5 := Lib.hid (HB.out.trans (HB5.out.mono HB.out.size))
      clear hw5 hcall p0 p1 p2 p3 p4 p5 p6 q0 q1 q2 q3 q4 q5 q6
      go_wp2_with fail
      refine HC.out.mono ?_
      rintro e w6 ⟨rfl, hb6⟩
      have HS6 := Lib.hid (HS5.out.trans (hb6.mono HS5.out.size))
      clear hb6
      go_wp2
      exact ⟨⟨j + 1, by go_num, by omega, HS6.out⟩, by simp [intOf]; omega⟩
    · go_wp2
      go_ret
      exact ⟨rfl, HB.out⟩
end Go.Proofs.YtioddclglemlmaaGreatDoor

/- The laws' number of an error; no condition. -/
namespace Go.Proofs.YtioddclglemlmaaGreatDoor
open Go.RowKit

set_option maxRecDepth 100000 in
theorem num_any (n : Int) (hn : -9223372036854775808 ≤ n ∧ n < 9223372036854775808) (w : World) : Calls Tryz.prog 8 #[.int .i64 n] w fun e w' => e = .returned (.int .i64 n) ∧ w' = w := by
  have wr : IntKind.i64.wrap n = n := IntWalk.i64_in _ (by omega)
  go_enter Tryz.func8, Tryz.ntmps8
  go_wp2
  go_ret
  exact ⟨rfl, rfl⟩
end Go.Proofs.YtioddclglemlmaaGreatDoor
