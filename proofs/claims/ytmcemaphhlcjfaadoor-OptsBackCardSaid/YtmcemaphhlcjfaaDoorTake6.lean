/- A line that is no assignment taken apart, in the reference, where no assignment follows; conditions: texts that lie in memory. -/
import Derived.Test.YtmcemaphhlcjfaaDoorTake5
namespace Go.Proofs.YtmcemaphhlcjfaaDoor
open Go.RowKit

set_option maxRecDepth 100000 in
set_option maxHeartbeats 8000000 in
theorem takeR_tail (s : ByteArray) (w : World) (hs : s.size ≤ 140737488351232) (h0 : ¬ scanI s bEC < 0) (h : setsB s (scanI s bEC).toNat = false) (ho : ownB (cutC (s.extract ((scanI s bEC).toNat + 1) s.size)) = false) :
    Calls Tryd.prog 12 #[.string s] w fun e w' => e = .returned (headV (takeP s)) ∧ Below w.heap.size w w' := by
  have HS : Hid (∀ w, Calls Tryd.prog 38 #[.string s, .string ⟨#[61, 58]⟩] w fun e w' => e = .returned (.int .i64 (scanI s bEC)) ∧ w' = w) := fun w => ScanR_any s bEC w hs (by decide)
  have hin := scanI_in s bEC
  obtain ⟨k, hk⟩ : ∃ k : Nat, scanI s bEC = k := ⟨(scanI s bEC).toNat, by omega⟩
  have HSe := Lib.hid fun w => sets_any s k w hs (by omega)
  have e1 : takeP s = restP (s.extract 0 k) (cutC (s.extract (k + 1) s.size)) (dblB (s.extract (k + 1) s.size)) := by unfold takeP; rw [if_neg h0, if_neg (by rw [h]; simp), hk, Int.toNat_natCast]
  rw [hk, Int.toNat_natCast] at h ho
  rw [hk] at HS
  rw [h] at HSe
  have hlt1 : k + 1 ≤ s.size := by omega
  have hlt0 : k ≤ s.size := by omega
  have w1 : IntKind.i64.wrap ((k : Int) + 1) = ((k + 1 : Nat) : Int) := by rw [IntWalk.i64_in _ (by omega)]; omega
  rw [e1]
  clear e1 hin h0 h hk
  have hrs : (s.extract (k + 1) s.size).size ≤ 140737488351232 := by simp; omega
  obtain ⟨r0, hr0⟩ : ∃ r0, s.extract (k + 1) s.size = r0 := ⟨_, rfl⟩
  rw [hr0] at hrs ho ⊢
  obtain ⟨r, hr⟩ : ∃ r, cutC r0 = r := ⟨_, rfl⟩
  have hrz : r.size ≤ 140737488351232 := by have := cutC_le r0; rw [hr] at this; omega
  rw [hr] at ho ⊢
  unfold restP
  rw [if_neg (by rw [ho]; simp)]
  have hq := scanI_in r bECS
  have hq2 := scanI_in r bS
  have HQ : Hid (∀ w, Calls Tryd.prog 38 #[.string r, .string ⟨#[61, 58, 59]⟩] w fun e w' => e = .returned (.int .i64 (scanI r bECS)) ∧ w' = w) := fun w => ScanR_any r bECS w hrz (by decide)
  have HQ2 : Hid (∀ w, Calls Tryd.prog 38 #[.string r, .string ⟨#[59]⟩] w fun e w' => e = .returned (.int .i64 (scanI r bS)) ∧ w' = w) := fun w => ScanR_any r bS w hrz (by decide)
  unfold ownB at ho
  have hcase : scanI r bECS = -1 ∨ ∃ q : Nat, scanI r bECS = q ∧ ∃ h : q < r.size, ((r[q].toNat : Int) = 59 ∨ (((r[q].toNat : Int) != 59) = true ∧ setsB r q = false)) := by
    rcases hq with hq | ⟨h1, h2⟩
    · exact .inl hq
    · right
      have hqr : (scanI r bECS).toNat < r.size := by omega
      refine ⟨(scanI r bECS).toNat, by omega, hqr, ?_⟩
      rw [decide_eq_true h1, Bool.true_and, ← bget r _ hqr] at ho
      have e : ((r[(scanI r bECS).toNat].toNat : Int) == 59) = (r[(scanI r bECS).toNat] == 59) := by generalize r[(scanI r bECS).toNat] = c; exact u8_eq c 59
      cases h3 : (r[(scanI r bECS).toNat] == 59)
      · right
        rw [bne, h3] at ho
        exact ⟨by rw [bne, e, h3]; rfl, by simpa using ho⟩
      · left
        rw [h3] at e
        exact beq_iff_eq.1 e
  have HSq := Lib.hid fun q w hq => sets_any r q w hrz hq
  unfold tailP
  have htail : (scanI r bS < 0 ∧ scanI r bS = -1) ∨ ∃ q2 : Nat, scanI r bS = q2 ∧ q2 < r.size := by
    rcases hq2 with hq | ⟨h1, h2⟩
    · left; omega
    · right; exact ⟨(scanI r bS).toNat, by omega, by omega⟩
  clear ho hq hq2
  generalize scanI r bECS = Q1 at *
  generalize scanI r bS = Q2 at *
  cases hd : dblB r0
  · skip
    have hr2 : r0 = r := by rw [cutC_eq r0 false hd] at hr; simpa using hr
    subst hr2
    clear hr
    by_cases hz0 : r0.size = 0
    · have q0 : ¬ (0 : Int) < r0.size := by omega
      clear hd
      rcases htail with ⟨t1, rfl⟩ | ⟨q2, rfl, t1⟩
      · skip
        rw [if_pos t1]
        clear t1
        rcases hcase with rfl | ⟨q, rfl, hqr, hs59 | ⟨hn59, hsf⟩⟩
        · skip
          go_enter Tryd.func12, Tryd.ntmps12
          go_wp2_with fail
          refine (HS.out _).mono ?_
          rintro e w' ⟨rfl, rfl⟩
          go_wp2_with fail
          refine (HSe.out _).mono ?_
          rintro e w' ⟨rfl, rfl⟩
          go_wp2_with fail
          refine (HQ.out _).mono ?_
          rintro e w' ⟨rfl, rfl⟩
          go_wp2_with fail
          refine (HQ2.out _).mono ?_
          rintro e w' ⟨rfl, rfl⟩
          go_wp2
          exact fin8w (tm := 2) (by kernel_rfl) rfl (.int .i64 2) (.string (s.extract 0 k)) (.string r0) (.string ⟨#[]⟩) (.string ⟨#[]⟩) (.int .i64 0) (.bool false) (.bool false) ((Below.heap_alloc _ _ _ (by simp)).trans (World.alloc_heap_new w _)) (((Below.refl _ w).alloc (Nat.le_refl _) _).alloc (by simp) _) rfl
        · skip
          exact absurd hqr (by omega)
        · skip
          exact absurd hqr (by omega)
      · skip
        exact absurd t1 (by omega)
    have hp0 : 0 < r0.size := by omega
    have q0 : (0 : Int) < r0.size := by omega
    have hx := hd58f r0 hp0 hd
    clear hd hz0
    rcases htail with ⟨t1, rfl⟩ | ⟨q2, rfl, t1⟩
    · skip
      rw [if_pos t1]
      clear t1
      rcases hcase with rfl | ⟨q, rfl, hqr, hs59 | ⟨hn59, hsf⟩⟩
      · skip
        go_enter Tryd.func12, Tryd.ntmps12
        go_wp2_with fail
        refine (HS.out _).mono ?_
        rintro e w' ⟨rfl, rfl⟩
        go_wp2_with fail
        refine (HSe.out _).mono ?_
        rintro e w' ⟨rfl, rfl⟩
        go_wp2_with fail
        refine (HQ.out _).mono ?_
        rintro e w' ⟨rfl, rfl⟩
        go_wp2_with fail
        refine (HQ2.out _).mono ?_
        rintro e w' ⟨rfl, rfl⟩
        go_wp2
        exact fin8w (tm := 2) (by kernel_rfl) rfl (.int .i64 2) (.string (s.extract 0 k)) (.string r0) (.string ⟨#[]⟩) (.string ⟨#[]⟩) (.int .i64 0) (.bool false) (.bool false) ((Below.heap_alloc _ _ _ (by simp)).trans (World.alloc_heap_new w _)) (((Below.refl _ w).alloc (Nat.le_refl _) _).alloc (by simp) _) rfl
      · skip
        have qn : (q : Int) < r0.size := by omega
        go_enter Tryd.func12, Tryd.ntmps12
        go_wp2_with fail
        refine (HS.out _).mono ?_
        rintro e w' ⟨rfl, rfl⟩
        go_wp2_with fail
        refine (HSe.out _).mono ?_
        rintro e w' ⟨rfl, rfl⟩
        go_wp2_with fail
        refine (HQ.out _).mono ?_
        rintro e w' ⟨rfl, rfl⟩
        go_wp2_with fail
        refine (HQ2.out _).mono ?_
        rintro e w' ⟨rfl, rfl⟩
        go_wp2
        exact fin8w (tm := 2) (by kernel_rfl) rfl (.int .i64 2) (.string (s.extract 0 k)) (.string r0) (.string ⟨#[]⟩) (.string ⟨#[]⟩) (.int .i64 0) (.bool false) (.bool false) ((Below.heap_alloc _ _ _ (by simp)).trans (World.alloc_heap_new w _)) (((Below.refl _ w).alloc (Nat.le_refl _) _).alloc (by simp) _) rfl
      · skip
        have qn : (q : Int) < r0.size := by omega
        have HSQ := Lib.hid fun w => HSq.out q w hqr
        rw [hsf] at HSQ
        clear hsf
        go_enter Tryd.func12, Tryd.ntmps12
        go_wp2_with fail
        refine (HS.out _).mono ?_
        rintro e w' ⟨rfl, rfl⟩
        go_wp2_with fail
        refine (HSe.out _).mono ?_
        rintro e w' ⟨rfl, rfl⟩
        go_wp2_with fail
        refine (HQ.out _).mono ?_
        rintro e w' ⟨rfl, rfl⟩
        go_wp2_with fail
        refine (HSQ.out _).mono ?_
        rintro e w' ⟨rfl, rfl⟩
        go_wp2_with fail
        refine (HQ2.out _).mono ?_
        rintro e w' ⟨rfl, rfl⟩
        go_wp2
        exact fin8w (tm := 2) (by kernel_rfl) rfl (.int .i64 2) (.string (s.extract 0 k)) (.string r0) (.string ⟨#[]⟩) (.string ⟨#[]⟩) (.int .i64 0) (.bool false) (.bool false) ((Below.heap_alloc _ _ _ (by simp)).trans (World.alloc_heap_new w _)) (((Below.refl _ w).alloc (Nat.le_refl _) _).alloc (by simp) _) rfl
    · skip
      rw [if_neg (by omega), Int.toNat_natCast]
      have HL := Lib.hid fun w => Left_any (r0.extract (q2 + 1) r0.size) w (by simp; omega)
      have v1 : IntKind.i64.wrap ((q2 : Int) + 1) = ((q2 + 1 : Nat) : Int) := by rw [IntWalk.i64_in _ (by omega)]; omega
      have v2 : q2 + 1 ≤ r0.size := by omega
      have v3 : q2 ≤ r0.size := by omega
      generalize lftB (r0.extract (q2 + 1) r0.size) = L at *
      rcases hcase with rfl | ⟨q, rfl, hqr, hs59 | ⟨hn59, hsf⟩⟩
      · skip
        go_enter Tryd.func12, Tryd.ntmps12
        go_wp2_with fail
        refine (HS.out _).mono ?_
        rintro e w' ⟨rfl, rfl⟩
        go_wp2_with fail
        refine (HSe.out _).mono ?_
        rintro e w' ⟨rfl, rfl⟩
        go_wp2_with fail
        refine (HQ.out _).mono ?_
        rintro e w' ⟨rfl, rfl⟩
        go_wp2_with fail
        refine (HQ2.out _).mono ?_
        rintro e w' ⟨rfl, rfl⟩
        go_wp2_with fail
        refine (HL.out _).mono ?_
        rintro e w' ⟨rfl, rfl⟩
        go_wp2
        exact fin8w (tm := 2) (by kernel_rfl) rfl (.int .i64 2) (.string (s.extract 0 k)) (.string (r0.extract 0 q2)) (.string ⟨#[]⟩) (.string L) (.int .i64 0) (.bool false) (.bool true) ((Below.heap_alloc _ _ _ (by simp)).trans (World.alloc_heap_new w _)) (((Below.refl _ w).alloc (Nat.le_refl _) _).alloc (by simp) _) rfl
      · skip
        have qn : (q : Int) < r0.size := by omega
        go_enter Tryd.func12, Tryd.ntmps12
        go_wp2_with fail
        refine (HS.out _).mono ?_
        rintro e w' ⟨rfl, rfl⟩
        go_wp2_with fail
        refine (HSe.out _).mono ?_
        rintro e w' ⟨rfl, rfl⟩
        go_wp2_with fail
        refine (HQ.out _).mono ?_
        rintro e w' ⟨rfl, rfl⟩
        go_wp2_with fail
        refine (HQ2.out _).mono ?_
        rintro e w' ⟨rfl, rfl⟩
        go_wp2_with fail
        refine (HL.out _).mono ?_
        rintro e w' ⟨rfl, rfl⟩
        go_wp2
        exact fin8w (tm := 2) (by kernel_rfl) rfl (.int .i64 2) (.string (s.extract 0 k)) (.string (r0.extract 0 q2)) (.string ⟨#[]⟩) (.string L) (.int .i64 0) (.bool false) (.bool true) ((Below.heap_alloc _ _ _ (by simp)).trans (World.alloc_heap_new w _)) (((Below.refl _ w).alloc (Nat.le_refl _) _).alloc (by simp) _) rfl
      · skip
        have qn : (q : Int) < r0.size := by omega
        have HSQ := Lib.hid fun w => HSq.out q w hqr
        rw [hsf] at HSQ
        clear hsf
        go_enter Tryd.func12, Tryd.ntmps12
        go_wp2_with fail
        refine (HS.out _).mono ?_
        rintro e w' ⟨rfl, rfl⟩
        go_wp2_with fail
        refine (HSe.out _).mono ?_
        rintro e w' ⟨rfl, rfl⟩
        go_wp2_with fail
        refine (HQ.out _).mono ?_
        rintro e w' ⟨rfl, rfl⟩
        go_wp2_with fail
        refine (HSQ.out _).mono ?_
        rintro e w' ⟨rfl, rfl⟩
        go_wp2_with fail
        refine (HQ2.out _).mono ?_
        rintro e w' ⟨rfl, rfl⟩
        go_wp2_with fail
        refine (HL.out _).mono ?_
        rintro e w' ⟨rfl, rfl⟩
        go_wp2
        exact fin8w (tm := 2) (by kernel_rfl) rfl (.int .i64 2) (.string (s.extract 0 k)) (.string (r0.extract 0 q2)) (.string ⟨#[]⟩) (.string L) (.int .i64 0) (.bool false) (.bool true) ((Below.heap_alloc _ _ _ (by simp)).trans (World.alloc_heap_new w _)) (((Below.refl _ w).alloc (Nat.le_refl _) _).alloc (by simp) _) rfl
  · skip
    rw [cutC_eq r0 true hd] at hr
    have hp0 : 0 < r0.size := dbl_pos r0 hd
    have hx := hd58t r0 hp0 hd
    have q0 : (0 : Int) < r0.size := by omega
    have q1 : 1 ≤ r0.size := by omega
    have hr2 : r0.extract 1 r0.size = r := by simpa using hr
    clear hr hd
    rcases htail with ⟨t1, rfl⟩ | ⟨q2, rfl, t1⟩
    · skip
      rw [if_pos t1]
      clear t1
      rcases hcase with rfl | ⟨q, rfl, hqr, hs59 | ⟨hn59, hsf⟩⟩
      · skip
        go_enter Tryd.func12, Tryd.ntmps12
        go_wp2_with fail
        refine (HS.out _).mono ?_
        rintro e w' ⟨rfl, rfl⟩
        go_wp2_with fail
        refine (HSe.out _).mono ?_
        rintro e w' ⟨rfl, rfl⟩
        go_wp2_with fail
        refine (HQ.out _).mono ?_
        rintro e w' ⟨rfl, rfl⟩
        go_wp2_with fail
        refine (HQ2.out _).mono ?_
        rintro e w' ⟨rfl, rfl⟩
        go_wp2
        exact fin8w (tm := 2) (by kernel_rfl) rfl (.int .i64 2) (.string (s.extract 0 k)) (.string r) (.string ⟨#[]⟩) (.string ⟨#[]⟩) (.int .i64 0) (.bool true) (.bool false) ((Below.heap_alloc _ _ _ (by simp)).trans (World.alloc_heap_new w _)) (((Below.refl _ w).alloc (Nat.le_refl _) _).alloc (by simp) _) rfl
      · skip
        have qn : (q : Int) < r.size := by omega
        go_enter Tryd.func12, Tryd.ntmps12
        go_wp2_with fail
        refine (HS.out _).mono ?_
        rintro e w' ⟨rfl, rfl⟩
        go_wp2_with fail
        refine (HSe.out _).mono ?_
        rintro e w' ⟨rfl, rfl⟩
        go_wp2_with fail
        refine (HQ.out _).mono ?_
        rintro e w' ⟨rfl, rfl⟩
        go_wp2_with fail
        refine (HQ2.out _).mono ?_
        rintro e w' ⟨rfl, rfl⟩
        go_wp2
        exact fin8w (tm := 2) (by kernel_rfl) rfl (.int .i64 2) (.string (s.extract 0 k)) (.string r) (.string ⟨#[]⟩) (.string ⟨#[]⟩) (.int .i64 0) (.bool true) (.bool false) ((Below.heap_alloc _ _ _ (by simp)).trans (World.alloc_heap_new w _)) (((Below.refl _ w).alloc (Nat.le_refl _) _).alloc (by simp) _) rfl
      · skip
        have qn : (q : Int) < r.size := by omega
        have HSQ := Lib.hid fun w => HSq.out q w hqr
        rw [hsf] at HSQ
        clear hsf
        go_enter Tryd.func12, Tryd.ntmps12
        go_wp2_with fail
        refine (HS.out _).mono ?_
        rintro e w' ⟨rfl, rfl⟩
        go_wp2_with fail
        refine (HSe.out _).mono ?_
        rintro e w' ⟨rfl, rfl⟩
        go_wp2_with fail
        refine (HQ.out _).mono ?_
        rintro e w' ⟨rfl, rfl⟩
        go_wp2_with fail
        refine (HSQ.out _).mono ?_
        rintro e w' ⟨rfl, rfl⟩
        go_wp2_with fail
        refine (HQ2.out _).mono ?_
        rintro e w' ⟨rfl, rfl⟩
        go_wp2
        exact fin8w (tm := 2) (by kernel_rfl) rfl (.int .i64 2) (.string (s.extract 0 k)) (.string r) (.string ⟨#[]⟩) (.string ⟨#[]⟩) (.int .i64 0) (.bool true) (.bool false) ((Below.heap_alloc _ _ _ (by simp)).trans (World.alloc_heap_new w _)) (((Below.refl _ w).alloc (Nat.le_refl _) _).alloc (by simp) _) rfl
    · skip
      rw [if_neg (by omega), Int.toNat_natCast]
      have HL := Lib.hid fun w => Left_any (r.extract (q2 + 1) r.size) w (by simp; omega)
      have v1 : IntKind.i64.wrap ((q2 : Int) + 1) = ((q2 + 1 : Nat) : Int) := by rw [IntWalk.i64_in _ (by omega)]; omega
      have v2 : q2 + 1 ≤ r.size := by omega
      have v3 : q2 ≤ r.size := by omega
      generalize lftB (r.extract (q2 + 1) r.size) = L at *
      rcases hcase with rfl | ⟨q, rfl, hqr, hs59 | ⟨hn59, hsf⟩⟩
      · skip
        go_enter Tryd.func12, Tryd.ntmps12
        go_wp2_with fail
        refine (HS.out _).mono ?_
        rintro e w' ⟨rfl, rfl⟩
        go_wp2_with fail
        refine (HSe.out _).mono ?_
        rintro e w' ⟨rfl, rfl⟩
        go_wp2_with fail
        refine (HQ.out _).mono ?_
        rintro e w' ⟨rfl, rfl⟩
        go_wp2_with fail
        refine (HQ2.out _).mono ?_
        rintro e w' ⟨rfl, rfl⟩
        go_wp2_with fail
        refine (HL.out _).mono ?_
        rintro e w' ⟨rfl, rfl⟩
        go_wp2
        exact fin8w (tm := 2) (by kernel_rfl) rfl (.int .i64 2) (.string (s.extract 0 k)) (.string (r.extract 0 q2)) (.string ⟨#[]⟩) (.string L) (.int .i64 0) (.bool true) (.bool true) ((Below.heap_alloc _ _ _ (by simp)).trans (World.alloc_heap_new w _)) (((Below.refl _ w).alloc (Nat.le_refl _) _).alloc (by simp) _) rfl
      · skip
        have qn : (q : Int) < r.size := by omega
        go_enter Tryd.func12, Tryd.ntmps12
        go_wp2_with fail
        refine (HS.out _).mono ?_
        rintro e w' ⟨rfl, rfl⟩
        go_wp2_with fail
        refine (HSe.out _).mono ?_
        rintro e w' ⟨rfl, rfl⟩
        go_wp2_with fail
        refine (HQ.out _).mono ?_
        rintro e w' ⟨rfl, rfl⟩
        go_wp2_with fail
        refine (HQ2.out _).mono ?_
        rintro e w' ⟨rfl, rfl⟩
        go_wp2_with fail
        refine (HL.out _).mono ?_
        rintro e w' ⟨rfl, rfl⟩
        go_wp2
        exact fin8w (tm := 2) (by kernel_rfl) rfl (.int .i64 2) (.string (s.extract 0 k)) (.string (r.extract 0 q2)) (.string ⟨#[]⟩) (.string L) (.int .i64 0) (.bool true) (.bool true) ((Below.heap_alloc _ _ _ (by simp)).trans (World.alloc_heap_new w _)) (((Below.refl _ w).alloc (Nat.le_refl _) _).alloc (by simp) _) rfl
      · skip
        have qn : (q : Int) < r.size := by omega
        have HSQ := Lib.hid fun w => HSq.out q w hqr
        rw [hsf] at HSQ
        clear hsf
        go_enter Tryd.func12, Tryd.ntmps12
        go_wp2_with fail
        refine (HS.out _).mono ?_
        rintro e w' ⟨rfl, rfl⟩
        go_wp2_with fail
        refine (HSe.out _).mono ?_
        rintro e w' ⟨rfl, rfl⟩
        go_wp2_with fail
        refine (HQ.out _).mono ?_
        rintro e w' ⟨rfl, rfl⟩
        go_wp2_with fail
        refine (HSQ.out _).mono ?_
        rintro e w' ⟨rfl, rfl⟩
        go_wp2_with fail
        refine (HQ2.out _).mono ?_
        rintro e w' ⟨rfl, rfl⟩
        go_wp2_with fail
        refine (HL.out _).mono ?_
        rintro e w' ⟨rfl, rfl⟩
        go_wp2
        exact fin8w (tm := 2) (by kernel_rfl) rfl (.int .i64 2) (.string (s.extract 0 k)) (.string (r.extract 0 q2)) (.string ⟨#[]⟩) (.string L) (.int .i64 0) (.bool true) (.bool true) ((Below.heap_alloc _ _ _ (by simp)).trans (World.alloc_heap_new w _)) (((Below.refl _ w).alloc (Nat.le_refl _) _).alloc (by simp) _) rfl
theorem takeR_any (s : ByteArray) (w : World) (hs : s.size ≤ 140737488351232) :
    Calls Tryd.prog 12 #[.string s] w fun e w' => e = .returned (headV (takeP s)) ∧ Below w.heap.size w w' := by
  by_cases h0 : scanI s bEC < 0
  · exact takeR_none s w hs h0
  · cases h : setsB s (scanI s bEC).toNat
    · cases ho : ownB (cutC (s.extract ((scanI s bEC).toNat + 1) s.size))
      · exact takeR_tail s w hs h0 h ho
      · exact takeR_own s w hs h0 h ho
    · exact takeR_sets s w hs h0 h
end Go.Proofs.YtmcemaphhlcjfaaDoor
