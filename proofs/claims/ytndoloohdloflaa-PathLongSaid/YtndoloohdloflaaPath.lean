/- What package path's functions answer; conditions: texts of at most some hundred thousand bytes. -/
import Derived.Test.YtndoloohdloflaaPathNames
namespace Go.Proofs.Ytndoloohdloflaa
open Go.RowKit

def tot (l : List ByteArray) : Nat := (l.map fun x => x.size + 1).sum
theorem tot_append (a b : List ByteArray) : tot (a ++ b) = tot a + tot b := by simp [tot]
theorem tot_dropLast (l : List ByteArray) : tot l.dropLast ≤ tot l := by
  rcases List.eq_nil_or_concat l with rfl | ⟨a, x, rfl⟩
  · simp
  · simp [tot]
theorem tot_step (l : List ByteArray) (n : ByteArray) : tot (stepN l n) ≤ tot l + (n.size + 1) := by
  unfold stepN; split
  · omega
  · split
    · have := tot_dropLast l; omega
    · rw [tot_append]; simp [tot]
theorem tot_fold (ps : List ByteArray) (l : List ByteArray) : tot (ps.foldl stepN l) ≤ tot l + tot ps := by
  induction ps generalizing l with
  | nil => simp [tot]
  | cons x ps ih =>
    have h1 := ih (stepN l x)
    have h2 := tot_step l x
    have h3 : tot (x :: ps) = (x.size + 1) + tot ps := by simp [tot]
    simp only [List.foldl_cons]; omega
theorem tot_split (p : List UInt8) : tot ((splitSl p).map mk) = p.length + 1 := by
  induction p with
  | nil => rfl
  | cons c l ih =>
    rw [splitSl]; split
    · rw [List.map_cons, show ∀ (a : ByteArray) b, tot (a :: b) = (a.size + 1) + tot b from fun a b => by simp [tot], ih]
      show 0 + 1 + _ = _; simp; omega
    · split
      · rename_i h; rw [h] at ih; simp [tot] at ih
      · rename_i x xs h
        rw [h] at ih
        simp only [List.map_cons, tot, List.sum_cons] at ih ⊢
        simp only [List.length_cons]
        have e1 : (mk (c :: x)).size = (mk x).size + 1 := by simp [mk, ByteArray.size]
        omega
theorem tot_names (s : ByteArray) : tot (namesB s) ≤ s.size + 1 := by
  have h1 := tot_fold ((splitSl s.data.toList).map mk) []
  have h2 := tot_split s.data.toList
  simp only [Array.length_toList] at h2
  have h3 : tot [] = 0 := rfl
  unfold namesB
  have : s.data.size = s.size := rfl
  omega
theorem len_tot (l : List ByteArray) : l.length ≤ tot l := by
  induction l with
  | nil => simp
  | cons x l ih => simp only [tot, List.map_cons, List.sum_cons, List.length_cons] at *; omega
theorem join_len (l : List ByteArray) : (Lib.join (l.map (·.data.toList)) [47]).length = tot l - 1 := by
  induction l with
  | nil => rfl
  | cons x l ih =>
    cases l with
    | nil => simp [Lib.join, tot]
    | cons y l =>
      have e : Lib.join ((x :: y :: l).map (·.data.toList)) [47] = x.data.toList ++ ([47] ++ Lib.join ((y :: l).map (·.data.toList)) [47]) := by simp [Lib.join, List.intercalate]
      have t1 : tot (x :: y :: l) = (x.size + 1) + tot (y :: l) := by simp [tot]
      have t2 : 1 ≤ tot (y :: l) := by simp [tot]; omega
      rw [e, List.length_append, List.length_append, ih, t1]
      simp; omega
def joinSl (l : List ByteArray) : ByteArray := mk (Lib.join (l.map (·.data.toList)) [47])
def cleanB (s : ByteArray) : ByteArray := joinSl (namesB s)
theorem joinSl_size (l : List ByteArray) : (joinSl l).size = tot l - 1 := by
  rw [← join_len]; simp [joinSl, mk, ByteArray.size]
theorem cleanB_le (s : ByteArray) : (cleanB s).size ≤ s.size := by
  have := tot_names s; unfold cleanB; rw [joinSl_size]; omega

set_option maxHeartbeats 400000 in
theorem Clean_walk (s : ByteArray) (w : World) (hs : s.size ≤ 900000) :
    Calls Try.prog 40 #[.string s] w fun e w' => e = .returned (.string (cleanB s)) ∧ Below w.heap.size w w' := by
  have h1 := tot_names s
  have h2 := len_tot (namesB s)
  have h3 := join_len (namesB s)
  have HN := Lib.hid (names_walk s · hs)
  unfold cleanB joinSl
  generalize namesB s = l at *
  go_enter Try.func40, Try.ntmps40
  go_wp2_with fail
  refine (HN.out _).mono ?_
  rintro e w1 ⟨v, rfl, hv, hb⟩
  rcases hv.2 with ⟨rfl, h0⟩ | ⟨g, cap, cur, rfl, hbg, hg, hnc, hcm, hcs, htk⟩
  · have hl0 : l = [] := List.eq_nil_of_length_eq_zero h0
    subst hl0
    go_wp2_with fail
    refine (Try.strings_Join_none none 0 _ _).mono ?_
    rintro e w2 ⟨rfl, rfl⟩
    go_wp2_with fail
    go_ret
    exact ⟨rfl, hb⟩
  · have hc : ∀ (j : Nat) x, l[j]? = some x → w1.cell? ⟨g, 0 + j, none⟩ = some (.string x) := fun j x hj => by
      rw [Nat.zero_add]; exact hv.cells j _ (by rw [List.getElem?_map, hj]; rfl)
    have hgl : g < w1.heap.size := (Array.getElem?_eq_some_iff.1 hg).1
    have HC := Lib.hid hc
    clear hc hg htk hv hcs
    go_wp2_with fail
    refine (Try.strings_Join g 0 cap l ⟨#[47]⟩ _ HC.out hgl (by omega) hnc (by show (Lib.join _ [47]).length ≤ _; omega)).mono ?_
    rintro e w2 ⟨rfl, hb2⟩
    go_wp2_with fail
    go_ret
    exact ⟨rfl, hb.trans (hb2.mono hb.size)⟩
end Go.Proofs.Ytndoloohdloflaa
