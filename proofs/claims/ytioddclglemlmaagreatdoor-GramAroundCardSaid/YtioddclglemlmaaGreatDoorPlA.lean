/- The shell's parser in plain words: tokens, trees, and what each of its functions tells. A parse goes the same way where its tokens stand among others, in plain words. A parse goes the same way where its tokens stand among others: lists, compounds, commands. Compounds within one another, in plain words: sixty deep they parse, deeper they do not. Texts that are one command each parse, one behind the other, as the list of these, in plain words. A list that parses is the body of each compound, in plain words. The six compounds around lists that parse, in plain words. Conditions: as each part says. -/
import Derived.Lib.IndexMore
/- The shell's parser in plain words: tokens, trees, and what each of its functions tells; no condition. -/
namespace Go.Proofs.YtioddclglemlmaaGreatDoor
open Go

/-- a command's tree; an arm is a list of patterns and a body -/
inductive CmdT where
  | mk (kind : Int) (no : Bool) (as ws : List ByteArray) (rs : List (ByteArray × ByteArray)) (kids : List CmdT) (pats : List (List ByteArray)) (bodies : List CmdT)
def CmdT.leaf (kind : Int) : CmdT := .mk kind false [] [] [] [] [] []
def CmdT.addR : CmdT → ByteArray × ByteArray → CmdT
  | .mk k n a w r c p b, x => .mk k n a w (r ++ [x]) c p b
/-- what a parser's function tells: a value and the place behind it, or what is wrong -/
inductive PR (α : Type) where
  | ok (v : α) (i : Nat)
  | err (n : Int)
def PR.bind {α β : Type} (r : PR α) (f : α → Nat → PR β) : PR β := match r with
  | .ok v i => f v i
  | .err n => .err n
def tk (l : List (Int × ByteArray)) (i : Nat) : (Int × ByteArray) := l.getD i ⟨4, ⟨#[]⟩⟩
def isT (l : List (Int × ByteArray)) (i : Nat) (k : Int) (t : ByteArray) : Bool := decide (tk l i = ⟨k, t⟩)
def isO (l : List (Int × ByteArray)) (i : Nat) (t : ByteArray) : Bool := isT l i 2 t
def isW (l : List (Int × ByteArray)) (i : Nat) (t : ByteArray) : Bool := isT l i 1 t
def nlT (l : List (Int × ByteArray)) (i : Nat) : Bool := isT l i 3 ⟨#[10]⟩
def lineF (l : List (Int × ByteArray)) : Nat → Nat → Nat
  | 0, i => i
  | f + 1, i => if nlT l i then lineF l f (i + 1) else i
def lineP (l : List (Int × ByteArray)) (i : Nat) : Nat := lineF l l.length i
def bSemi : ByteArray := ⟨#[59]⟩
def bPipe : ByteArray := ⟨#[124]⟩
def bAnd : ByteArray := ⟨#[38, 38]⟩
def bOr : ByteArray := ⟨#[124, 124]⟩
def bOpen : ByteArray := ⟨#[40]⟩
def bShut : ByteArray := ⟨#[41]⟩
def bDD : ByteArray := ⟨#[59, 59]⟩
def bNot : ByteArray := ⟨#[33]⟩
def bThen : ByteArray := ⟨#[116, 104, 101, 110]⟩
def bElif : ByteArray := ⟨#[101, 108, 105, 102]⟩
def bElse : ByteArray := ⟨#[101, 108, 115, 101]⟩
def bFi : ByteArray := ⟨#[102, 105]⟩
def bDo : ByteArray := ⟨#[100, 111]⟩
def bDone : ByteArray := ⟨#[100, 111, 110, 101]⟩
def bEsac : ByteArray := ⟨#[101, 115, 97, 99]⟩
def bIn : ByteArray := ⟨#[105, 110]⟩
def bLB : ByteArray := ⟨#[123]⟩
def bRB : ByteArray := ⟨#[125]⟩
def bIf : ByteArray := ⟨#[105, 102]⟩
def bWhile : ByteArray := ⟨#[119, 104, 105, 108, 101]⟩
def bUntil : ByteArray := ⟨#[117, 110, 116, 105, 108]⟩
def bFor : ByteArray := ⟨#[102, 111, 114]⟩
def bCase : ByteArray := ⟨#[99, 97, 115, 101]⟩
def bLt : ByteArray := ⟨#[60]⟩
def bGt : ByteArray := ⟨#[62]⟩
def bGG : ByteArray := ⟨#[62, 62]⟩
def sepP (l : List (Int × ByteArray)) (i : Nat) : Option Nat := if isO l i bSemi || nlT l i then some (lineP l (i + 1)) else none
def lettB (c : UInt8) : Bool := (97 ≤ c.toNat && c.toNat ≤ 122) || (65 ≤ c.toNat && c.toNat ≤ 90) || c == 95
def namedL : Bool → List UInt8 → Bool
  | _, [] => true
  | f, c :: l => (lettB c || (!f && 48 ≤ c.toNat && c.toNat ≤ 57)) && namedL false l
def namedB (s : ByteArray) : Bool := s.data.toList != [] && namedL true s.data.toList
def endsB (s : ByteArray) : Bool := decide (s = bThen) || decide (s = bElif) || decide (s = bElse) || decide (s = bFi) || decide (s = bDo) || decide (s = bDone) || decide (s = bEsac) || decide (s = bRB)
def rdB (s : ByteArray) : Bool := decide (s = bLt) || decide (s = bGt) || decide (s = bGG)
def begP (l : List (Int × ByteArray)) (i : Nat) : Bool :=
  if (tk l i).1 = 1 then !endsB (tk l i).2 else if (tk l i).1 = 2 then decide ((tk l i).2 = bOpen) || rdB (tk l i).2 else false
def rdQ (l : List (Int × ByteArray)) (i : Nat) : Bool := decide ((tk l i).1 = 2) && rdB (tk l i).2
def textP (l : List (Int × ByteArray)) (i : Nat) : PR ByteArray := if (tk l i).1 = 1 then .ok (tk l i).2 (i + 1) else .err 31
/-- the words of a simple command -/
def simF (l : List (Int × ByteArray)) : Nat → Nat → List ByteArray → List ByteArray → List (ByteArray × ByteArray) → PR CmdT
  | 0, _, _, _, _ => .err 31
  | f + 1, i, a, w, r =>
    if rdQ l i then (textP l (i + 1)).bind fun x j => simF l f j a w (r ++ [((tk l i).2, x)])
    else if (tk l i).1 = 1 then
      (if (Lib.cut (tk l i).2.data.toList [61]).2.2 && namedB ⟨(Lib.cut (tk l i).2.data.toList [61]).1.toArray⟩ && w.isEmpty then simF l f (i + 1) (a ++ [(tk l i).2]) w r
       else simF l f (i + 1) a (w ++ [(tk l i).2]) r)
    else .ok (.mk 1 false a w r [] [] []) i
def simP (l : List (Int × ByteArray)) (i : Nat) : PR CmdT :=
  if (tk l i).1 = 1 ∧ (endsB (tk l i).2 = true ∨ (tk l i).2 = bNot) then .err 31
  else (simF l (l.length + 1) i [] [] []).bind fun c j => if j = i then .err 31 else .ok c j
section
variable (l : List (Int × ByteArray)) (C : Nat → PR CmdT)
def pipF : Nat → Nat → List CmdT → PR (List CmdT)
  | 0, _, _ => .err 31
  | f + 1, i, ks => if isO l i bPipe then (C (lineP l (i + 1))).bind fun c j => pipF f j (ks ++ [c]) else .ok ks i
def pipP (i : Nat) : PR CmdT :=
  (C (if isW l i bNot then i + 1 else i)).bind fun c j => (pipF l C (l.length + 1) j [c]).bind fun ks j =>
    match ks, isW l i bNot with
    | [k], false => .ok k j
    | ks, n => .ok (.mk 2 n [] [] [] ks [] []) j
def aoF : Nat → Nat → CmdT → PR CmdT
  | 0, _, _ => .err 31
  | f + 1, i, c => if isO l i bAnd then (pipP l C (lineP l (i + 1))).bind fun d j => aoF f j (.mk 3 false [] [] [] [c, d] [] [])
    else if isO l i bOr then (pipP l C (lineP l (i + 1))).bind fun d j => aoF f j (.mk 4 false [] [] [] [c, d] [] []) else .ok c i
def aoP (i : Nat) : PR CmdT := (pipP l C i).bind fun c j => aoF l C (l.length + 1) j c
def aosF : Nat → Nat → List CmdT → PR (List CmdT)
  | 0, _, _ => .err 31
  | f + 1, i, ks => match sepP l i with
    | none => .ok ks i
    | some j => if begP l j then (aoP l C j).bind fun c j => aosF f j (ks ++ [c]) else .ok ks j
def aosP (i : Nat) : PR (List CmdT) := (aoP l C i).bind fun c j => aosF l C (l.length + 1) j [c]
def lisP (i : Nat) : PR CmdT := (aosP l C (lineP l i)).bind fun ks j => match ks with
  | [k] => .ok k j
  | ks => .ok (.mk 5 false [] [] [] ks [] []) j
def mustO (i : Nat) (t : ByteArray) : PR Unit := if isO l i t then .ok () (i + 1) else .err 31
def mustW (i : Nat) (t : ByteArray) : PR Unit := if isW l i t then .ok () (i + 1) else .err 31
def subP (i : Nat) : PR CmdT := (lisP l C i).bind fun c j => (mustO l j bShut).bind fun _ j => .ok (.mk 11 false [] [] [] [c] [] []) j
def grpP (i : Nat) : PR CmdT := (lisP l C i).bind fun c j => (mustW l j bRB).bind fun _ j => .ok (.mk 10 false [] [] [] [c] [] []) j
def braF : Nat → Nat → PR CmdT
  | 0, _ => .err 31
  | f + 1, i => (lisP l C i).bind fun c j => (mustW l j bThen).bind fun _ j => (lisP l C j).bind fun d j =>
    if isW l j bElif then (braF f (j + 1)).bind fun e j => .ok (.mk 6 false [] [] [] [c, d, e] [] []) j
    else if isW l j bElse then (lisP l C (j + 1)).bind fun e j => (mustW l j bFi).bind fun _ j => .ok (.mk 6 false [] [] [] [c, d, e] [] []) j
    else (mustW l j bFi).bind fun _ j => .ok (.mk 6 false [] [] [] [c, d] [] []) j
def looP (no : Bool) (i : Nat) : PR CmdT := (lisP l C i).bind fun c j => (mustW l j bDo).bind fun _ j => (lisP l C j).bind fun d j => (mustW l j bDone).bind fun _ j => .ok (.mk 7 no [] [] [] [c, d] [] []) j
def wdsF : Nat → Nat → List ByteArray → List ByteArray × Nat
  | 0, i, ws => (ws, i)
  | f + 1, i, ws => if (tk l i).1 = 1 then wdsF f (i + 1) (ws ++ [(tk l i).2]) else (ws, i)
def eacB (ws : List ByteArray) (i : Nat) : PR CmdT := (mustW l i bDo).bind fun _ j => (lisP l C j).bind fun c j => (mustW l j bDone).bind fun _ j => .ok (.mk 8 false [] ws [] [c] [] []) j
def eacP (i : Nat) : PR CmdT := (textP l i).bind fun x j =>
  if namedB x then
    (if isW l (lineP l j) bIn then
      (match sepP l (wdsF l (l.length + 1) (lineP l j + 1) [x]).2 with
       | none => .err 31
       | some k => eacB l C (wdsF l (l.length + 1) (lineP l j + 1) [x]).1 k)
     else eacB l C [x] ((sepP l (lineP l j)).getD (lineP l j)))
  else .err 31
def patF : Nat → Nat → List ByteArray → PR (List ByteArray)
  | 0, _, _ => .err 31
  | f + 1, i, ps => if isO l i bPipe then (textP l (i + 1)).bind fun x j => patF f j (ps ++ [x]) else .ok ps i
/-- an arm: its patterns, its body, whether another may follow -/
def armP (i : Nat) : PR (List ByteArray × CmdT × Bool) :=
  (textP l (if isO l i bOpen then i + 1 else i)).bind fun x j => (patF l (l.length + 1) j [x]).bind fun ps j => (mustO l j bShut).bind fun _ j =>
    (if begP l (lineP l j) then lisP l C (lineP l j) else .ok (CmdT.leaf 5) (lineP l j)).bind fun b j =>
      if isO l j bDD then .ok (ps, b, true) (lineP l (j + 1)) else .ok (ps, b, false) j
def armF : Nat → Nat → List (List ByteArray) → List CmdT → PR (List (List ByteArray) × List CmdT)
  | 0, _, _, _ => .err 31
  | f + 1, i, ps, bs => if isW l i bEsac then .ok (ps, bs) i else (armP l C i).bind fun a j => if a.2.2 then armF f j (ps ++ [a.1]) (bs ++ [a.2.1]) else .ok (ps ++ [a.1], bs ++ [a.2.1]) j
def choP (i : Nat) : PR CmdT := (textP l i).bind fun x j => (mustW l (lineP l j) bIn).bind fun _ j => (armF l C (l.length + 1) (lineP l j) [] []).bind fun a j =>
  (mustW l j bEsac).bind fun _ j => .ok (.mk 9 false [] [x] [] [] a.1 a.2) j
/-- which form begins here -/
def formP (i : Nat) : Option (Nat → PR CmdT) :=
  if isO l i bOpen then some (subP l C)
  else if (tk l i).1 = 1 then
    (if (tk l i).2 = bLB then some (grpP l C) else if (tk l i).2 = bIf then some (braF l C (l.length + 1)) else if (tk l i).2 = bWhile then some (looP l C false)
     else if (tk l i).2 = bUntil then some (looP l C true) else if (tk l i).2 = bFor then some (eacP l C) else if (tk l i).2 = bCase then some (choP l C) else none)
  else none
def rdsF : Nat → Nat → CmdT → PR CmdT
  | 0, _, _ => .err 31
  | f + 1, i, c => if rdQ l i then (textP l (i + 1)).bind fun x j => rdsF f j (c.addR ((tk l i).2, x)) else .ok c i
end
/-- a command, deep within others; f bounds what lies within it -/
def cmdF (l : List (Int × ByteArray)) : Nat → Nat → Nat → PR CmdT
  | 0, _, _ => .err 31
  | f + 1, d, i => match formP l (cmdF l f (d + 1)) i with
    | none => simP l i
    | some g => if 60 < d + 1 then .err 42 else (g (i + 1)).bind fun c j => rdsF l (l.length + 1) j c
/-- a whole script -/
def scrP (l : List (Int × ByteArray)) : PR CmdT :=
  let C := cmdF l (l.length + 1) 0
  (if begP l (lineP l 0) then aosP l C (lineP l 0) else .ok [] (lineP l 0)).bind fun ks j => if (tk l j).1 = 4 then .ok (.mk 5 false [] [] [] ks [] []) j else .err 31
end Go.Proofs.YtioddclglemlmaaGreatDoor

/- A parse goes the same way where its tokens stand among others, in plain words; no condition. -/
namespace Go.Proofs.YtioddclglemlmaaGreatDoor
open Go

/-- l2 bears the tokens of l1 from p on, and a line's end, a ; or its own end where l1 ends -/
structure Emb (l1 l2 : List (Int × ByteArray)) (p n : Nat) : Prop where
  len : l1.length = n + 1
  same : ∀ i, i < n → tk l2 (p + i) = tk l1 i
  last : (tk l1 n).1 = 4
  next : tk l2 (p + n) = (3, ⟨#[10]⟩) ∨ tk l2 (p + n) = (2, bSemi) ∨ tk l2 (p + n) = (4, ⟨#[]⟩)
  len2 : p + n < l2.length
def Sim {α : Type} (sh : Prop) (p n : Nat) (r1 r2 : PR α) : Prop := ∀ v j, r1 = .ok v j → j ≤ n ∧ (r2 = .ok v (p + j) ∨ (sh ∧ r2 = .err 42))
/-- as Sim, but nothing is told of an answer at the very end -/
def SimW {α : Type} (sh : Prop) (p n : Nat) (r1 r2 : PR α) : Prop := ∀ v j, r1 = .ok v j → j ≤ n ∧ (j < n → (r2 = .ok v (p + j) ∨ (sh ∧ r2 = .err 42)))
def NotOk {α : Type} (r : PR α) : Prop := ∀ v j, r ≠ .ok v j
section
variable {α β : Type} {sh : Prop} {p n : Nat}
theorem Sim.weak {r1 r2 : PR α} (h : Sim sh p n r1 r2) : SimW sh p n r1 r2 := fun v j e => ⟨(h v j e).1, fun _ => (h v j e).2⟩
theorem Sim.of_not {r1 r2 : PR α} (h : NotOk r1) : Sim sh p n r1 r2 := fun v j e => absurd e (h v j)
theorem SimW.of_not {r1 r2 : PR α} (h : NotOk r1) : SimW sh p n r1 r2 := fun v j e => absurd e (h v j)
theorem Sim.okk {v : α} {j : Nat} (h : j ≤ n) : Sim sh p n (.ok v j) (.ok v (p + j)) := fun w k e => by cases e; exact ⟨h, .inl rfl⟩
theorem NotOk.err {m : Int} : NotOk (.err m : PR α) := fun _ _ e => by cases e
theorem NotOk.bind {r : PR α} {f : α → Nat → PR β} (h : NotOk r) : NotOk (r.bind f) := by
  cases r with
  | err m => exact NotOk.err
  | ok v j => exact absurd rfl (h v j)
theorem Sim.bind {r1 r2 : PR α} {f1 f2 : α → Nat → PR β} (h : Sim sh p n r1 r2) (hf : ∀ v j, j ≤ n → Sim sh p n (f1 v j) (f2 v (p + j))) : Sim sh p n (r1.bind f1) (r2.bind f2) := by
  intro v j hv
  cases r1 with
  | err m => cases hv
  | ok w k =>
    obtain ⟨hk, h2⟩ := h w k rfl
    obtain ⟨hj, h3⟩ := hf w k hk v j hv
    refine ⟨hj, ?_⟩
    rcases h2 with h2 | ⟨hs, h2⟩
    · rw [h2]; exact h3
    · exact .inr ⟨hs, by rw [h2]; rfl⟩
theorem Sim.bindW {r1 r2 : PR α} {f1 f2 : α → Nat → PR β} (h : Sim sh p n r1 r2) (hf : ∀ v j, j ≤ n → SimW sh p n (f1 v j) (f2 v (p + j))) : SimW sh p n (r1.bind f1) (r2.bind f2) := by
  intro v j hv
  cases r1 with
  | err m => cases hv
  | ok w k =>
    obtain ⟨hk, h2⟩ := h w k rfl
    obtain ⟨hj, h3⟩ := hf w k hk v j hv
    refine ⟨hj, fun hl => ?_⟩
    rcases h2 with h2 | ⟨hs, h2⟩
    · rw [h2]; exact h3 hl
    · exact .inr ⟨hs, by rw [h2]; rfl⟩
theorem SimW.bind {r1 r2 : PR α} {f1 f2 : α → Nat → PR β} (h : SimW sh p n r1 r2) (hf : ∀ v j, j < n → Sim sh p n (f1 v j) (f2 v (p + j))) (he : ∀ v, NotOk (f1 v n)) : Sim sh p n (r1.bind f1) (r2.bind f2) := by
  intro v j hv
  cases r1 with
  | err m => cases hv
  | ok w k =>
    obtain ⟨hk, h2⟩ := h w k rfl
    rcases Nat.lt_or_ge k n with hl | hl
    · obtain ⟨hj, h3⟩ := hf w k hl v j hv
      refine ⟨hj, ?_⟩
      rcases h2 hl with h2 | ⟨hs, h2⟩
      · rw [h2]; exact h3
      · exact .inr ⟨hs, by rw [h2]; rfl⟩
    · obtain rfl : k = n := by omega
      exact absurd hv (he w v j)
/-- what stands behind tells nothing new at the very end either -/
theorem SimW.bindW {r1 r2 : PR α} {f1 f2 : α → Nat → PR β} (h : SimW sh p n r1 r2) (hf : ∀ v j, j < n → SimW sh p n (f1 v j) (f2 v (p + j))) (he : ∀ v w j, f1 v n = .ok w j → j = n) : SimW sh p n (r1.bind f1) (r2.bind f2) := by
  intro v j hv
  cases r1 with
  | err m => cases hv
  | ok w k =>
    obtain ⟨hk, h2⟩ := h w k rfl
    rcases Nat.lt_or_ge k n with hl | hl
    · obtain ⟨hj, h3⟩ := hf w k hl v j hv
      refine ⟨hj, fun hjn => ?_⟩
      rcases h2 hl with h2 | ⟨hs, h2⟩
      · rw [h2]; exact h3 hjn
      · exact .inr ⟨hs, by rw [h2]; rfl⟩
    · obtain rfl : k = n := by omega
      have := he w v j hv
      exact ⟨by omega, fun hh => by omega⟩
end
section
variable {l1 l2 : List (Int × ByteArray)} {p n : Nat}
theorem isT_iff {l : List (Int × ByteArray)} {i : Nat} {k : Int} {t : ByteArray} : isT l i k t = true ↔ tk l i = (k, t) := by unfold isT; simp
theorem Emb.lt (h : Emb l1 l2 p n) {i : Nat} (hi : i ≤ n) (hk : (tk l1 i).1 ≠ 4) : i < n := by
  rcases Nat.lt_or_ge i n with q | q
  · exact q
  · obtain rfl : i = n := by omega
    exact absurd h.last hk
theorem Emb.ltT (h : Emb l1 l2 p n) {i : Nat} {k : Int} {t : ByteArray} (hi : i ≤ n) (hk : k ≠ 4) (ht : isT l1 i k t = true) : i < n := h.lt hi (by rw [isT_iff.1 ht]; exact hk)
theorem Emb.endT (h : Emb l1 l2 p n) {k : Int} {t : ByteArray} (hk : k ≠ 4) : isT l1 n k t = false := by
  cases hc : isT l1 n k t with
  | false => rfl
  | true => exact absurd (h.ltT (Nat.le_refl n) hk hc) (Nat.lt_irrefl n)
theorem Emb.tt (h : Emb l1 l2 p n) {i : Nat} (hi : i < n) (k : Int) (t : ByteArray) : isT l2 (p + i) k t = isT l1 i k t := by unfold isT; rw [h.same i hi]
theorem Emb.w (h : Emb l1 l2 p n) {i : Nat} (hi : i ≤ n) (t : ByteArray) : isW l2 (p + i) t = isW l1 i t := by
  rcases Nat.lt_or_ge i n with q | q
  · exact h.tt q 1 t
  · obtain rfl : i = n := by omega
    unfold isW
    rw [h.endT (by decide)]
    unfold isT
    rcases h.next with e | e | e <;> rw [e] <;> exact decide_eq_false (fun hh => by have := congrArg Prod.fst hh; simp at this)
theorem Emb.o (h : Emb l1 l2 p n) {i : Nat} (hi : i ≤ n) {t : ByteArray} (ht : t ≠ bSemi) : isO l2 (p + i) t = isO l1 i t := by
  rcases Nat.lt_or_ge i n with q | q
  · exact h.tt q 2 t
  · obtain rfl : i = n := by omega
    unfold isO
    rw [h.endT (by decide)]
    unfold isT
    rcases h.next with e | e | e
    · rw [e]; exact decide_eq_false (fun hh => by have := congrArg Prod.fst hh; simp at this)
    · rw [e]; exact decide_eq_false (fun hh => ht (congrArg Prod.snd hh).symm)
    · rw [e]; exact decide_eq_false (fun hh => by have := congrArg Prod.fst hh; simp at this)
theorem Emb.k (h : Emb l1 l2 p n) {i : Nat} (hi : i ≤ n) : ((tk l2 (p + i)).1 = 1) ↔ ((tk l1 i).1 = 1) := by
  rcases Nat.lt_or_ge i n with q | q
  · rw [h.same i q]
  · obtain rfl : i = n := by omega
    rw [h.last]
    rcases h.next with e | e | e <;> rw [e] <;> decide
theorem rd_four {l : List (Int × ByteArray)} {i : Nat} (h : (tk l i).1 = 4) : rdQ l i = false := by unfold rdQ; rw [h]; rfl
theorem beg_four {l : List (Int × ByteArray)} {i : Nat} (h : (tk l i).1 = 4) : begP l i = false := by unfold begP; rw [h, if_neg (by decide), if_neg (by decide)]
theorem Emb.rd (h : Emb l1 l2 p n) {i : Nat} (hi : i ≤ n) : rdQ l2 (p + i) = rdQ l1 i := by
  rcases Nat.lt_or_ge i n with q | q
  · unfold rdQ; rw [h.same i q]
  · obtain rfl : i = n := by omega
    rw [rd_four h.last]
    unfold rdQ
    rcases h.next with e | e | e <;> rw [e] <;> decide
theorem Emb.rdlt (h : Emb l1 l2 p n) {i : Nat} (hi : i ≤ n) (hr : rdQ l1 i = true) : i < n := by
  refine h.lt hi fun e => ?_
  rw [rd_four e] at hr
  cases hr
theorem Emb.beg (h : Emb l1 l2 p n) {i : Nat} (hi : i ≤ n) : begP l2 (p + i) = begP l1 i := by
  rcases Nat.lt_or_ge i n with q | q
  · unfold begP; rw [h.same i q]
  · obtain rfl : i = n := by omega
    rw [beg_four h.last]
    unfold begP
    rcases h.next with e | e | e <;> rw [e] <;> decide
theorem Emb.begn (h : Emb l1 l2 p n) : begP l1 n = false := beg_four h.last
theorem lineF_to {l : List (Int × ByteArray)} {k : Nat} (hk : nlT l k = false) : ∀ f i, i ≤ k → k ≤ f + i → (∀ m, i ≤ m → m < k → nlT l m = true) → lineF l f i = k := by
  intro f
  induction f with
  | zero => intro i h1 h2 _; rw [lineF]; omega
  | succ f ih =>
    intro i h1 h2 hm
    rw [lineF]
    rcases Nat.lt_or_ge i k with q | q
    · rw [hm i (Nat.le_refl i) q, if_pos rfl]
      exact ih (i + 1) q (by omega) (fun m h3 h4 => hm m (by omega) h4)
    · obtain rfl : i = k := by omega
      rw [hk]; rfl
theorem Emb.first (h : Emb l1 l2 p n) : ∀ m i, n - i = m → i ≤ n → ∃ k, i ≤ k ∧ k ≤ n ∧ nlT l1 k = false ∧ ∀ t, i ≤ t → t < k → nlT l1 t = true := by
  intro m
  induction m with
  | zero =>
    intro i h1 h2
    obtain rfl : i = n := by omega
    exact ⟨i, Nat.le_refl _, Nat.le_refl _, h.endT (by decide), fun t h3 h4 => by omega⟩
  | succ m ih =>
    intro i h1 h2
    cases hc : nlT l1 i with
    | false => exact ⟨i, Nat.le_refl _, h2, hc, fun t h3 h4 => by omega⟩
    | true =>
      obtain ⟨k, k1, k2, k3, k4⟩ := ih (i + 1) (by omega) (by omega)
      refine ⟨k, by omega, k2, k3, fun t h3 h4 => ?_⟩
      by_cases e : t = i
      · rw [e]; exact hc
      · exact k4 t (by omega) h4
theorem Emb.line (h : Emb l1 l2 p n) {i : Nat} (hi : i ≤ n) : i ≤ lineP l1 i ∧ lineP l1 i ≤ n ∧ (lineP l1 i < n → lineP l2 (p + i) = p + lineP l1 i) := by
  obtain ⟨k, k1, k2, k3, k4⟩ := h.first (n - i) i rfl hi
  have e1 : lineP l1 i = k := lineF_to k3 _ _ k1 (by rw [h.len]; omega) k4
  rw [e1]
  refine ⟨k1, k2, fun hl => ?_⟩
  refine lineF_to (by unfold nlT; rw [h.tt hl]; exact k3) _ _ (by omega) (by have := h.len2; omega) (fun m h1 h2 => ?_)
  obtain ⟨t, rfl⟩ : ∃ t, m = p + t := ⟨m - p, by omega⟩
  unfold nlT
  rw [h.tt (by omega)]
  exact k4 t (by omega) (by omega)
theorem Emb.sep_lt (h : Emb l1 l2 p n) {i j : Nat} (hi : i ≤ n) (hs : sepP l1 i = some j) : i < n ∧ j = lineP l1 (i + 1) ∧ i + 1 ≤ j ∧ j ≤ n := by
  unfold sepP at hs
  split at hs
  · rename_i hc
    have hl : i < n := by
      rcases Bool.or_eq_true_iff.1 hc with q | q
      · exact h.ltT hi (by decide) q
      · exact h.ltT hi (by decide) q
    cases hs
    have := h.line (i := i + 1) hl
    exact ⟨hl, rfl, this.1, this.2.1⟩
  · cases hs
theorem Emb.sep (h : Emb l1 l2 p n) {i : Nat} (hi : i < n) : (sepP l1 i = none → sepP l2 (p + i) = none) ∧ (∀ j, sepP l1 i = some j → j < n → sepP l2 (p + i) = some (p + j)) := by
  have e1 : isO l2 (p + i) bSemi = isO l1 i bSemi := h.tt hi 2 bSemi
  have e2 : nlT l2 (p + i) = nlT l1 i := h.tt hi 3 _
  constructor
  · intro hn
    unfold sepP at hn ⊢
    rw [e1, e2]
    split at hn
    · cases hn
    · rename_i hc; rw [if_neg hc]
  · intro j hs hj
    obtain ⟨_, hj2, _, _⟩ := h.sep_lt (Nat.le_of_lt hi) hs
    subst hj2
    unfold sepP at hs ⊢
    rw [e1, e2]
    split at hs
    · rename_i hc
      rw [if_pos hc, show p + i + 1 = p + (i + 1) by omega, (h.line (i := i + 1) hi).2.2 hj]
    · cases hs
theorem Emb.sepn (h : Emb l1 l2 p n) : sepP l1 n = none := by
  unfold sepP isO nlT
  rw [h.endT (by decide), h.endT (by decide)]
  rfl
theorem Emb.text (h : Emb l1 l2 p n) (sh : Prop) {i : Nat} (hi : i ≤ n) : Sim sh p n (textP l1 i) (textP l2 (p + i)) := by
  unfold textP
  by_cases hk : (tk l1 i).1 = 1
  · have hl : i < n := h.lt hi (by rw [hk]; decide)
    rw [if_pos hk, if_pos ((h.k hi).2 hk), h.same i hl]
    exact Sim.okk hl
  · rw [if_neg hk]; exact Sim.of_not NotOk.err
theorem Emb.textn (h : Emb l1 l2 p n) : NotOk (textP l1 n) := by
  unfold textP; rw [h.last, if_neg (by decide)]; exact NotOk.err
theorem Emb.simF (h : Emb l1 l2 p n) (sh : Prop) : ∀ f1 f2 i a w r, f1 ≤ f2 → i ≤ n → Sim sh p n (simF l1 f1 i a w r) (simF l2 f2 (p + i) a w r) := by
  intro f1
  induction f1 with
  | zero => intro f2 i a w r _ _; exact Sim.of_not NotOk.err
  | succ f ih =>
    intro f2 i a w r hf hi
    obtain ⟨g, rfl⟩ : ∃ g, f2 = g + 1 := ⟨f2 - 1, by omega⟩
    rw [Go.Proofs.YtioddclglemlmaaGreatDoor.simF, Go.Proofs.YtioddclglemlmaaGreatDoor.simF, h.rd hi]
    by_cases hr : rdQ l1 i = true
    · have hl := h.rdlt hi hr
      rw [if_pos hr, if_pos hr, h.same i hl]
      exact (h.text sh (i := i + 1) hl).bind fun v j hj => ih g j a w _ (by omega) hj
    · rw [if_neg hr, if_neg hr]
      by_cases hk : (tk l1 i).1 = 1
      · have hl : i < n := h.lt hi (by rw [hk]; decide)
        rw [if_pos hk, if_pos ((h.k hi).2 hk), h.same i hl]
        split
        · exact ih g (i + 1) _ w r (by omega) hl
        · exact ih g (i + 1) a _ r (by omega) hl
      · rw [if_neg hk, if_neg (fun q => hk ((h.k hi).1 q))]
        exact Sim.okk hi
theorem Emb.simP (h : Emb l1 l2 p n) (sh : Prop) {i : Nat} (hi : i ≤ n) : Sim sh p n (simP l1 i) (simP l2 (p + i)) := by
  unfold Go.Proofs.YtioddclglemlmaaGreatDoor.simP
  have hc : ((tk l2 (p + i)).1 = 1 ∧ (endsB (tk l2 (p + i)).2 = true ∨ (tk l2 (p + i)).2 = bNot)) ↔ ((tk l1 i).1 = 1 ∧ (endsB (tk l1 i).2 = true ∨ (tk l1 i).2 = bNot)) := by
    rcases Nat.lt_or_ge i n with q | q
    · rw [h.same i q]
    · obtain rfl : i = n := by omega
      exact ⟨fun e => absurd ((h.k hi).1 e.1) (by rw [h.last]; decide), fun e => absurd e.1 (by rw [h.last]; decide)⟩
  by_cases q : (tk l1 i).1 = 1 ∧ (endsB (tk l1 i).2 = true ∨ (tk l1 i).2 = bNot)
  · rw [if_pos q]; exact Sim.of_not NotOk.err
  · rw [if_neg q, if_neg (fun e => q (hc.1 e))]
    refine (h.simF sh _ _ i [] [] [] (by have := h.len; have := h.len2; omega) hi).bind fun v j hj => ?_
    by_cases e : j = i
    · rw [if_pos e]; exact Sim.of_not NotOk.err
    · rw [if_neg e, if_neg (by omega)]; exact Sim.okk hj
theorem Emb.simn (h : Emb l1 l2 p n) : NotOk (Go.Proofs.YtioddclglemlmaaGreatDoor.simP l1 n) := by
  unfold Go.Proofs.YtioddclglemlmaaGreatDoor.simP
  have hr : rdQ l1 n = false := by
    cases hc : rdQ l1 n with
    | false => rfl
    | true => exact absurd (h.rdlt (Nat.le_refl n) hc) (Nat.lt_irrefl n)
  rw [if_neg (by rw [h.last]; intro e; exact absurd e.1 (by decide)), Go.Proofs.YtioddclglemlmaaGreatDoor.simF, hr, if_neg (by decide), if_neg (by rw [h.last]; decide)]
  show NotOk (if n = n then PR.err 31 else _)
  rw [if_pos rfl]; exact NotOk.err
end
end Go.Proofs.YtioddclglemlmaaGreatDoor

/- A parse goes the same way where its tokens stand among others: lists, compounds, commands; no condition. -/
namespace Go.Proofs.YtioddclglemlmaaGreatDoor
open Go

section
variable {l1 l2 : List (Int × ByteArray)} {p n : Nat} {sh : Prop} {C1 C2 : Nat → PR CmdT}
/-- what is asked of the commands within -/
def CSim (l1 l2 : List (Int × ByteArray)) (sh : Prop) (p n : Nat) (C1 C2 : Nat → PR CmdT) : Prop := (∀ i, i ≤ n → Sim sh p n (C1 i) (C2 (p + i))) ∧ NotOk (C1 n)
theorem Emb.cline (h : Emb l1 l2 p n) (hc : CSim l1 l2 sh p n C1 C2) {i : Nat} (hi : i ≤ n) {β : Type} {f1 f2 : CmdT → Nat → PR β} (hf : ∀ v j, j ≤ n → Sim sh p n (f1 v j) (f2 v (p + j))) :
    Sim sh p n ((C1 (lineP l1 i)).bind f1) ((C2 (lineP l2 (p + i))).bind f2) := by
  obtain ⟨_, h2, h3⟩ := h.line hi
  rcases Nat.lt_or_ge (lineP l1 i) n with q | q
  · rw [h3 q]; exact (hc.1 _ h2).bind hf
  · rw [show lineP l1 i = n by omega]; exact Sim.of_not hc.2.bind
theorem Emb.pipF (h : Emb l1 l2 p n) (hc : CSim l1 l2 sh p n C1 C2) : ∀ f1 f2 i ks, f1 ≤ f2 → i ≤ n → Sim sh p n (pipF l1 C1 f1 i ks) (pipF l2 C2 f2 (p + i) ks) := by
  intro f1
  induction f1 with
  | zero => intro f2 i ks _ _; exact Sim.of_not NotOk.err
  | succ f ih =>
    intro f2 i ks hf hi
    obtain ⟨g, rfl⟩ : ∃ g, f2 = g + 1 := ⟨f2 - 1, by omega⟩
    rw [Go.Proofs.YtioddclglemlmaaGreatDoor.pipF, Go.Proofs.YtioddclglemlmaaGreatDoor.pipF, h.o hi (by decide)]
    by_cases q : isO l1 i bPipe = true
    · rw [if_pos q, if_pos q]
      exact h.cline hc (h.ltT hi (by decide) q) fun v j hj => ih g j _ (by omega) hj
    · rw [if_neg q, if_neg q]; exact Sim.okk hi
theorem Emb.pipP (h : Emb l1 l2 p n) (hc : CSim l1 l2 sh p n C1 C2) {i : Nat} (hi : i ≤ n) : Sim sh p n (pipP l1 C1 i) (pipP l2 C2 (p + i)) := by
  unfold Go.Proofs.YtioddclglemlmaaGreatDoor.pipP
  rw [h.w hi]
  have hk : (if isW l1 i bNot = true then p + i + 1 else p + i) = p + (if isW l1 i bNot = true then i + 1 else i) := by split <;> omega
  have hk2 : (if isW l1 i bNot = true then i + 1 else i) ≤ n := by
    split
    · rename_i q; exact h.ltT hi (by decide) q
    · exact hi
  rw [hk]
  refine (hc.1 _ hk2).bind fun v j hj => ?_
  refine (h.pipF hc _ _ j [v] (by have := h.len; have := h.len2; omega) hj).bind fun ks j hj => ?_
  split <;> exact Sim.okk hj
theorem Emb.pipn (h : Emb l1 l2 p n) (hc : NotOk (C1 n)) : NotOk (Go.Proofs.YtioddclglemlmaaGreatDoor.pipP l1 C1 n) := by
  unfold Go.Proofs.YtioddclglemlmaaGreatDoor.pipP
  rw [show isW l1 n bNot = false from h.endT (by decide), if_neg (by decide)]
  exact hc.bind
theorem Emb.pline (h : Emb l1 l2 p n) (hc : CSim l1 l2 sh p n C1 C2) {i : Nat} (hi : i ≤ n) {β : Type} {f1 f2 : CmdT → Nat → PR β} (hf : ∀ v j, j ≤ n → Sim sh p n (f1 v j) (f2 v (p + j))) :
    Sim sh p n ((Go.Proofs.YtioddclglemlmaaGreatDoor.pipP l1 C1 (lineP l1 i)).bind f1) ((Go.Proofs.YtioddclglemlmaaGreatDoor.pipP l2 C2 (lineP l2 (p + i))).bind f2) := by
  obtain ⟨_, h2, h3⟩ := h.line hi
  rcases Nat.lt_or_ge (lineP l1 i) n with q | q
  · rw [h3 q]; exact (h.pipP hc h2).bind hf
  · rw [show lineP l1 i = n by omega]; exact Sim.of_not (h.pipn hc.2).bind
theorem Emb.aoF (h : Emb l1 l2 p n) (hc : CSim l1 l2 sh p n C1 C2) : ∀ f1 f2 i c, f1 ≤ f2 → i ≤ n → Sim sh p n (aoF l1 C1 f1 i c) (aoF l2 C2 f2 (p + i) c) := by
  intro f1
  induction f1 with
  | zero => intro f2 i c _ _; exact Sim.of_not NotOk.err
  | succ f ih =>
    intro f2 i c hf hi
    obtain ⟨g, rfl⟩ : ∃ g, f2 = g + 1 := ⟨f2 - 1, by omega⟩
    rw [Go.Proofs.YtioddclglemlmaaGreatDoor.aoF, Go.Proofs.YtioddclglemlmaaGreatDoor.aoF, h.o hi (by decide), h.o hi (by decide)]
    by_cases q : isO l1 i bAnd = true
    · rw [if_pos q, if_pos q]
      exact h.pline hc (h.ltT hi (by decide) q) fun v j hj => ih g j _ (by omega) hj
    · rw [if_neg q, if_neg q]
      by_cases q2 : isO l1 i bOr = true
      · rw [if_pos q2, if_pos q2]
        exact h.pline hc (h.ltT hi (by decide) q2) fun v j hj => ih g j _ (by omega) hj
      · rw [if_neg q2, if_neg q2]; exact Sim.okk hi
theorem Emb.aoP (h : Emb l1 l2 p n) (hc : CSim l1 l2 sh p n C1 C2) {i : Nat} (hi : i ≤ n) : Sim sh p n (aoP l1 C1 i) (aoP l2 C2 (p + i)) :=
  (h.pipP hc hi).bind fun v j hj => h.aoF hc _ _ j v (by have := h.len; have := h.len2; omega) hj
theorem Emb.aon (h : Emb l1 l2 p n) (hc : NotOk (C1 n)) : NotOk (Go.Proofs.YtioddclglemlmaaGreatDoor.aoP l1 C1 n) := (h.pipn hc).bind
theorem Emb.aosF (h : Emb l1 l2 p n) (hc : CSim l1 l2 sh p n C1 C2) : ∀ f1 f2 i ks, f1 ≤ f2 → i ≤ n → SimW sh p n (aosF l1 C1 f1 i ks) (aosF l2 C2 f2 (p + i) ks) := by
  intro f1
  induction f1 with
  | zero => intro f2 i ks _ _; exact SimW.of_not NotOk.err
  | succ f ih =>
    intro f2 i ks hf hi
    obtain ⟨g, rfl⟩ : ∃ g, f2 = g + 1 := ⟨f2 - 1, by omega⟩
    rw [Go.Proofs.YtioddclglemlmaaGreatDoor.aosF, Go.Proofs.YtioddclglemlmaaGreatDoor.aosF]
    cases hs : sepP l1 i with
    | none =>
      intro v j e
      cases e
      refine ⟨hi, fun hl => .inl ?_⟩
      rw [(h.sep hl).1 hs]
    | some k =>
      obtain ⟨s1, s2, s3, s4⟩ := h.sep_lt hi hs
      rcases Nat.lt_or_ge k n with q | q
      · rw [(h.sep s1).2 k hs q]
        show SimW sh p n (if begP l1 k = true then _ else _) (if begP l2 (p + k) = true then _ else _)
        rw [h.beg s4]
        by_cases b : begP l1 k = true
        · rw [if_pos b, if_pos b]
          exact (h.aoP hc s4).bindW fun v j hj => ih g j _ (by omega) hj
        · rw [if_neg b, if_neg b]; exact (Sim.okk s4).weak
      · obtain rfl : k = n := by omega
        show SimW sh p k (if begP l1 k = true then _ else _) _
        rw [h.begn, if_neg (by decide)]
        intro v j e
        cases e
        exact ⟨Nat.le_refl _, fun hl => by omega⟩
theorem Emb.aosP (h : Emb l1 l2 p n) (hc : CSim l1 l2 sh p n C1 C2) {i : Nat} (hi : i ≤ n) : SimW sh p n (aosP l1 C1 i) (aosP l2 C2 (p + i)) :=
  (h.aoP hc hi).bindW fun v j hj => h.aosF hc _ _ j _ (by have := h.len; have := h.len2; omega) hj
theorem Emb.lisP (h : Emb l1 l2 p n) (hc : CSim l1 l2 sh p n C1 C2) {i : Nat} (hi : i ≤ n) : SimW sh p n (lisP l1 C1 i) (lisP l2 C2 (p + i)) := by
  unfold Go.Proofs.YtioddclglemlmaaGreatDoor.lisP
  obtain ⟨_, h2, h3⟩ := h.line hi
  rcases Nat.lt_or_ge (lineP l1 i) n with q | q
  · rw [h3 q]
    refine (h.aosP hc h2).bindW (fun ks j hj => ?_) (fun ks w j e => ?_)
    · split <;> exact (Sim.okk (Nat.le_of_lt hj)).weak
    · split at e <;> (cases e; rfl)
  · rw [show lineP l1 i = n by omega]
    exact SimW.of_not (NotOk.bind (h.aon hc.2).bind)
theorem Emb.lisn (h : Emb l1 l2 p n) (hc : NotOk (C1 n)) : NotOk (Go.Proofs.YtioddclglemlmaaGreatDoor.lisP l1 C1 n) := by
  unfold Go.Proofs.YtioddclglemlmaaGreatDoor.lisP
  obtain ⟨h1, h2, _⟩ := h.line (Nat.le_refl n)
  rw [show lineP l1 n = n by omega]
  exact NotOk.bind (h.aon hc).bind
theorem Emb.mustO (h : Emb l1 l2 p n) {i : Nat} (hi : i ≤ n) {t : ByteArray} (ht : t ≠ bSemi) : Sim sh p n (mustO l1 i t) (mustO l2 (p + i) t) := by
  unfold Go.Proofs.YtioddclglemlmaaGreatDoor.mustO
  rw [h.o hi ht]
  by_cases q : isO l1 i t = true
  · rw [if_pos q, if_pos q]; exact Sim.okk (j := i + 1) (h.ltT hi (by decide) q)
  · rw [if_neg q]; exact Sim.of_not NotOk.err
theorem Emb.mustOn (h : Emb l1 l2 p n) (t : ByteArray) : NotOk (Go.Proofs.YtioddclglemlmaaGreatDoor.mustO l1 n t) := by
  unfold Go.Proofs.YtioddclglemlmaaGreatDoor.mustO
  rw [show isO l1 n t = false from h.endT (by decide), if_neg (by decide)]; exact NotOk.err
theorem Emb.mustW (h : Emb l1 l2 p n) {i : Nat} (hi : i ≤ n) (t : ByteArray) : Sim sh p n (mustW l1 i t) (mustW l2 (p + i) t) := by
  unfold Go.Proofs.YtioddclglemlmaaGreatDoor.mustW
  rw [h.w hi]
  by_cases q : isW l1 i t = true
  · rw [if_pos q, if_pos q]; exact Sim.okk (j := i + 1) (h.ltT hi (by decide) q)
  · rw [if_neg q]; exact Sim.of_not NotOk.err
theorem Emb.mustWn (h : Emb l1 l2 p n) (t : ByteArray) : NotOk (Go.Proofs.YtioddclglemlmaaGreatDoor.mustW l1 n t) := by
  unfold Go.Proofs.YtioddclglemlmaaGreatDoor.mustW
  rw [show isW l1 n t = false from h.endT (by decide), if_neg (by decide)]; exact NotOk.err
theorem Emb.subP (h : Emb l1 l2 p n) (hc : CSim l1 l2 sh p n C1 C2) {i : Nat} (hi : i ≤ n) : Sim sh p n (subP l1 C1 i) (subP l2 C2 (p + i)) :=
  (h.lisP hc hi).bind (fun c j hj => (h.mustO (Nat.le_of_lt hj) (by decide)).bind fun _ j hj => Sim.okk hj) (fun _ => (h.mustOn _).bind)
theorem Emb.grpP (h : Emb l1 l2 p n) (hc : CSim l1 l2 sh p n C1 C2) {i : Nat} (hi : i ≤ n) : Sim sh p n (grpP l1 C1 i) (grpP l2 C2 (p + i)) :=
  (h.lisP hc hi).bind (fun c j hj => (h.mustW (Nat.le_of_lt hj) _).bind fun _ j hj => Sim.okk hj) (fun _ => (h.mustWn _).bind)
theorem Emb.looP (h : Emb l1 l2 p n) (hc : CSim l1 l2 sh p n C1 C2) (no : Bool) {i : Nat} (hi : i ≤ n) : Sim sh p n (looP l1 C1 no i) (looP l2 C2 no (p + i)) :=
  (h.lisP hc hi).bind (fun c j hj => (h.mustW (Nat.le_of_lt hj) _).bind fun _ j hj => (h.lisP hc hj).bind (fun d j hj => (h.mustW (Nat.le_of_lt hj) _).bind fun _ j hj => Sim.okk hj) (fun _ => (h.mustWn _).bind)) (fun _ => (h.mustWn _).bind)
theorem Emb.braF (h : Emb l1 l2 p n) (hc : CSim l1 l2 sh p n C1 C2) : ∀ f1 f2 i, f1 ≤ f2 → i ≤ n → Sim sh p n (braF l1 C1 f1 i) (braF l2 C2 f2 (p + i)) := by
  intro f1
  induction f1 with
  | zero => intro f2 i _ _; exact Sim.of_not NotOk.err
  | succ f ih =>
    intro f2 i hf hi
    obtain ⟨g, rfl⟩ : ∃ g, f2 = g + 1 := ⟨f2 - 1, by omega⟩
    rw [Go.Proofs.YtioddclglemlmaaGreatDoor.braF, Go.Proofs.YtioddclglemlmaaGreatDoor.braF]
    refine (h.lisP hc hi).bind (fun c j hj => (h.mustW (Nat.le_of_lt hj) _).bind fun _ j hj => (h.lisP hc hj).bind (fun d j hj => ?_) (fun d => ?_)) (fun _ => (h.mustWn _).bind)
    · have hj' := Nat.le_of_lt hj
      rw [h.w hj', h.w hj']
      by_cases q : isW l1 j bElif = true
      · rw [if_pos q, if_pos q]
        exact (ih g (j + 1) (by omega) hj).bind fun e j hj => Sim.okk hj
      rw [if_neg q, if_neg q]
      by_cases q2 : isW l1 j bElse = true
      · rw [if_pos q2, if_pos q2]
        exact (h.lisP hc (i := j + 1) hj).bind (fun e j hj => (h.mustW (Nat.le_of_lt hj) _).bind fun _ j hj => Sim.okk hj) (fun _ => (h.mustWn _).bind)
      rw [if_neg q2, if_neg q2]
      exact (h.mustW hj' _).bind fun _ j hj => Sim.okk hj
    · rw [show isW l1 n bElif = false from h.endT (by decide), show isW l1 n bElse = false from h.endT (by decide), if_neg (by decide), if_neg (by decide)]
      exact (h.mustWn _).bind
theorem Emb.wds (h : Emb l1 l2 p n) : ∀ f1 f2 i ws, i ≤ n → n < f1 + i → n < f2 + i → wdsF l2 f2 (p + i) ws = ((wdsF l1 f1 i ws).1, p + (wdsF l1 f1 i ws).2) ∧ (wdsF l1 f1 i ws).2 ≤ n := by
  intro f1
  induction f1 with
  | zero => intro f2 i ws hi h1 h2; omega
  | succ f ih =>
    intro f2 i ws hi h1 h2
    obtain ⟨g, rfl⟩ : ∃ g, f2 = g + 1 := ⟨f2 - 1, by omega⟩
    rw [wdsF, wdsF]
    by_cases q : (tk l1 i).1 = 1
    · have hl : i < n := h.lt hi (by rw [q]; decide)
      rw [if_pos q, if_pos ((h.k hi).2 q), h.same i hl]
      exact ih g (i + 1) _ hl (by omega) (by omega)
    · rw [if_neg q, if_neg (fun e => q ((h.k hi).1 e))]
      exact ⟨rfl, hi⟩
theorem Emb.eacB (h : Emb l1 l2 p n) (hc : CSim l1 l2 sh p n C1 C2) (ws : List ByteArray) {i : Nat} (hi : i ≤ n) : Sim sh p n (eacB l1 C1 ws i) (eacB l2 C2 ws (p + i)) :=
  (h.mustW hi _).bind fun _ j hj => (h.lisP hc hj).bind (fun c j hj => (h.mustW (Nat.le_of_lt hj) _).bind fun _ j hj => Sim.okk hj) (fun _ => (h.mustWn _).bind)
theorem Emb.eacn (h : Emb l1 l2 p n) (ws : List ByteArray) : NotOk (Go.Proofs.YtioddclglemlmaaGreatDoor.eacB l1 C1 ws n) := (h.mustWn _).bind
theorem Emb.eacP (h : Emb l1 l2 p n) (hc : CSim l1 l2 sh p n C1 C2) {i : Nat} (hi : i ≤ n) : Sim sh p n (eacP l1 C1 i) (eacP l2 C2 (p + i)) := by
  refine (h.text sh hi).bind fun x j hj => ?_
  by_cases hn : namedB x = true
  · rw [if_pos hn, if_pos hn]
    obtain ⟨g1, g2, g3⟩ := h.line hj
    rcases Nat.lt_or_ge (lineP l1 j) n with q | q
    · rw [g3 q, h.w g2]
      by_cases b : isW l1 (lineP l1 j) bIn = true
      · rw [if_pos b, if_pos b]
        obtain ⟨e1, e2⟩ := h.wds (l1.length + 1) (l2.length + 1) (lineP l1 j + 1) [x] q (by have := h.len; omega) (by have := h.len2; omega)
        rw [show p + lineP l1 j + 1 = p + (lineP l1 j + 1) by omega, e1]
        generalize wdsF l1 (l1.length + 1) (lineP l1 j + 1) [x] = W at e2
        show Sim sh p n (match sepP l1 W.2 with | none => PR.err 31 | some k => Go.Proofs.YtioddclglemlmaaGreatDoor.eacB l1 C1 W.1 k) (match sepP l2 (p + W.2) with | none => PR.err 31 | some k => Go.Proofs.YtioddclglemlmaaGreatDoor.eacB l2 C2 W.1 k)
        cases hs : sepP l1 W.2 with
        | none => exact Sim.of_not NotOk.err
        | some k =>
          obtain ⟨s1, _, _, s4⟩ := h.sep_lt e2 hs
          rcases Nat.lt_or_ge k n with r | r
          · rw [(h.sep s1).2 k hs r]; exact h.eacB hc _ s4
          · obtain rfl : k = n := by omega
            exact Sim.of_not (h.eacn _)
      · rw [if_neg b, if_neg b]
        cases hs : sepP l1 (lineP l1 j) with
        | none => rw [(h.sep q).1 hs]; exact h.eacB hc _ g2
        | some k =>
          obtain ⟨s1, _, _, s4⟩ := h.sep_lt g2 hs
          rcases Nat.lt_or_ge k n with r | r
          · rw [(h.sep s1).2 k hs r]; exact h.eacB hc _ s4
          · obtain rfl : k = n := by omega
            exact Sim.of_not (h.eacn _)
    · rw [show lineP l1 j = n by omega, show isW l1 n bIn = false from h.endT (by decide), if_neg (by decide), h.sepn]
      exact Sim.of_not (h.eacn _)
  · rw [if_neg hn]; exact Sim.of_not NotOk.err
theorem Emb.patF (h : Emb l1 l2 p n) : ∀ f1 f2 i ps, f1 ≤ f2 → i ≤ n → Sim sh p n (patF l1 f1 i ps) (patF l2 f2 (p + i) ps) := by
  intro f1
  induction f1 with
  | zero => intro f2 i ps _ _; exact Sim.of_not NotOk.err
  | succ f ih =>
    intro f2 i ps hf hi
    obtain ⟨g, rfl⟩ : ∃ g, f2 = g + 1 := ⟨f2 - 1, by omega⟩
    rw [Go.Proofs.YtioddclglemlmaaGreatDoor.patF, Go.Proofs.YtioddclglemlmaaGreatDoor.patF, h.o hi (by decide)]
    by_cases q : isO l1 i bPipe = true
    · rw [if_pos q, if_pos q]
      exact (h.text sh (i := i + 1) (h.ltT hi (by decide) q)).bind fun v j hj => ih g j _ (by omega) hj
    · rw [if_neg q, if_neg q]; exact Sim.okk hi
theorem Emb.armP (h : Emb l1 l2 p n) (hc : CSim l1 l2 sh p n C1 C2) {i : Nat} (hi : i ≤ n) : SimW sh p n (armP l1 C1 i) (armP l2 C2 (p + i)) := by
  unfold Go.Proofs.YtioddclglemlmaaGreatDoor.armP
  rw [h.o hi (by decide)]
  have hk : (if isO l1 i bOpen = true then p + i + 1 else p + i) = p + (if isO l1 i bOpen = true then i + 1 else i) := by split <;> omega
  have hk2 : (if isO l1 i bOpen = true then i + 1 else i) ≤ n := by
    split
    · rename_i q; exact h.ltT hi (by decide) q
    · exact hi
  rw [hk]
  refine (h.text sh hk2).bindW fun x j hj => ?_
  refine (h.patF _ _ j [x] (by have := h.len; have := h.len2; omega) hj).bindW fun ps j hj => ?_
  refine (h.mustO hj (by decide)).bindW fun _ j hj => ?_
  have hfin : ∀ (b : CmdT) (j : Nat), j < n → SimW sh p n (if isO l1 j bDD = true then PR.ok (ps, b, true) (lineP l1 (j + 1)) else PR.ok (ps, b, false) j) (if isO l2 (p + j) bDD = true then PR.ok (ps, b, true) (lineP l2 (p + j + 1)) else PR.ok (ps, b, false) (p + j)) := by
    intro b j hj
    rw [h.o (Nat.le_of_lt hj) (by decide)]
    by_cases q : isO l1 j bDD = true
    · rw [if_pos q, if_pos q]
      obtain ⟨_, g2, g3⟩ := h.line (i := j + 1) hj
      intro v k e
      cases e
      exact ⟨g2, fun hl => .inl (by rw [show p + j + 1 = p + (j + 1) by omega, g3 hl])⟩
    · rw [if_neg q, if_neg q]; exact (Sim.okk (Nat.le_of_lt hj)).weak
  have hend : ∀ (b : CmdT) (w : List ByteArray × CmdT × Bool) (j : Nat), (if isO l1 n bDD = true then PR.ok (ps, b, true) (lineP l1 (n + 1)) else PR.ok (ps, b, false) n) = PR.ok w j → j = n := by
    intro b w j e
    rw [show isO l1 n bDD = false from h.endT (by decide), if_neg (by decide)] at e
    cases e; rfl
  obtain ⟨_, g2, g3⟩ := h.line hj
  rcases Nat.lt_or_ge (lineP l1 j) n with q | q
  · rw [g3 q, h.beg g2]
    refine SimW.bindW ?_ hfin hend
    by_cases b : begP l1 (lineP l1 j) = true
    · rw [if_pos b, if_pos b]; exact h.lisP hc g2
    · rw [if_neg b, if_neg b]; exact (Sim.okk g2).weak
  · rw [show lineP l1 j = n by omega, h.begn, if_neg (by decide)]
    intro v k e
    exact ⟨Nat.le_of_eq (hend _ v k e), fun hl => by have := hend _ v k e; omega⟩
theorem Emb.armn (h : Emb l1 l2 p n) : NotOk (Go.Proofs.YtioddclglemlmaaGreatDoor.armP l1 C1 n) := by
  unfold Go.Proofs.YtioddclglemlmaaGreatDoor.armP
  rw [show isO l1 n bOpen = false from h.endT (by decide), if_neg (by decide)]
  exact h.textn.bind
theorem Emb.armFn (h : Emb l1 l2 p n) (f : Nat) (ps : List (List ByteArray)) (bs : List CmdT) : NotOk (armF l1 C1 f n ps bs) := by
  cases f with
  | zero => exact NotOk.err
  | succ f =>
    rw [armF, show isW l1 n bEsac = false from h.endT (by decide), if_neg (by decide)]
    exact h.armn.bind
theorem Emb.armF (h : Emb l1 l2 p n) (hc : CSim l1 l2 sh p n C1 C2) : ∀ f1 f2 i ps bs, f1 ≤ f2 → i ≤ n → SimW sh p n (armF l1 C1 f1 i ps bs) (armF l2 C2 f2 (p + i) ps bs) := by
  intro f1
  induction f1 with
  | zero => intro f2 i ps bs _ _; exact SimW.of_not NotOk.err
  | succ f ih =>
    intro f2 i ps bs hf hi
    obtain ⟨g, rfl⟩ : ∃ g, f2 = g + 1 := ⟨f2 - 1, by omega⟩
    rw [Go.Proofs.YtioddclglemlmaaGreatDoor.armF, Go.Proofs.YtioddclglemlmaaGreatDoor.armF, h.w hi]
    by_cases q : isW l1 i bEsac = true
    · rw [if_pos q, if_pos q]; exact (Sim.okk hi).weak
    · rw [if_neg q, if_neg q]
      refine (h.armP hc hi).bindW (fun a j hj => ?_) (fun a w j e => ?_)
      · by_cases b : a.2.2 = true
        · rw [if_pos b, if_pos b]; exact ih g j _ _ (by omega) (Nat.le_of_lt hj)
        · rw [if_neg b, if_neg b]; exact (Sim.okk (Nat.le_of_lt hj)).weak
      · split at e
        · exact absurd e (h.armFn _ _ _ w j)
        · cases e; rfl
theorem Emb.choP (h : Emb l1 l2 p n) (hc : CSim l1 l2 sh p n C1 C2) {i : Nat} (hi : i ≤ n) : Sim sh p n (choP l1 C1 i) (choP l2 C2 (p + i)) := by
  refine (h.text sh hi).bind fun x j hj => ?_
  obtain ⟨_, g2, g3⟩ := h.line hj
  rcases Nat.lt_or_ge (lineP l1 j) n with q | q
  · rw [g3 q]
    refine (h.mustW g2 _).bind fun _ j hj => ?_
    obtain ⟨_, k2, k3⟩ := h.line hj
    rcases Nat.lt_or_ge (lineP l1 j) n with r | r
    · rw [k3 r]
      exact (h.armF hc _ _ _ _ _ (by have := h.len; have := h.len2; omega) k2).bind (fun a j hj => (h.mustW (Nat.le_of_lt hj) _).bind fun _ j hj => Sim.okk hj) (fun _ => (h.mustWn _).bind)
    · rw [show lineP l1 j = n by omega]
      exact Sim.of_not (h.armFn _ _ _).bind
  · rw [show lineP l1 j = n by omega]
    exact Sim.of_not (h.mustWn _).bind
theorem Emb.rdsF (h : Emb l1 l2 p n) : ∀ f1 f2 i c, f1 ≤ f2 → i ≤ n → Sim sh p n (rdsF l1 f1 i c) (rdsF l2 f2 (p + i) c) := by
  intro f1
  induction f1 with
  | zero => intro f2 i c _ _; exact Sim.of_not NotOk.err
  | succ f ih =>
    intro f2 i c hf hi
    obtain ⟨g, rfl⟩ : ∃ g, f2 = g + 1 := ⟨f2 - 1, by omega⟩
    rw [Go.Proofs.YtioddclglemlmaaGreatDoor.rdsF, Go.Proofs.YtioddclglemlmaaGreatDoor.rdsF, h.rd hi]
    by_cases q : rdQ l1 i = true
    · have hl := h.rdlt hi q
      rw [if_pos q, if_pos q, h.same i hl]
      exact (h.text sh (i := i + 1) hl).bind fun v j hj => ih g j _ (by omega) hj
    · rw [if_neg q, if_neg q]; exact Sim.okk hi
/-- the forms of both -/
theorem Emb.form (h : Emb l1 l2 p n) (hc : CSim l1 l2 sh p n C1 C2) {i : Nat} (hi : i ≤ n) :
    (formP l1 C1 i = none ∧ formP l2 C2 (p + i) = none) ∨ (i < n ∧ ∃ g1 g2, formP l1 C1 i = some g1 ∧ formP l2 C2 (p + i) = some g2 ∧ ∀ k, k ≤ n → Sim sh p n (g1 k) (g2 (p + k))) := by
  have hlen : l1.length + 1 ≤ l2.length + 1 := by have := h.len; have := h.len2; omega
  unfold formP
  rw [h.o hi (by decide)]
  by_cases q : isO l1 i bOpen = true
  · rw [if_pos q, if_pos q]
    exact .inr ⟨h.ltT hi (by decide) q, _, _, rfl, rfl, fun k hk => h.subP hc hk⟩
  rw [if_neg q, if_neg q]
  by_cases k : (tk l1 i).1 = 1
  · have hl : i < n := h.lt hi (by rw [k]; decide)
    rw [if_pos k, if_pos ((h.k hi).2 k), h.same i hl]
    by_cases c1 : (tk l1 i).2 = bLB
    · rw [if_pos c1, if_pos c1]; exact .inr ⟨hl, _, _, rfl, rfl, fun k hk => h.grpP hc hk⟩
    rw [if_neg c1, if_neg c1]
    by_cases c2 : (tk l1 i).2 = bIf
    · rw [if_pos c2, if_pos c2]; exact .inr ⟨hl, _, _, rfl, rfl, fun k hk => h.braF hc _ _ k hlen hk⟩
    rw [if_neg c2, if_neg c2]
    by_cases c3 : (tk l1 i).2 = bWhile
    · rw [if_pos c3, if_pos c3]; exact .inr ⟨hl, _, _, rfl, rfl, fun k hk => h.looP hc false hk⟩
    rw [if_neg c3, if_neg c3]
    by_cases c4 : (tk l1 i).2 = bUntil
    · rw [if_pos c4, if_pos c4]; exact .inr ⟨hl, _, _, rfl, rfl, fun k hk => h.looP hc true hk⟩
    rw [if_neg c4, if_neg c4]
    by_cases c5 : (tk l1 i).2 = bFor
    · rw [if_pos c5, if_pos c5]; exact .inr ⟨hl, _, _, rfl, rfl, fun k hk => h.eacP hc hk⟩
    rw [if_neg c5, if_neg c5]
    by_cases c6 : (tk l1 i).2 = bCase
    · rw [if_pos c6, if_pos c6]; exact .inr ⟨hl, _, _, rfl, rfl, fun k hk => h.choP hc hk⟩
    rw [if_neg c6, if_neg c6]
    exact .inl ⟨rfl, rfl⟩
  · rw [if_neg k, if_neg (fun e => k ((h.k hi).1 e))]
    exact .inl ⟨rfl, rfl⟩
/-- commands within l1 are commands within l2, deeper perhaps -/
theorem Emb.cmd (h : Emb l1 l2 p n) : ∀ f1 f2 d1 d2, f1 ≤ f2 → (d1 = d2 ∨ (sh ∧ d1 ≤ d2)) → CSim l1 l2 sh p n (cmdF l1 f1 d1) (cmdF l2 f2 d2) := by
  intro f1
  induction f1 with
  | zero => intro f2 d1 d2 _ _; exact ⟨fun i hi => Sim.of_not NotOk.err, NotOk.err⟩
  | succ f ih =>
    intro f2 d1 d2 hf hd
    obtain ⟨g, rfl⟩ : ∃ g, f2 = g + 1 := ⟨f2 - 1, by omega⟩
    have hc := ih g (d1 + 1) (d2 + 1) (by omega) (by rcases hd with e | ⟨e1, e2⟩; exact .inl (by omega); exact .inr ⟨e1, by omega⟩)
    constructor
    · intro i hi
      rw [cmdF, cmdF]
      rcases h.form hc hi with ⟨e1, e2⟩ | ⟨hl, g1, g2, e1, e2, hg⟩
      · rw [e1, e2]; exact h.simP sh hi
      · rw [e1, e2]
        show Sim sh p n (if 60 < d1 + 1 then PR.err 42 else _) (if 60 < d2 + 1 then PR.err 42 else _)
        by_cases b : 60 < d1 + 1
        · rw [if_pos b]; exact Sim.of_not NotOk.err
        rw [if_neg b]
        have hs : Sim sh p n ((g1 (i + 1)).bind fun c j => Go.Proofs.YtioddclglemlmaaGreatDoor.rdsF l1 (l1.length + 1) j c) ((g2 (p + (i + 1))).bind fun c j => Go.Proofs.YtioddclglemlmaaGreatDoor.rdsF l2 (l2.length + 1) j c) := (hg (i + 1) hl).bind fun c j hj => h.rdsF (sh := sh) (l1.length + 1) (l2.length + 1) j c (by have := h.len; have := h.len2; omega) hj
        by_cases b2 : 60 < d2 + 1
        · rw [if_pos b2]
          intro v j e
          exact ⟨(hs v j e).1, .inr ⟨by rcases hd with e | ⟨e1, _⟩; omega; exact e1, rfl⟩⟩
        · rw [if_neg b2]; exact hs
    · rw [cmdF]
      rcases h.form hc (Nat.le_refl n) with ⟨e1, _⟩ | ⟨hl, _⟩
      · rw [e1]; exact h.simn
      · omega
end
end Go.Proofs.YtioddclglemlmaaGreatDoor

/- Compounds within one another, in plain words: sixty deep they parse, deeper they do not; no condition. -/
namespace Go.Proofs.YtioddclglemlmaaGreatDoor
open Go

def tA : (Int × ByteArray) := ⟨1, ⟨#[97]⟩⟩
def tE : (Int × ByteArray) := ⟨4, ⟨#[]⟩⟩
def nestR (n : Nat) : List (Int × ByteArray) := List.replicate n ⟨2, bOpen⟩ ++ (tA :: (List.replicate n ⟨2, bShut⟩ ++ [tE]))
def pairs : Nat → List (Int × ByteArray)
  | 0 => []
  | n + 1 => ⟨2, bSemi⟩ :: ⟨1, bRB⟩ :: pairs n
def nestB (n : Nat) : List (Int × ByteArray) := List.replicate n ⟨1, bLB⟩ ++ (tA :: (pairs n ++ [tE]))
theorem tk_app_right {a b : List (Int × ByteArray)} {i : Nat} (h : a.length ≤ i) : tk (a ++ b) i = tk b (i - a.length) := by
  unfold tk; rw [List.getD_eq_getElem?_getD, List.getD_eq_getElem?_getD, List.getElem?_append_right h]
theorem tk_app_left {a b : List (Int × ByteArray)} {i : Nat} (h : i < a.length) : tk (a ++ b) i = tk a i := by
  unfold tk; rw [List.getD_eq_getElem?_getD, List.getD_eq_getElem?_getD, List.getElem?_append_left h]
theorem tk_rep {n i : Nat} {x : (Int × ByteArray)} (h : i < n) : tk (List.replicate n x) i = x := by
  unfold tk; rw [List.getD_eq_getElem?_getD, List.getElem?_replicate, if_pos h]; rfl
theorem pairs_len : ∀ n, (pairs n).length = 2 * n
  | 0 => rfl
  | n + 1 => by rw [pairs, List.length_cons, List.length_cons, pairs_len n]; omega
theorem tk_pairs : ∀ n j, j < n → tk (pairs n) (2 * j) = ⟨2, bSemi⟩ ∧ tk (pairs n) (2 * j + 1) = ⟨1, bRB⟩
  | n + 1, 0, _ => ⟨rfl, rfl⟩
  | n + 1, j + 1, h => by
    have := tk_pairs n j (by omega)
    exact this
theorem nestR_open {n i : Nat} (h : i < n) : tk (nestR n) i = ⟨2, bOpen⟩ := by
  unfold nestR; rw [tk_app_left (by simpa using h), tk_rep h]
theorem nestR_a (n : Nat) : tk (nestR n) n = tA := by
  unfold nestR; rw [tk_app_right (by simp)]; simp [tk]
theorem nestR_shut {n i : Nat} (h : n < i) (h2 : i ≤ 2 * n) : tk (nestR n) i = ⟨2, bShut⟩ := by
  unfold nestR
  rw [tk_app_right (by simp; omega)]
  obtain ⟨k, hk⟩ : ∃ k, i - n = k + 1 := ⟨i - n - 1, by omega⟩
  rw [List.length_replicate, hk]
  show tk (List.replicate n ⟨2, bShut⟩ ++ [tE]) k = _
  rw [tk_app_left (by simp; omega), tk_rep (by omega)]
theorem nestR_end (n : Nat) : tk (nestR n) (2 * n + 1) = tE := by
  unfold nestR
  rw [tk_app_right (by simp; omega), List.length_replicate, show 2 * n + 1 - n = n + 1 by omega]
  show tk (List.replicate n ⟨2, bShut⟩ ++ [tE]) n = _
  rw [tk_app_right (by simp)]; simp [tk]
theorem nestB_open {n i : Nat} (h : i < n) : tk (nestB n) i = ⟨1, bLB⟩ := by
  unfold nestB; rw [tk_app_left (by simpa using h), tk_rep h]
theorem nestB_a (n : Nat) : tk (nestB n) n = tA := by
  unfold nestB; rw [tk_app_right (by simp)]; simp [tk]
theorem nestB_pair {n j : Nat} (h : j < n) : tk (nestB n) (n + 1 + 2 * j) = ⟨2, bSemi⟩ ∧ tk (nestB n) (n + 1 + 2 * j + 1) = ⟨1, bRB⟩ := by
  unfold nestB
  have hp := tk_pairs n j h
  constructor
  · rw [tk_app_right (by simp; omega), List.length_replicate, show n + 1 + 2 * j - n = 2 * j + 1 by omega]
    show tk (pairs n ++ [tE]) (2 * j) = _
    rw [tk_app_left (by rw [pairs_len]; omega)]; exact hp.1
  · rw [tk_app_right (by simp; omega), List.length_replicate, show n + 1 + 2 * j + 1 - n = 2 * j + 1 + 1 by omega]
    show tk (pairs n ++ [tE]) (2 * j + 1) = _
    rw [tk_app_left (by rw [pairs_len]; omega)]; exact hp.2
theorem nestB_end (n : Nat) : tk (nestB n) (3 * n + 1) = tE := by
  unfold nestB
  rw [tk_app_right (by simp; omega), List.length_replicate, show 3 * n + 1 - n = 2 * n + 1 by omega]
  show tk (pairs n ++ [tE]) (2 * n) = _
  rw [tk_app_right (by rw [pairs_len]; omega), pairs_len]; simp [tk]

theorem isT_ne {l : List (Int × ByteArray)} {i : Nat} {x : (Int × ByteArray)} {k : Int} {t : ByteArray} (h : tk l i = x) (hn : x ≠ ⟨k, t⟩) : isT l i k t = false := by
  unfold isT; rw [h]; exact decide_eq_false hn
theorem isT_eq {l : List (Int × ByteArray)} {i : Nat} {k : Int} {t : ByteArray} (h : tk l i = ⟨k, t⟩) : isT l i k t = true := by
  unfold isT; rw [h]; exact decide_eq_true rfl
theorem line_stay {l : List (Int × ByteArray)} {i : Nat} {x : (Int × ByteArray)} (h : tk l i = x) (hn : x.1 ≠ 3) : lineP l i = i := by
  have hl : nlT l i = false := isT_ne h (fun e => hn (by rw [e]))
  unfold lineP
  cases hc : l.length with
  | zero => rfl
  | succ n => rw [lineF, hl]; rfl
/-- the word a alone -/
theorem sim_a {l : List (Int × ByteArray)} {i : Nat} {x : (Int × ByteArray)} (h : tk l i = tA) (hx : tk l (i + 1) = x) (h2 : x.1 ≠ 1) (h3 : rdQ l (i + 1) = false) (hl : 0 < l.length) : ∃ c, simP l i = .ok c (i + 1) := by
  obtain ⟨n, hn⟩ : ∃ n, l.length = n + 1 := ⟨l.length - 1, by omega⟩
  have hq : rdQ l i = false := by unfold rdQ; rw [h]; rfl
  have e1 : simF l (l.length + 1) i [] [] [] = .ok (.mk 1 false [] [⟨#[97]⟩] [] [] [] []) (i + 1) := by
    rw [hn, simF, hq, h, if_neg (by decide), if_pos (show tA.1 = 1 from rfl), if_neg (by decide), simF, h3, if_neg (by decide), hx, if_neg h2]
    rfl
  refine ⟨.mk 1 false [] [⟨#[97]⟩] [] [] [] [], ?_⟩
  unfold simP
  rw [h, if_neg (by rintro ⟨_, h | h⟩ <;> revert h <;> decide), e1]
  show (if i + 1 = i then PR.err 31 else PR.ok (CmdT.mk 1 false [] [⟨#[97]⟩] [] [] [] []) (i + 1)) = _
  rw [if_neg (by omega)]
/-- one command alone is a list's command -/
theorem lis_one {l : List (Int × ByteArray)} {C : Nat → PR CmdT} {i j : Nat} {c : CmdT} {x y : (Int × ByteArray)} (hi : tk l i = x) (hi3 : x.1 ≠ 3) (hin : x ≠ ⟨1, bNot⟩) (hC : C i = .ok c j) (hj : tk l j = y) (h1 : y ≠ ⟨2, bPipe⟩) (h2 : y ≠ ⟨2, bAnd⟩) (h3 : y ≠ ⟨2, bOr⟩) :
    aoP l C (lineP l i) = .ok c j := by
  have hw : isW l i bNot = false := isT_ne hi hin
  rw [line_stay hi hi3]
  unfold aoP
  have hp : pipP l C i = .ok c j := by
    unfold pipP
    rw [hw, if_neg (by decide), hC]
    show (pipF l C (l.length + 1) j [c]).bind _ = _
    rw [pipF, show isO l j bPipe = false from isT_ne hj h1]
    rfl
  rw [hp]
  show aoF l C (l.length + 1) j c = _
  rw [aoF, show isO l j bAnd = false from isT_ne hj h2, show isO l j bOr = false from isT_ne hj h3]
  rfl
theorem lis_err {l : List (Int × ByteArray)} {C : Nat → PR CmdT} {i : Nat} {n : Int} {x : (Int × ByteArray)} (hi : tk l i = x) (hi3 : x.1 ≠ 3) (hin : x ≠ ⟨1, bNot⟩) (hC : C i = .err n) : lisP l C i = .err n := by
  have hw : isW l i bNot = false := isT_ne hi hin
  unfold lisP aosP aoP pipP
  rw [line_stay hi hi3, hw, if_neg (by decide), hC]
  rfl
theorem rds_stay {l : List (Int × ByteArray)} {i : Nat} {c : CmdT} (h : rdQ l i = false) (f : Nat) : rdsF l (f + 1) i c = .ok c i := by
  rw [rdsF, h]; rfl
theorem rdQ_no {l : List (Int × ByteArray)} {i : Nat} {x : (Int × ByteArray)} (h : tk l i = x) (hx : x = ⟨2, bShut⟩ ∨ x = ⟨2, bSemi⟩ ∨ x = tE) : rdQ l i = false := by
  unfold rdQ; rw [h]; rcases hx with rfl | rfl | rfl <;> decide

theorem nestR_com (n : Nat) : ∀ j d f, n = d + j → d ≤ 60 → j < f → (n ≤ 60 → ∃ c, cmdF (nestR n) f d d = .ok c (2 * n + 1 - d)) ∧ (60 < n → cmdF (nestR n) f d d = .err 42) := by
  intro j
  induction j with
  | zero =>
    intro d f hn hd hf
    obtain rfl : n = d := by omega
    obtain ⟨f, rfl⟩ : ∃ g, f = g + 1 := ⟨f - 1, by omega⟩
    refine ⟨fun _ => ?_, fun h => by omega⟩
    have ha := nestR_a n
    obtain ⟨x, hx, hx2⟩ : ∃ x, tk (nestR n) (n + 1) = x ∧ (x = ⟨2, bShut⟩ ∨ x = ⟨2, bSemi⟩ ∨ x = tE) := by
      by_cases h0 : n = 0
      · subst h0; exact ⟨_, rfl, .inr (.inr rfl)⟩
      · exact ⟨_, nestR_shut (Nat.lt_succ_self n) (by omega), .inl rfl⟩
    obtain ⟨c, hc⟩ := sim_a ha hx (by rcases hx2 with rfl | rfl | rfl <;> decide) (rdQ_no hx hx2) (by simp [nestR]; omega)
    refine ⟨c, ?_⟩
    have hform : formP (nestR n) (cmdF (nestR n) f (n + 1)) n = none := by
      unfold formP
      rw [show isO (nestR n) n bOpen = false from isT_ne ha (by decide), if_neg (by decide), ha, if_pos (show tA.1 = 1 from rfl), if_neg (by decide), if_neg (by decide), if_neg (by decide), if_neg (by decide), if_neg (by decide), if_neg (by decide)]
    rw [cmdF, hform]
    show simP (nestR n) n = _
    rw [hc, show 2 * n + 1 - n = n + 1 by omega]
  | succ j ih =>
    intro d f hn hd hf
    obtain ⟨f, rfl⟩ : ∃ g, f = g + 1 := ⟨f - 1, by omega⟩
    have ho : tk (nestR n) d = ⟨2, bOpen⟩ := nestR_open (by omega)
    have hform : formP (nestR n) (cmdF (nestR n) f (d + 1)) d = some (subP (nestR n) (cmdF (nestR n) f (d + 1))) := by
      unfold formP; rw [show isO (nestR n) d bOpen = true from isT_eq ho, if_pos rfl]
    rw [cmdF, hform]
    show (n ≤ 60 → ∃ c, (if 60 < d + 1 then PR.err 42 else _) = _) ∧ (60 < n → (if 60 < d + 1 then PR.err 42 else _) = _)
    by_cases h60 : 60 < d + 1
    · rw [if_pos h60]
      exact ⟨fun h => by omega, fun _ => rfl⟩
    rw [if_neg h60]
    have hih := ih (d + 1) f (by omega) (by omega) (by omega)
    obtain ⟨x, hx, hx3, hxn⟩ : ∃ x, tk (nestR n) (d + 1) = x ∧ x.1 ≠ 3 ∧ x ≠ ⟨1, bNot⟩ := by
      by_cases h : d + 1 < n
      · exact ⟨_, nestR_open h, by decide, by decide⟩
      · obtain rfl : n = d + 1 := by omega
        exact ⟨_, nestR_a _, by decide, by decide⟩
    refine ⟨fun h => ?_, fun h => ?_⟩
    · obtain ⟨c, hc⟩ := hih.1 h
      have hs := nestR_shut (n := n) (i := 2 * n + 1 - (d + 1)) (by omega) (by omega)
      have ha := lis_one hx hx3 hxn hc hs (by decide) (by decide) (by decide)
      have hl : lisP (nestR n) (cmdF (nestR n) f (d + 1)) (d + 1) = .ok c (2 * n + 1 - (d + 1)) := by
        unfold lisP aosP
        rw [ha]
        show ((aosF _ _ _ _ [c]).bind _) = _
        rw [aosF]
        have hsep : sepP (nestR n) (2 * n + 1 - (d + 1)) = none := by
          unfold sepP
          rw [show isO (nestR n) (2 * n + 1 - (d + 1)) bSemi = false from isT_ne hs (by decide), show nlT (nestR n) (2 * n + 1 - (d + 1)) = false from isT_ne hs (by decide)]
          rfl
        rw [hsep]
        rfl
      refine ⟨.mk 11 false [] [] [] [c] [] [], ?_⟩
      unfold subP
      rw [hl]
      show ((mustO _ _ _).bind _).bind _ = _
      unfold mustO
      rw [show isO (nestR n) (2 * n + 1 - (d + 1)) bShut = true from isT_eq hs, if_pos rfl]
      show rdsF _ _ (2 * n + 1 - (d + 1) + 1) _ = _
      rw [show 2 * n + 1 - (d + 1) + 1 = 2 * n + 1 - d by omega]
      refine rds_stay ?_ _
      by_cases h0 : d = 0
      · subst h0; exact rdQ_no (nestR_end n) (.inr (.inr rfl))
      · exact rdQ_no (nestR_shut (by omega) (by omega)) (.inl rfl)
    · have hl := lis_err hx hx3 hxn (hih.2 h)
      unfold subP
      rw [hl]
      rfl
theorem nestB_com (n : Nat) : ∀ j d f, n = d + j → d ≤ 60 → j < f → (n ≤ 60 → ∃ c, cmdF (nestB n) f d d = .ok c (n + 1 + 2 * j)) ∧ (60 < n → cmdF (nestB n) f d d = .err 42) := by
  intro j
  induction j with
  | zero =>
    intro d f hn hd hf
    obtain rfl : n = d := by omega
    obtain ⟨f, rfl⟩ : ∃ g, f = g + 1 := ⟨f - 1, by omega⟩
    refine ⟨fun _ => ?_, fun h => by omega⟩
    have ha := nestB_a n
    obtain ⟨x, hx, hx2⟩ : ∃ x, tk (nestB n) (n + 1) = x ∧ (x = ⟨2, bShut⟩ ∨ x = ⟨2, bSemi⟩ ∨ x = tE) := by
      by_cases h0 : n = 0
      · subst h0; exact ⟨_, rfl, .inr (.inr rfl)⟩
      · exact ⟨_, (nestB_pair (n := n) (j := 0) (by omega)).1, .inr (.inl rfl)⟩
    obtain ⟨c, hc⟩ := sim_a ha hx (by rcases hx2 with rfl | rfl | rfl <;> decide) (rdQ_no hx hx2) (by simp [nestB]; omega)
    refine ⟨c, ?_⟩
    have hform : formP (nestB n) (cmdF (nestB n) f (n + 1)) n = none := by
      unfold formP
      rw [show isO (nestB n) n bOpen = false from isT_ne ha (by decide), if_neg (by decide), ha, if_pos (show tA.1 = 1 from rfl), if_neg (by decide), if_neg (by decide), if_neg (by decide), if_neg (by decide), if_neg (by decide), if_neg (by decide)]
    rw [cmdF, hform]
    show simP (nestB n) n = _
    rw [hc]
  | succ j ih =>
    intro d f hn hd hf
    obtain ⟨f, rfl⟩ : ∃ g, f = g + 1 := ⟨f - 1, by omega⟩
    have ho : tk (nestB n) d = ⟨1, bLB⟩ := nestB_open (by omega)
    have hform : formP (nestB n) (cmdF (nestB n) f (d + 1)) d = some (grpP (nestB n) (cmdF (nestB n) f (d + 1))) := by
      unfold formP
      rw [show isO (nestB n) d bOpen = false from isT_ne ho (by decide), if_neg (by decide), ho, if_pos rfl, if_pos rfl]
    rw [cmdF, hform]
    show (n ≤ 60 → ∃ c, (if 60 < d + 1 then PR.err 42 else _) = _) ∧ (60 < n → (if 60 < d + 1 then PR.err 42 else _) = _)
    by_cases h60 : 60 < d + 1
    · rw [if_pos h60]
      exact ⟨fun h => by omega, fun _ => rfl⟩
    rw [if_neg h60]
    have hih := ih (d + 1) f (by omega) (by omega) (by omega)
    obtain ⟨x, hx, hx3, hxn⟩ : ∃ x, tk (nestB n) (d + 1) = x ∧ x.1 ≠ 3 ∧ x ≠ ⟨1, bNot⟩ := by
      by_cases h : d + 1 < n
      · exact ⟨_, nestB_open h, by decide, by decide⟩
      · obtain rfl : n = d + 1 := by omega
        exact ⟨_, nestB_a _, by decide, by decide⟩
    refine ⟨fun h => ?_, fun h => ?_⟩
    · obtain ⟨c, hc⟩ := hih.1 h
      obtain ⟨hs, hr⟩ := nestB_pair (n := n) (j := j) (by omega)
      have ha := lis_one hx hx3 hxn hc hs (by decide) (by decide) (by decide)
      have hl : lisP (nestB n) (cmdF (nestB n) f (d + 1)) (d + 1) = .ok c (n + 1 + 2 * j + 1) := by
        unfold lisP aosP
        rw [ha]
        show ((aosF _ _ _ _ [c]).bind _) = _
        rw [aosF]
        have hsep : sepP (nestB n) (n + 1 + 2 * j) = some (n + 1 + 2 * j + 1) := by
          unfold sepP
          rw [show isO (nestB n) (n + 1 + 2 * j) bSemi = true from isT_eq hs, line_stay hr (by decide)]
          rfl
        have hbeg : begP (nestB n) (n + 1 + 2 * j + 1) = false := by unfold begP; rw [hr]; decide
        rw [hsep]
        show ((if begP (nestB n) (n + 1 + 2 * j + 1) = true then _ else PR.ok [c] (n + 1 + 2 * j + 1)).bind _) = _
        rw [hbeg]
        rfl
      refine ⟨.mk 10 false [] [] [] [c] [] [], ?_⟩
      unfold grpP
      rw [hl]
      show ((mustW _ _ _).bind _).bind _ = _
      unfold mustW
      rw [show isW (nestB n) (n + 1 + 2 * j + 1) bRB = true from isT_eq hr, if_pos rfl]
      show rdsF _ _ (n + 1 + 2 * j + 1 + 1) _ = _
      rw [show n + 1 + 2 * j + 1 + 1 = n + 1 + 2 * (j + 1) by omega]
      refine rds_stay ?_ _
      by_cases h0 : d = 0
      · subst h0
        rw [show n + 1 + 2 * (j + 1) = 3 * n + 1 by omega]
        exact rdQ_no (nestB_end n) (.inr (.inr rfl))
      · exact rdQ_no (nestB_pair (n := n) (j := j + 1) (by omega)).1 (.inr (.inl rfl))
    · have hl := lis_err hx hx3 hxn (hih.2 h)
      unfold grpP
      rw [hl]
      rfl
theorem scr_of {l : List (Int × ByteArray)} {x y : (Int × ByteArray)} {j : Nat} (hx : tk l 0 = x) (hx3 : x.1 ≠ 3) (hxn : x ≠ ⟨1, bNot⟩) (hb : begP l 0 = true) (hy : tk l j = y) (hye : y = tE) :
    (∀ c, cmdF l (l.length + 1) 0 0 = .ok c j → scrP l = .ok (.mk 5 false [] [] [] [c] [] []) j) ∧ (∀ n, cmdF l (l.length + 1) 0 0 = .err n → scrP l = .err n) := by
  subst hye
  have h0 : lineP l 0 = 0 := line_stay hx hx3
  constructor
  · intro c hc
    have ha := lis_one (C := cmdF l (l.length + 1) 0) hx hx3 hxn hc hy (by decide) (by decide) (by decide)
    rw [h0] at ha
    unfold scrP
    show PR.bind (if begP l (lineP l 0) = true then aosP l (cmdF l (l.length + 1) 0) (lineP l 0) else PR.ok [] (lineP l 0)) _ = _
    rw [h0, hb, if_pos rfl]
    unfold aosP
    rw [ha]
    show PR.bind (aosF _ _ _ _ [c]) _ = _
    rw [aosF]
    have hsep : sepP l j = none := by
      unfold sepP
      rw [show isO l j bSemi = false from isT_ne hy (by decide), show nlT l j = false from isT_ne hy (by decide)]
      rfl
    rw [hsep]
    show (if (tk l j).1 = 4 then _ else _) = _
    rw [hy, if_pos (show tE.1 = 4 from rfl)]
  · intro n hn
    unfold scrP
    show PR.bind (if begP l (lineP l 0) = true then aosP l (cmdF l (l.length + 1) 0) (lineP l 0) else PR.ok [] (lineP l 0)) _ = _
    have hw : isW l 0 bNot = false := isT_ne hx hxn
    rw [h0, hb, if_pos rfl]
    unfold aosP aoP pipP
    rw [hw, if_neg (by decide), hn]
    rfl
/-- the nests of GramDeep -/
theorem nestR_scr (n : Nat) (h : 1 ≤ n) : (n ≤ 60 → ∃ c i, scrP (nestR n) = .ok c i) ∧ (60 < n → scrP (nestR n) = .err 42) := by
  have h1 := nestR_com n n 0 ((nestR n).length + 1) (by omega) (by omega) (by simp [nestR]; omega)
  have ho : tk (nestR n) 0 = ⟨2, bOpen⟩ := nestR_open h
  have h2 := scr_of (j := 2 * n + 1) ho (by decide) (by decide) (by unfold begP; rw [ho]; decide) (nestR_end n) rfl
  exact ⟨fun hn => by obtain ⟨c, hc⟩ := h1.1 hn; exact ⟨_, _, h2.1 c hc⟩, fun hn => h2.2 _ (h1.2 hn)⟩
theorem nestB_scr (n : Nat) (h : 1 ≤ n) : (n ≤ 60 → ∃ c i, scrP (nestB n) = .ok c i) ∧ (60 < n → scrP (nestB n) = .err 42) := by
  have h1 := nestB_com n n 0 ((nestB n).length + 1) (by omega) (by omega) (by simp [nestB]; omega)
  have ho : tk (nestB n) 0 = ⟨1, bLB⟩ := nestB_open h
  have h2 := scr_of (j := n + 1 + 2 * n) ho (by decide) (by decide) (by unfold begP; rw [ho]; decide) (by rw [show n + 1 + 2 * n = 3 * n + 1 by omega]; exact nestB_end n) rfl
  exact ⟨fun hn => by obtain ⟨c, hc⟩ := h1.1 hn; exact ⟨_, _, h2.1 c hc⟩, fun hn => h2.2 _ (h1.2 hn)⟩
end Go.Proofs.YtioddclglemlmaaGreatDoor

/- Texts that are one command each parse, one behind the other, as the list of these, in plain words; no condition. -/
namespace Go.Proofs.YtioddclglemlmaaGreatDoor
open Go

def eT : Int × ByteArray := (4, ⟨#[]⟩)
def nT : Int × ByteArray := (3, ⟨#[10]⟩)
def sT : Int × ByteArray := (2, bSemi)
/-- the tokens T are one command k -/
def One (T : List (Int × ByteArray)) (k : CmdT) : Prop := (∀ x ∈ T, x.1 ≠ 4) ∧ ∃ j, scrP (T ++ [eT]) = .ok (.mk 5 false [] [] [] [k] [] []) j
theorem tk_at {P T Q : List (Int × ByteArray)} {i : Nat} (h : i < T.length) : tk (P ++ (T ++ Q)) (P.length + i) = tk (T ++ [eT]) i := by
  unfold tk
  rw [List.getD_eq_getElem?_getD, List.getD_eq_getElem?_getD, List.getElem?_append_right (by omega), show P.length + i - P.length = i by omega, List.getElem?_append_left h, List.getElem?_append_left h]
theorem tk_behind {P T Q : List (Int × ByteArray)} {x : Int × ByteArray} : tk (P ++ (T ++ (x :: Q))) (P.length + T.length) = x := by
  unfold tk
  rw [List.getD_eq_getElem?_getD, List.getElem?_append_right (by omega), show P.length + T.length - P.length = T.length by omega, List.getElem?_append_right (Nat.le_refl _), Nat.sub_self]
  rfl
theorem tk_last (T : List (Int × ByteArray)) : tk (T ++ [eT]) T.length = eT := by
  unfold tk
  rw [List.getD_eq_getElem?_getD, List.getElem?_append_right (Nat.le_refl _), Nat.sub_self]
  rfl
theorem emb_of (P T Q : List (Int × ByteArray)) (x : Int × ByteArray) (hx : x = nT ∨ x = sT ∨ x = eT) : Emb (T ++ [eT]) (P ++ (T ++ (x :: Q))) P.length T.length := by
  refine ⟨by simp, fun i hi => tk_at hi, by rw [tk_last]; rfl, ?_, by simp⟩
  rw [tk_behind]
  exact hx
/-- on with a list, from where the next command may begin -/
def goP (l : List (Int × ByteArray)) (C : Nat → PR CmdT) (f p : Nat) (ks : List CmdT) : PR (List CmdT) :=
  if begP l p then (aoP l C p).bind fun c j => aosF l C f j (ks ++ [c]) else .ok ks p
theorem scr_go (l : List (Int × ByteArray)) : scrP l = (goP l (cmdF l (l.length + 1) 0) (l.length + 1) (lineP l 0) []).bind fun ks j => if (tk l j).1 = 4 then .ok (.mk 5 false [] [] [] ks [] []) j else .err 31 := rfl
theorem aos_go {l : List (Int × ByteArray)} {C : Nat → PR CmdT} {f i q : Nat} {ks : List CmdT} (h : sepP l i = some q) : aosF l C (f + 1) i ks = goP l C f q ks := by
  rw [aosF, h]; rfl
theorem aos_len {l : List (Int × ByteArray)} {C : Nat → PR CmdT} : ∀ f i ks ks' j, aosF l C f i ks = .ok ks' j → ks.length ≤ ks'.length := by
  intro f
  induction f with
  | zero => intro i ks ks' j h; cases h
  | succ f ih =>
    intro i ks ks' j h
    rw [aosF] at h
    cases hs : sepP l i with
    | none => rw [hs] at h; cases h; exact Nat.le_refl _
    | some q =>
      rw [hs] at h
      have h' : (if begP l q = true then (aoP l C q).bind fun c j => aosF l C f j (ks ++ [c]) else PR.ok ks q) = .ok ks' j := h
      split at h'
      · cases ha : aoP l C q with
        | err n => rw [ha] at h'; cases h'
        | ok c k =>
          rw [ha] at h'
          have := ih k (ks ++ [c]) ks' j h'
          rw [List.length_append] at this; simp at this; omega
      · cases h'; exact Nat.le_refl _
/-- how the one command of a text stands in it -/
theorem One.parts {T : List (Int × ByteArray)} {k : CmdT} (h : One T k) : ∃ j1, lineP (T ++ [eT]) 0 < T.length ∧ begP (T ++ [eT]) (lineP (T ++ [eT]) 0) = true ∧ aoP (T ++ [eT]) (cmdF (T ++ [eT]) ((T ++ [eT]).length + 1) 0) (lineP (T ++ [eT]) 0) = .ok k j1 ∧ j1 ≤ T.length ∧
    ((sepP (T ++ [eT]) j1 = none ∧ j1 = T.length) ∨ sepP (T ++ [eT]) j1 = some T.length) := by
  obtain ⟨h4, j, hj⟩ := h
  have E := emb_of [] T [] eT (.inr (.inr rfl))
  rw [scr_go] at hj
  unfold goP at hj
  obtain ⟨_, g2, _⟩ := E.line (Nat.zero_le T.length)
  by_cases b : begP (T ++ [eT]) (lineP (T ++ [eT]) 0) = true
  · rw [if_pos b] at hj
    have hl : lineP (T ++ [eT]) 0 < T.length := by
      rcases Nat.lt_or_ge (lineP (T ++ [eT]) 0) T.length with q | q
      · exact q
      · rw [show lineP (T ++ [eT]) 0 = T.length by omega, E.begn] at b; cases b
    cases ha : aoP (T ++ [eT]) (cmdF (T ++ [eT]) ((T ++ [eT]).length + 1) 0) (lineP (T ++ [eT]) 0) with
    | err n => rw [ha] at hj; cases hj
    | ok c j1 =>
      rw [ha] at hj
      have hc := E.cmd (sh := False) ((T ++ [eT]).length + 1) (([] ++ (T ++ (eT :: []))).length + 1) 0 0 (by simp) (.inl rfl)
      have hj1 := (E.aoP hc (Nat.le_of_lt hl) c j1 ha).1
      have hj' : ((aosF (T ++ [eT]) (cmdF (T ++ [eT]) ((T ++ [eT]).length + 1) 0) ((T ++ [eT]).length + 1) j1 [c]).bind fun ks j => if (tk (T ++ [eT]) j).1 = 4 then PR.ok (CmdT.mk 5 false [] [] [] ks [] []) j else .err 31) = .ok (CmdT.mk 5 false [] [] [] [k] [] []) j := hj
      have h4' : ∀ i, i < T.length → (tk (T ++ [eT]) i).1 ≠ 4 := by
        intro i hi
        unfold tk
        rw [List.getD_eq_getElem?_getD, List.getElem?_append_left hi, List.getElem?_eq_getElem hi]
        exact h4 _ (List.getElem_mem hi)
      cases hs : sepP (T ++ [eT]) j1 with
      | none =>
        rw [aosF, hs] at hj'
        have hj2 : (if (tk (T ++ [eT]) j1).1 = 4 then PR.ok (CmdT.mk 5 false [] [] [] [c] [] []) j1 else .err 31) = .ok (.mk 5 false [] [] [] [k] [] []) j := hj'
        split at hj2
        · rename_i e
          have hk : c = k := by cases hj2; rfl
          rw [hk] at ha
          refine ⟨j1, hl, b, by rw [hk], hj1, .inl ⟨hs, ?_⟩⟩
          rcases Nat.lt_or_ge j1 T.length with q | q
          · exact absurd e (h4' j1 q)
          · omega
        · cases hj2
      | some q =>
        obtain ⟨s1, s2, s3, s4⟩ := E.sep_lt hj1 hs
        rw [aos_go hs] at hj'
        unfold goP at hj'
        by_cases bq : begP (T ++ [eT]) q = true
        · exfalso
          rw [if_pos bq] at hj'
          cases ha2 : aoP (T ++ [eT]) (cmdF (T ++ [eT]) ((T ++ [eT]).length + 1) 0) q with
          | err n => rw [ha2] at hj'; cases hj'
          | ok c2 j2 =>
            rw [ha2] at hj'
            have hj3 : ((aosF (T ++ [eT]) (cmdF (T ++ [eT]) ((T ++ [eT]).length + 1) 0) (T ++ [eT]).length j2 ([c] ++ [c2])).bind fun ks j => if (tk (T ++ [eT]) j).1 = 4 then PR.ok (CmdT.mk 5 false [] [] [] ks [] []) j else .err 31) = .ok (CmdT.mk 5 false [] [] [] [k] [] []) j := hj'
            cases ha3 : aosF (T ++ [eT]) (cmdF (T ++ [eT]) ((T ++ [eT]).length + 1) 0) (T ++ [eT]).length j2 ([c] ++ [c2]) with
            | err n => rw [ha3] at hj3; cases hj3
            | ok ks j3 =>
              rw [ha3] at hj3
              have hlen := aos_len _ _ _ _ _ ha3
              have hj4 : (if (tk (T ++ [eT]) j3).1 = 4 then PR.ok (CmdT.mk 5 false [] [] [] ks [] []) j3 else .err 31) = .ok (.mk 5 false [] [] [] [k] [] []) j := hj3
              split at hj4
              · cases hj4; simp at hlen
              · cases hj4
        · rw [if_neg bq] at hj'
          have hj2 : (if (tk (T ++ [eT]) q).1 = 4 then PR.ok (CmdT.mk 5 false [] [] [] [c] [] []) q else .err 31) = .ok (.mk 5 false [] [] [] [k] [] []) j := hj'
          split at hj2
          · rename_i e
            have hk : c = k := by cases hj2; rfl
            rw [hk] at ha
            have hq : q = T.length := by
              rcases Nat.lt_or_ge q T.length with r | r
              · exact absurd e (h4' q r)
              · omega
            refine ⟨j1, hl, b, by rw [hk], hj1, .inr ?_⟩
            rw [hs, hq]
          · cases hj2
  · rw [if_neg b] at hj
    have hj2 : (if (tk (T ++ [eT]) (lineP (T ++ [eT]) 0)).1 = 4 then PR.ok (CmdT.mk 5 false [] [] [] [] [] []) (lineP (T ++ [eT]) 0) else .err 31) = .ok (.mk 5 false [] [] [] [k] [] []) j := hj
    split at hj2 <;> cases hj2
/-- does a text end with what parts commands? -/
def EndsSep (T : List (Int × ByteArray)) : Prop := ∃ T', T = T' ++ [nT] ∨ T = T' ++ [sT]
theorem lineF_pass {l : List (Int × ByteArray)} {k : Nat} : ∀ f i, i ≤ k → (∀ m, i ≤ m → m < k → nlT l m = true) → k ≤ f + i → lineF l f i = lineF l (f + i - k) k := by
  intro f
  induction f with
  | zero =>
    intro i h1 _ h3
    obtain rfl : i = k := by omega
    rw [show 0 + i - i = 0 by omega]
  | succ f ih =>
    intro i h1 hm h3
    rcases Nat.lt_or_ge i k with q | q
    · rw [lineF, hm i (Nat.le_refl i) q, if_pos rfl, ih (i + 1) q (fun m a b => hm m (by omega) b) (by omega), show f + (i + 1) - k = f + 1 + i - k by omega]
    · obtain rfl : i = k := by omega
      rw [show f + 1 + i - i = f + 1 by omega]
/-- from the last token on, a line's end or not: where the lines end does not hang on the fuel -/
theorem lineF_fuel (l : List (Int × ByteArray)) : ∀ f g i, l.length ≤ f + i → l.length ≤ g + i → lineF l f i = lineF l g i := by
  intro f
  induction f with
  | zero =>
    intro g i h1 h2
    have hn : nlT l i = false := by
      unfold nlT isT tk
      rw [List.getD_eq_getElem?_getD, List.getElem?_eq_none (by omega)]
      decide
    cases g with
    | zero => rfl
    | succ g => rw [lineF, lineF, hn]; rfl
  | succ f ih =>
    intro g i h1 h2
    cases hc : nlT l i with
    | false =>
      rw [lineF, hc]
      cases g with
      | zero => rfl
      | succ g => rw [lineF, hc]; rfl
    | true =>
      have hi : i < l.length := by
        rcases Nat.lt_or_ge i l.length with q | q
        · exact q
        · unfold nlT isT tk at hc
          rw [List.getD_eq_getElem?_getD, List.getElem?_eq_none q] at hc
          have hz : ((4 : Int), (⟨#[]⟩ : ByteArray)) = (3, ⟨#[10]⟩) := of_decide_eq_true hc
          exact absurd (congrArg Prod.fst hz) (by decide)
      obtain ⟨g, rfl⟩ : ∃ g', g = g' + 1 := ⟨g - 1, by omega⟩
      rw [lineF, lineF, hc, if_pos rfl, if_pos rfl]
      exact ih g (i + 1) (by omega) (by omega)
theorem line_one {l : List (Int × ByteArray)} {i : Nat} (h : nlT l i = true) : lineP l i = lineP l (i + 1) := by
  unfold lineP
  have hi : i < l.length := by
    rcases Nat.lt_or_ge i l.length with q | q
    · exact q
    · unfold nlT isT tk at h
      rw [List.getD_eq_getElem?_getD, List.getElem?_eq_none q] at h
      have hz : ((4 : Int), (⟨#[]⟩ : ByteArray)) = (3, ⟨#[10]⟩) := of_decide_eq_true h
      exact absurd (congrArg Prod.fst hz) (by decide)
  rw [lineF_fuel l l.length (l.length + 1) i (by omega) (by omega), lineF, h, if_pos rfl]
theorem line_pass {l : List (Int × ByteArray)} {i k : Nat} (h : i ≤ k) (hk : k ≤ l.length) (hm : ∀ m, i ≤ m → m < k → nlT l m = true) : lineP l i = lineP l k := by
  unfold lineP
  rw [lineF_pass _ _ h hm (by omega)]
  exact lineF_fuel l _ _ _ (by omega) (by omega)
/-- one text's command within a list, x behind it -/
theorem One.go {T : List (Int × ByteArray)} {k : CmdT} (h : One T k) (P Q : List (Int × ByteArray)) (x : Int × ByteArray) (hx : x = nT ∨ x = sT ∨ x = eT) (hs : x = sT → ¬ EndsSep T) (f : Nat) (ks : List CmdT) :
    let l := P ++ (T ++ (x :: Q))
    goP l (cmdF l (l.length + 1) 0) (f + 1) (lineP l P.length) ks =
      if x = eT then .ok (ks ++ [k]) (P.length + T.length) else goP l (cmdF l (l.length + 1) 0) f (lineP l (P.length + T.length + 1)) (ks ++ [k]) := by
  intro l
  have E : Emb (T ++ [eT]) l P.length T.length := emb_of P T Q x hx
  obtain ⟨j1, p1, p2, p3, p4, p5⟩ := h.parts
  have hb : tk l (P.length + T.length) = x := tk_behind
  have hll : P.length + T.length + 1 ≤ l.length := E.len2
  have hc := E.cmd (sh := False) ((T ++ [eT]).length + 1) (l.length + 1) 0 0 (by have := E.len; have := E.len2; omega) (.inl rfl)
  obtain ⟨_, _, g3⟩ := E.line (Nat.zero_le T.length)
  have e0 : lineP l P.length = P.length + lineP (T ++ [eT]) 0 := g3 p1
  have ea : aoP l (cmdF l (l.length + 1) 0) (P.length + lineP (T ++ [eT]) 0) = .ok k (P.length + j1) := by
    rcases (E.aoP hc (Nat.le_of_lt p1) k j1 p3).2 with e | ⟨e, _⟩
    · exact e
    · exact e.elim
  have eg : goP l (cmdF l (l.length + 1) 0) (f + 1) (lineP l P.length) ks = aosF l (cmdF l (l.length + 1) 0) (f + 1) (P.length + j1) (ks ++ [k]) := by
    unfold goP
    rw [e0, E.beg (Nat.le_of_lt p1), p2, if_pos rfl, ea]; rfl
  rw [eg]
  have sepb : x ≠ eT → sepP l (P.length + T.length) = some (lineP l (P.length + T.length + 1)) := by
    intro hne
    unfold sepP
    rw [if_pos]
    rw [Bool.or_eq_true_iff]
    rcases hx with e | e | e
    · right; exact isT_iff.2 (hb.trans e)
    · left; exact isT_iff.2 (hb.trans e)
    · exact absurd e hne
  have sepe : x = eT → sepP l (P.length + T.length) = none := by
    intro e
    unfold sepP
    rw [if_neg]
    rw [Bool.or_eq_true_iff]
    rintro (q | q)
    · have := (isT_iff.1 q).symm.trans (hb.trans e); cases this
    · have := (isT_iff.1 q).symm.trans (hb.trans e); cases this
  rcases p5 with ⟨q1, rfl⟩ | q1
  · by_cases hxe : x = eT
    · rw [if_pos hxe, aosF, sepe hxe]
    · rw [if_neg hxe, aos_go (sepb hxe)]
  · -- the text ends with what parts commands
    obtain ⟨s1, s2, s3, _⟩ := E.sep_lt p4 q1
    have hnl : ∀ m, j1 + 1 ≤ m → m < T.length → nlT (T ++ [eT]) m = true := by
      obtain ⟨k', k1, k2, k3, k4⟩ := E.first (T.length - (j1 + 1)) (j1 + 1) rfl s1
      have : lineP (T ++ [eT]) (j1 + 1) = k' := lineF_to k3 _ _ k1 (by rw [E.len]; omega) k4
      rw [← s2] at this
      intro m a b; exact k4 m a (by omega)
    have hfirst : tk (T ++ [eT]) j1 = sT ∨ tk (T ++ [eT]) j1 = nT := by
      unfold sepP at q1
      split at q1
      · rename_i hh
        rcases Bool.or_eq_true_iff.1 hh with e | e
        · exact .inl (isT_iff.1 e)
        · exact .inr (isT_iff.1 e)
      · cases q1
    have hends : EndsSep T := by
      have hlast : tk (T ++ [eT]) (T.length - 1) = nT ∨ tk (T ++ [eT]) (T.length - 1) = sT := by
        by_cases e : j1 = T.length - 1
        · rw [← e]; exact hfirst.symm
        · exact .inl (isT_iff.1 (hnl (T.length - 1) (by omega) (by omega)))
      obtain ⟨T', y, rfl⟩ : ∃ T' y, T = T' ++ [y] := by
        rcases List.eq_nil_or_concat T with e | ⟨T', y, e⟩
        · rw [e] at s1; simp at s1
        · exact ⟨T', y, by rw [e]; simp⟩
      have ht : tk ((T' ++ [y]) ++ [eT]) ((T' ++ [y]).length - 1) = y := by
        unfold tk
        rw [List.getD_eq_getElem?_getD, List.getElem?_append_left (by simp), show (T' ++ [y]).length - 1 = T'.length by simp, List.getElem?_append_right (Nat.le_refl _), Nat.sub_self]
        rfl
      rw [ht] at hlast
      rcases hlast with e | e
      · exact ⟨T', .inl (by rw [e])⟩
      · exact ⟨T', .inr (by rw [e])⟩
    have hxs : x ≠ sT := fun e => hs e hends
    have e2 : lineP l (P.length + j1 + 1) = lineP l (P.length + T.length) := by
      refine line_pass (by omega) (by omega) (fun m a b => ?_)
      obtain ⟨t, rfl⟩ : ∃ t, m = P.length + t := ⟨m - P.length, by omega⟩
      unfold nlT
      rw [E.tt (by omega)]
      exact hnl t (by omega) (by omega)
    have esep : sepP l (P.length + j1) = some (lineP l (P.length + T.length)) := by
      unfold sepP
      rw [if_pos, e2]
      rw [Bool.or_eq_true_iff]
      rcases hfirst with e | e
      · left; exact isT_iff.2 ((E.same j1 s1).trans e)
      · right; exact isT_iff.2 ((E.same j1 s1).trans e)
    rw [aos_go esep]
    by_cases hxe : x = eT
    · rw [if_pos hxe]
      have hn : nlT l (P.length + T.length) = false := by
        cases hq : nlT l (P.length + T.length) with
        | false => rfl
        | true => have := (isT_iff.1 hq).symm.trans (hb.trans hxe); cases this
      have e3 : lineP l (P.length + T.length) = P.length + T.length := by
        unfold lineP
        cases hL : l.length with
        | zero => rfl
        | succ m => rw [lineF, hn]; rfl
      rw [e3]
      unfold goP
      rw [beg_four (by rw [hb, hxe]; rfl)]
      rfl
    · rw [if_neg hxe]
      have hxn : x = nT := by
        rcases hx with e | e | e
        · exact e
        · exact absurd e hxs
        · exact absurd e hxe
      rw [line_one (isT_iff.2 (hb.trans hxn))]
theorem go_end (P : List (Int × ByteArray)) (C : Nat → PR CmdT) (f : Nat) (ks : List CmdT) : goP (P ++ [eT]) C f (lineP (P ++ [eT]) P.length) ks = .ok ks P.length ∧ (tk (P ++ [eT]) P.length).1 = 4 := by
  have hb : tk (P ++ [eT]) P.length = eT := tk_last P
  have hn : nlT (P ++ [eT]) P.length = false := by
    cases hq : nlT (P ++ [eT]) P.length with
    | false => rfl
    | true => have := (isT_iff.1 hq).symm.trans hb; cases this
  have e3 : lineP (P ++ [eT]) P.length = P.length := by
    unfold lineP
    cases hL : (P ++ [eT]).length with
    | zero => rfl
    | succ m => rw [lineF, hn]; rfl
  rw [e3]
  unfold goP
  rw [beg_four (by rw [hb]; rfl)]
  exact ⟨rfl, by rw [hb]; rfl⟩
/-- the tokens of texts, each with a line's end behind it -/
def flatN : List (List (Int × ByteArray)) → List (Int × ByteArray)
  | [] => [eT]
  | T :: r => T ++ (nT :: flatN r)
/-- the tokens of texts with a ; between them -/
def flatS : List (List (Int × ByteArray)) → List (Int × ByteArray)
  | [] => [eT]
  | [T] => T ++ [eT]
  | T :: U :: r => T ++ (sT :: flatS (U :: r))
inductive Ones : List (List (Int × ByteArray)) → List CmdT → Prop where
  | nil : Ones [] []
  | cons {T : List (Int × ByteArray)} {k : CmdT} {ts : List (List (Int × ByteArray))} {ks : List CmdT} : One T k → Ones ts ks → Ones (T :: ts) (k :: ks)
theorem goN {l : List (Int × ByteArray)} {ts : List (List (Int × ByteArray))} {ks : List CmdT} (h : Ones ts ks) : ∀ (P : List (Int × ByteArray)) (f : Nat) (acc : List CmdT), l = P ++ flatN ts → ts.length ≤ f →
    ∃ j, goP l (cmdF l (l.length + 1) 0) f (lineP l P.length) acc = .ok (acc ++ ks) j ∧ (tk l j).1 = 4 := by
  induction h with
  | nil =>
    intro P f acc hl _
    subst hl
    have := go_end P (cmdF (P ++ flatN []) ((P ++ flatN []).length + 1) 0) f acc
    exact ⟨P.length, by rw [List.append_nil]; exact this.1, this.2⟩
  | @cons T k ts ks h1 h2 ih =>
    intro P f acc hl hf
    obtain ⟨f, rfl⟩ : ∃ g, f = g + 1 := ⟨f - 1, by rw [List.length_cons] at hf; omega⟩
    have hg := h1.go P (flatN ts) nT (.inl rfl) (fun e => by cases e) f acc
    have hl' : l = (P ++ T ++ [nT]) ++ flatN ts := by rw [hl]; simp [flatN]
    have hlen : (P ++ T ++ [nT]).length = P.length + T.length + 1 := by simp; omega
    obtain ⟨j, j1, j2⟩ := ih (P ++ T ++ [nT]) f (acc ++ [k]) hl' (by rw [List.length_cons] at hf; omega)
    refine ⟨j, ?_, j2⟩
    have hl2 : l = P ++ (T ++ (nT :: flatN ts)) := hl
    rw [← hl2] at hg
    rw [hg, if_neg (by decide), ← hlen, j1, List.append_assoc]
    rfl
theorem goS {l : List (Int × ByteArray)} {ts : List (List (Int × ByteArray))} {ks : List CmdT} (h : Ones ts ks) : ∀ (P : List (Int × ByteArray)) (f : Nat) (acc : List CmdT), l = P ++ flatS ts → (∀ T ∈ ts, ¬ EndsSep T) → ts.length ≤ f →
    ∃ j, goP l (cmdF l (l.length + 1) 0) f (lineP l P.length) acc = .ok (acc ++ ks) j ∧ (tk l j).1 = 4 := by
  induction h with
  | nil =>
    intro P f acc hl _ _
    subst hl
    have := go_end P (cmdF (P ++ flatS []) ((P ++ flatS []).length + 1) 0) f acc
    exact ⟨P.length, by rw [List.append_nil]; exact this.1, this.2⟩
  | @cons T k ts ks h1 h2 ih =>
    intro P f acc hl hs hf
    obtain ⟨f, rfl⟩ : ∃ g, f = g + 1 := ⟨f - 1, by rw [List.length_cons] at hf; omega⟩
    cases h2 with
    | nil =>
      have hg := h1.go P [] eT (.inr (.inr rfl)) (fun e => by cases e) f acc
      have hl2 : l = P ++ (T ++ [eT]) := hl
      rw [← hl2] at hg
      refine ⟨P.length + T.length, ?_, ?_⟩
      · rw [hg, if_pos rfl]
      · rw [hl2, tk_behind]; rfl
    | @cons U k2 ts ks h3 h4 =>
      have hg := h1.go P (flatS (U :: ts)) sT (.inr (.inl rfl)) (fun _ => hs T (List.mem_cons_self ..)) f acc
      have hl' : l = (P ++ T ++ [sT]) ++ flatS (U :: ts) := by rw [hl]; simp [flatS]
      have hlen : (P ++ T ++ [sT]).length = P.length + T.length + 1 := by simp; omega
      obtain ⟨j, j1, j2⟩ := ih (P ++ T ++ [sT]) f (acc ++ [k]) hl' (fun T' hT => hs T' (List.mem_cons_of_mem _ hT)) (by rw [List.length_cons] at hf ⊢; rw [List.length_cons] at hf; omega)
      refine ⟨j, ?_, j2⟩
      have hl2 : l = P ++ (T ++ (sT :: flatS (U :: ts))) := hl
      rw [← hl2] at hg
      rw [hg, if_neg (by decide), ← hlen, j1, List.append_assoc]
      rfl
theorem flatN_len : ∀ ts, List.length ts ≤ (flatN ts).length
  | [] => by simp
  | T :: r => by have := flatN_len r; simp [flatN]; omega
theorem flatS_len : ∀ ts, List.length ts ≤ (flatS ts).length
  | [] => by simp
  | [T] => by simp [flatS]
  | T :: U :: r => by have := flatS_len (U :: r); simp [flatS] at this ⊢; omega
/-- GramList, in plain words -/
theorem listN {ts : List (List (Int × ByteArray))} {ks : List CmdT} (h : Ones ts ks) : ∃ j, scrP (flatN ts) = .ok (.mk 5 false [] [] [] ks [] []) j := by
  obtain ⟨j, j1, j2⟩ := goN (l := flatN ts) h [] ((flatN ts).length + 1) [] rfl (by have := flatN_len ts; omega)
  refine ⟨j, ?_⟩
  rw [scr_go]
  rw [show ([] : List (Int × ByteArray)).length = 0 from rfl] at j1
  rw [j1]
  show (if (tk (flatN ts) j).1 = 4 then _ else _) = _
  rw [if_pos j2]; rfl
theorem listS {ts : List (List (Int × ByteArray))} {ks : List CmdT} (h : Ones ts ks) (hs : ∀ T ∈ ts, ¬ EndsSep T) : ∃ j, scrP (flatS ts) = .ok (.mk 5 false [] [] [] ks [] []) j := by
  obtain ⟨j, j1, j2⟩ := goS (l := flatS ts) h [] ((flatS ts).length + 1) [] rfl hs (by have := flatS_len ts; omega)
  refine ⟨j, ?_⟩
  rw [scr_go]
  rw [show ([] : List (Int × ByteArray)).length = 0 from rfl] at j1
  rw [j1]
  show (if (tk (flatS ts) j).1 = 4 then _ else _) = _
  rw [if_pos j2]; rfl
end Go.Proofs.YtioddclglemlmaaGreatDoor

/- A list that parses is the body of each compound, in plain words; no condition. -/
namespace Go.Proofs.YtioddclglemlmaaGreatDoor
open Go

theorem Emb.toN {l1 l2 : List (Int × ByteArray)} {p n : Nat} (h : Emb l1 l2 p n) {i : Nat} (hi : i ≤ n) (hl : lineP l1 i = n) : lineP l2 (p + i) = lineP l2 (p + n) := by
  obtain ⟨k', k1, k2, k3, k4⟩ := h.first (n - i) i rfl hi
  have : lineP l1 i = k' := lineF_to k3 _ _ k1 (by rw [h.len]; omega) k4
  refine line_pass (by omega) (by have := h.len2; omega) (fun m a b => ?_)
  obtain ⟨t, rfl⟩ : ∃ t, m = p + t := ⟨m - p, by omega⟩
  unfold nlT
  rw [h.tt (by omega)]
  exact k4 t (by omega) (by omega)
/-- a list up to the end, where a line's end and no further command follow -/
theorem emb_all {l1 l2 : List (Int × ByteArray)} {p n : Nat} {sh : Prop} {C1 C2 : Nat → PR CmdT} (h : Emb l1 l2 p n) (hc : CSim l1 l2 sh p n C1 C2) (hb : tk l2 (p + n) = nT) (hq : begP l2 (lineP l2 (p + n + 1)) = false) :
    ∀ f1 f2 i ks ks', f1 ≤ f2 → i ≤ n → aosF l1 C1 f1 i ks = .ok ks' n → aosF l2 C2 f2 (p + i) ks = .ok ks' (lineP l2 (p + n + 1)) ∨ (sh ∧ aosF l2 C2 f2 (p + i) ks = .err 42) := by
  have sepb : sepP l2 (p + n) = some (lineP l2 (p + n + 1)) := by
    unfold sepP
    rw [if_pos]
    rw [Bool.or_eq_true_iff]
    exact .inr (isT_iff.2 hb)
  have hgo : ∀ f ks, goP l2 C2 f (lineP l2 (p + n + 1)) ks = .ok ks (lineP l2 (p + n + 1)) := by
    intro f ks; unfold goP; rw [hq]; rfl
  intro f1
  induction f1 with
  | zero => intro f2 i ks ks' _ _ e; cases e
  | succ f ih =>
    intro f2 i ks ks' hf hi e
    obtain ⟨g, rfl⟩ : ∃ g, f2 = g + 1 := ⟨f2 - 1, by omega⟩
    cases hs : sepP l1 i with
    | none =>
      rw [aosF, hs] at e
      cases e
      left
      rw [aos_go sepb]
      exact hgo _ _
    | some k =>
      obtain ⟨s1, s2, s3, s4⟩ := h.sep_lt hi hs
      rw [aos_go hs] at e
      rcases Nat.lt_or_ge k n with q | q
      · rw [aos_go ((h.sep s1).2 k hs q)]
        unfold goP at e ⊢
        rw [h.beg s4]
        by_cases b : begP l1 k = true
        · rw [if_pos b] at e ⊢
          cases ha : aoP l1 C1 k with
          | err m => rw [ha] at e; cases e
          | ok c j =>
            rw [ha] at e
            obtain ⟨a1, a2⟩ := h.aoP hc s4 c j ha
            rcases a2 with a2 | ⟨a3, a2⟩
            · rw [a2]; exact ih g j (ks ++ [c]) ks' (by omega) a1 e
            · rw [a2]; exact .inr ⟨a3, rfl⟩
        · rw [if_neg b] at e
          cases e; omega
      · obtain rfl : k = n := by omega
        unfold goP at e
        rw [h.begn, if_neg (by decide)] at e
        cases e
        left
        have e2 : lineP l2 (p + i + 1) = lineP l2 (p + k + 1) := by
          rw [show p + i + 1 = p + (i + 1) by omega, h.toN (i := i + 1) s1 s2.symm, line_one (isT_iff.2 hb)]
        have esep : sepP l2 (p + i) = some (lineP l2 (p + k + 1)) := by
          unfold sepP at hs ⊢
          have e1 : isO l2 (p + i) bSemi = isO l1 i bSemi := h.tt s1 2 bSemi
          have e3 : nlT l2 (p + i) = nlT l1 i := h.tt s1 3 _
          rw [e1, e3, e2]
          split at hs
          · rename_i hh; rw [if_pos hh]
          · cases hs
        rw [aos_go esep]
        exact hgo _ _
/-- what a list of commands is as one -/
def oneT (ks : List CmdT) : CmdT := match ks with
  | [k] => k
  | ks => .mk 5 false [] [] [] ks [] []
/-- the tokens T are the commands ks, one at least -/
def Some_ (T : List (Int × ByteArray)) (ks : List CmdT) : Prop := (∀ x ∈ T, x.1 ≠ 4) ∧ ks ≠ [] ∧ ∃ j, scrP (T ++ [eT]) = .ok (.mk 5 false [] [] [] ks [] []) j
theorem Some_.parts {T : List (Int × ByteArray)} {ks : List CmdT} (h : Some_ T ks) : (lineP (T ++ [eT]) 0 < T.length ∧ begP (T ++ [eT]) (lineP (T ++ [eT]) 0) = true) ∧ ∃ c j1, aoP (T ++ [eT]) (cmdF (T ++ [eT]) ((T ++ [eT]).length + 1) 0) (lineP (T ++ [eT]) 0) = .ok c j1 ∧
    aosF (T ++ [eT]) (cmdF (T ++ [eT]) ((T ++ [eT]).length + 1) 0) ((T ++ [eT]).length + 1) j1 [c] = .ok ks T.length := by
  obtain ⟨h4, hne, j, hj⟩ := h
  have E := emb_of [] T [] eT (.inr (.inr rfl))
  rw [scr_go] at hj
  unfold goP at hj
  obtain ⟨_, g2, _⟩ := E.line (Nat.zero_le T.length)
  by_cases b : begP (T ++ [eT]) (lineP (T ++ [eT]) 0) = true
  · rw [if_pos b] at hj
    have hl : lineP (T ++ [eT]) 0 < T.length := by
      rcases Nat.lt_or_ge (lineP (T ++ [eT]) 0) T.length with q | q
      · exact q
      · rw [show lineP (T ++ [eT]) 0 = T.length by omega, E.begn] at b; cases b
    refine ⟨⟨hl, b⟩, ?_⟩
    cases ha : aoP (T ++ [eT]) (cmdF (T ++ [eT]) ((T ++ [eT]).length + 1) 0) (lineP (T ++ [eT]) 0) with
    | err n => rw [ha] at hj; cases hj
    | ok c j1 =>
      rw [ha] at hj
      have hc := E.cmd (sh := False) ((T ++ [eT]).length + 1) (([] ++ (T ++ (eT :: []))).length + 1) 0 0 (by simp) (.inl rfl)
      have hj1 := (E.aoP hc (Nat.le_of_lt hl) c j1 ha).1
      have hj' : ((aosF (T ++ [eT]) (cmdF (T ++ [eT]) ((T ++ [eT]).length + 1) 0) ((T ++ [eT]).length + 1) j1 [c]).bind fun ks j => if (tk (T ++ [eT]) j).1 = 4 then PR.ok (CmdT.mk 5 false [] [] [] ks [] []) j else .err 31) = .ok (CmdT.mk 5 false [] [] [] ks [] []) j := hj
      refine ⟨c, j1, rfl, ?_⟩
      cases ha3 : aosF (T ++ [eT]) (cmdF (T ++ [eT]) ((T ++ [eT]).length + 1) 0) ((T ++ [eT]).length + 1) j1 [c] with
      | err n => rw [ha3] at hj'; cases hj'
      | ok ks2 j3 =>
        rw [ha3] at hj'
        have hj4 : (if (tk (T ++ [eT]) j3).1 = 4 then PR.ok (CmdT.mk 5 false [] [] [] ks2 [] []) j3 else .err 31) = .ok (CmdT.mk 5 false [] [] [] ks [] []) j := hj'
        have hj3 := ((E.aosF hc _ (([] ++ (T ++ (eT :: []))).length + 1) j1 [c] (by simp) hj1) ks2 j3 ha3).1
        split at hj4
        · rename_i e
          have hk : ks2 = ks := by cases hj4; rfl
          rw [hk]
          rcases Nat.lt_or_ge j3 T.length with q | q
          · exfalso
            unfold tk at e
            rw [List.getD_eq_getElem?_getD, List.getElem?_append_left q, List.getElem?_eq_getElem q] at e
            exact h4 _ (List.getElem_mem q) e
          · rw [show j3 = T.length by omega]
        · cases hj4
  · rw [if_neg b] at hj
    have hj2 : (if (tk (T ++ [eT]) (lineP (T ++ [eT]) 0)).1 = 4 then PR.ok (CmdT.mk 5 false [] [] [] [] [] []) (lineP (T ++ [eT]) 0) else .err 31) = .ok (CmdT.mk 5 false [] [] [] ks [] []) j := hj
    split at hj2
    · cases hj2; exact absurd rfl hne
    · cases hj2
/-- a list within a compound, d deep -/
theorem Some_.lis {T : List (Int × ByteArray)} {ks : List CmdT} (h : Some_ T ks) (P Q : List (Int × ByteArray)) (l : List (Int × ByteArray)) (hl : l = P ++ (T ++ (nT :: Q))) (f d : Nat) (hf : T.length + 2 ≤ f) (hq : begP l (lineP l (P.length + T.length + 1)) = false) (i : Nat) (hi : lineP l i = lineP l P.length) :
    lisP l (cmdF l f d) i = .ok (oneT ks) (lineP l (P.length + T.length + 1)) ∨ lisP l (cmdF l f d) i = .err 42 := by
  subst hl
  have E := emb_of P T Q nT (.inl rfl)
  obtain ⟨⟨p1, _⟩, c, j1, p2, p3⟩ := h.parts
  have hc := E.cmd (sh := True) ((T ++ [eT]).length + 1) f 0 d (by have := E.len; omega) (.inr ⟨trivial, Nat.zero_le d⟩)
  obtain ⟨_, _, g3⟩ := E.line (Nat.zero_le T.length)
  have e0 : lineP (P ++ (T ++ (nT :: Q))) P.length = P.length + lineP (T ++ [eT]) 0 := g3 p1
  have hb : tk (P ++ (T ++ (nT :: Q))) (P.length + T.length) = nT := tk_behind
  obtain ⟨a1, a2⟩ := E.aoP hc (Nat.le_of_lt p1) c j1 p2
  unfold lisP aosP
  rw [hi, e0]
  rcases a2 with a2 | ⟨_, a2⟩
  · rw [a2]
    have := emb_all E hc hb hq ((T ++ [eT]).length + 1) ((P ++ (T ++ (nT :: Q))).length + 1) j1 [c] ks (by have := E.len; have := E.len2; omega) a1 p3
    rcases this with e | ⟨_, e⟩
    · left
      show ((aosF _ _ _ (P.length + j1) [c]).bind _) = _
      rw [e]
      unfold oneT
      show (match ks with | [k] => PR.ok k _ | ks => PR.ok (.mk 5 false [] [] [] ks [] []) _) = _
      split <;> rfl
    · right
      show ((aosF _ _ _ (P.length + j1) [c]).bind _) = _
      rw [e]; rfl
  · right
    rw [a2]; rfl
end Go.Proofs.YtioddclglemlmaaGreatDoor

/- The six compounds around lists that parse, in plain words; no condition. -/
namespace Go.Proofs.YtioddclglemlmaaGreatDoor
open Go

theorem top_form {l : List (Int × ByteArray)} {x : Int × ByteArray} {c : CmdT} {j : Nat} {g : Nat → PR CmdT} (hx : tk l 0 = x) (hx3 : x.1 ≠ 3) (hxn : x ≠ (1, bNot)) (hb : begP l 0 = true) (hg : formP l (cmdF l l.length (0 + 1)) 0 = some g)
    (hr : g 1 = .ok c j ∨ g 1 = .err 42) (hy : tk l j = eT) : (∃ j, scrP l = .ok (.mk 5 false [] [] [] [c] [] []) j) ∨ scrP l = .err 42 := by
  have h2 := scr_of (j := j) hx hx3 hxn hb hy rfl
  have hc : cmdF l (l.length + 1) 0 0 = (g 1).bind fun c j => rdsF l (l.length + 1) j c := by
    rw [cmdF, hg]
    show (if 60 < 0 + 1 then PR.err 42 else _) = _
    rw [if_neg (by decide)]
  rcases hr with hr | hr
  · rw [hr] at hc
    have hc' : cmdF l (l.length + 1) 0 0 = rdsF l (l.length + 1) j c := hc
    rw [rds_stay (rdQ_no hy (.inr (.inr rfl)))] at hc'
    exact .inl ⟨j, h2.1 c hc'⟩
  · rw [hr] at hc
    exact .inr (h2.2 _ hc)
/-- a token behind a list's line's end -/
theorem lis_at {T : List (Int × ByteArray)} {ks : List CmdT} (h : Some_ T ks) (P Q : List (Int × ByteArray)) (x : Int × ByteArray) (l : List (Int × ByteArray)) (hl : l = P ++ (T ++ (nT :: x :: Q))) (hx3 : x.1 ≠ 3)
    (hxb : begP l (P.length + T.length + 1) = false) (f d : Nat) (hf : T.length + 2 ≤ f) : tk l (P.length + T.length + 1) = x ∧ (lisP l (cmdF l f d) P.length = .ok (oneT ks) (P.length + T.length + 1) ∨ lisP l (cmdF l f d) P.length = .err 42) := by
  have ht : tk l (P.length + T.length + 1) = x := by
    have e : l = (P ++ T ++ [nT]) ++ (x :: Q) := by rw [hl]; simp
    rw [e]
    unfold tk
    rw [List.getD_eq_getElem?_getD, List.getElem?_append_right (by simp; omega), show P.length + T.length + 1 - (P ++ T ++ [nT]).length = 0 by simp; omega]
    rfl
  have hs := line_stay ht hx3
  have := h.lis P (x :: Q) l hl f d hf (by rw [hs]; exact hxb) P.length rfl
  rw [hs] at this
  exact ⟨ht, this⟩
theorem mustO_at {l : List (Int × ByteArray)} {i : Nat} {t : ByteArray} (h : tk l i = (2, t)) : mustO l i t = .ok () (i + 1) := by unfold mustO; rw [show isO l i t = true from isT_eq h, if_pos rfl]
theorem mustW_at {l : List (Int × ByteArray)} {i : Nat} {t : ByteArray} (h : tk l i = (1, t)) : mustW l i t = .ok () (i + 1) := by unfold mustW; rw [show isW l i t = true from isT_eq h, if_pos rfl]
theorem tk_mid {l P Q : List (Int × ByteArray)} {x : Int × ByteArray} (h : l = P ++ (x :: Q)) {i : Nat} (hi : i = P.length) : tk l i = x := by
  subst hi; rw [h]; unfold tk
  rw [List.getD_eq_getElem?_getD, List.getElem?_append_right (Nat.le_refl _), Nat.sub_self]; rfl
section
variable {T U : List (Int × ByteArray)} {ks ms : List CmdT}
theorem around_sub (h : Some_ T ks) : (∃ j, scrP ((2, bOpen) :: (T ++ [nT, (2, bShut), eT])) = .ok (.mk 5 false [] [] [] [.mk 11 false [] [] [] [oneT ks] [] []] [] []) j) ∨ scrP ((2, bOpen) :: (T ++ [nT, (2, bShut), eT])) = .err 42 := by
  obtain ⟨l, hl⟩ : ∃ l, l = (2, bOpen) :: (T ++ [nT, (2, bShut), eT]) := ⟨_, rfl⟩
  rw [← hl]
  have h0 : tk l 0 = (2, bOpen) := tk_mid (P := []) hl rfl
  have hz : begP l (1 + T.length + 1) = false := by
    unfold begP
    rw [tk_mid (l := l) (P := (2, bOpen) :: (T ++ [nT])) (x := (2, bShut)) (Q := [eT]) (by rw [hl]; simp) (by simp; omega)]
    decide
  obtain ⟨ht, hh⟩ := lis_at h [(2, bOpen)] [eT] (2, bShut) l hl (by decide) hz l.length (0 + 1) (by rw [hl]; simp)
  have hend : tk l (1 + T.length + 1 + 1) = eT := tk_mid (P := (2, bOpen) :: (T ++ [nT, (2, bShut)])) (Q := []) (by rw [hl]; simp) (by simp; omega)
  refine top_form h0 (by decide) (by decide) (by unfold begP; rw [h0]; decide) (g := subP l (cmdF l l.length (0 + 1))) (by unfold formP; rw [show isO l 0 bOpen = true from isT_eq h0, if_pos rfl]) ?_ hend
  unfold subP
  rcases hh with e | e
  · left
    rw [show lisP l (cmdF l l.length (0 + 1)) 1 = _ from e]
    show ((mustO l _ bShut).bind _) = _
    rw [mustO_at ht]; rfl
  · right
    rw [show lisP l (cmdF l l.length (0 + 1)) 1 = _ from e]; rfl
theorem around_grp (h : Some_ T ks) : (∃ j, scrP ((1, bLB) :: (T ++ [nT, (1, bRB), eT])) = .ok (.mk 5 false [] [] [] [.mk 10 false [] [] [] [oneT ks] [] []] [] []) j) ∨ scrP ((1, bLB) :: (T ++ [nT, (1, bRB), eT])) = .err 42 := by
  obtain ⟨l, hl⟩ : ∃ l, l = (1, bLB) :: (T ++ [nT, (1, bRB), eT]) := ⟨_, rfl⟩
  rw [← hl]
  have h0 : tk l 0 = (1, bLB) := tk_mid (P := []) hl rfl
  have hz : begP l (1 + T.length + 1) = false := by
    unfold begP
    rw [tk_mid (l := l) (P := (1, bLB) :: (T ++ [nT])) (x := (1, bRB)) (Q := [eT]) (by rw [hl]; simp) (by simp; omega)]
    decide
  obtain ⟨ht, hh⟩ := lis_at h [(1, bLB)] [eT] (1, bRB) l hl (by decide) hz l.length (0 + 1) (by rw [hl]; simp)
  have hend : tk l (1 + T.length + 1 + 1) = eT := tk_mid (P := (1, bLB) :: (T ++ [nT, (1, bRB)])) (Q := []) (by rw [hl]; simp) (by simp; omega)
  refine top_form h0 (by decide) (by decide) (by unfold begP; rw [h0]; decide) (g := grpP l (cmdF l l.length (0 + 1))) (by unfold formP; rw [show isO l 0 bOpen = false from isT_ne h0 (by decide), if_neg (by decide), h0, if_pos rfl, if_pos rfl]) ?_ hend
  unfold grpP
  rcases hh with e | e
  · left
    rw [show lisP l (cmdF l l.length (0 + 1)) 1 = _ from e]
    show ((mustW l _ bRB).bind _) = _
    rw [mustW_at ht]; rfl
  · right
    rw [show lisP l (cmdF l l.length (0 + 1)) 1 = _ from e]; rfl
theorem around_if (h : Some_ T ks) (h' : Some_ U ms) : (∃ j, scrP ((1, bIf) :: (T ++ (nT :: (1, bThen) :: (U ++ [nT, (1, bFi), eT])))) = .ok (.mk 5 false [] [] [] [.mk 6 false [] [] [] [oneT ks, oneT ms] [] []] [] []) j) ∨ scrP ((1, bIf) :: (T ++ (nT :: (1, bThen) :: (U ++ [nT, (1, bFi), eT])))) = .err 42 := by
  obtain ⟨l, hl⟩ : ∃ l, l = (1, bIf) :: (T ++ (nT :: (1, bThen) :: (U ++ [nT, (1, bFi), eT]))) := ⟨_, rfl⟩
  rw [← hl]
  have h0 : tk l 0 = (1, bIf) := tk_mid (P := []) hl rfl
  have hz : begP l (1 + T.length + 1) = false := by
    unfold begP
    rw [tk_mid (l := l) (P := (1, bIf) :: (T ++ [nT])) (x := (1, bThen)) (Q := U ++ [nT, (1, bFi), eT]) (by rw [hl]; simp) (by simp; omega)]
    decide
  obtain ⟨ht, hh⟩ := lis_at h [(1, bIf)] (U ++ [nT, (1, bFi), eT]) (1, bThen) l hl (by decide) hz l.length (0 + 1) (by rw [hl]; simp <;> omega)
  have hz2 : begP l (1 + T.length + 1 + 1 + U.length + 1) = false := by
    unfold begP
    rw [tk_mid (l := l) (P := (1, bIf) :: (T ++ (nT :: (1, bThen) :: (U ++ [nT])))) (x := (1, bFi)) (Q := [eT]) (by rw [hl]; simp) (by simp; omega)]
    decide
  have hp2 : ((1, bIf) :: (T ++ [nT, (1, bThen)]) : List (Int × ByteArray)).length = 1 + T.length + 1 + 1 := by simp; omega
  obtain ⟨ht2, hh2⟩ := lis_at h' ((1, bIf) :: (T ++ [nT, (1, bThen)])) [eT] (1, bFi) l (by rw [hl]; simp) (by decide) (by rw [hp2]; exact hz2) l.length (0 + 1) (by rw [hl]; simp <;> omega)
  rw [hp2] at ht2 hh2
  have hend : tk l (1 + T.length + 1 + 1 + U.length + 1 + 1) = eT := tk_mid (P := (1, bIf) :: (T ++ (nT :: (1, bThen) :: (U ++ [nT, (1, bFi)])))) (Q := []) (by rw [hl]; simp) (by simp; omega)
  refine top_form h0 (by decide) (by decide) (by unfold begP; rw [h0]; decide) (g := braF l (cmdF l l.length (0 + 1)) (l.length + 1)) (by unfold formP; rw [show isO l 0 bOpen = false from isT_ne h0 (by decide), if_neg (by decide), h0, if_pos rfl, if_neg (by decide), if_pos rfl]) ?_ hend
  rw [braF]
  rcases hh with e | e
  · rw [show lisP l (cmdF l l.length (0 + 1)) 1 = _ from e]
    show ((mustW l _ bThen).bind _) = _ ∨ ((mustW l _ bThen).bind _) = _
    rw [mustW_at ht]
    rcases hh2 with e2 | e2
    · left
      show ((lisP l _ (1 + T.length + 1 + 1)).bind _) = _
      rw [e2]
      show (if isW l (1 + T.length + 1 + 1 + U.length + 1) bElif = true then _ else _) = _
      rw [show isW l (1 + T.length + 1 + 1 + U.length + 1) bElif = false from isT_ne ht2 (by decide), show isW l (1 + T.length + 1 + 1 + U.length + 1) bElse = false from isT_ne ht2 (by decide), if_neg (by decide), if_neg (by decide), mustW_at ht2]
      rfl
    · right
      show ((lisP l _ (1 + T.length + 1 + 1)).bind _) = _
      rw [e2]; rfl
  · right
    rw [show lisP l (cmdF l l.length (0 + 1)) 1 = _ from e]; rfl
theorem around_while (h : Some_ T ks) (h' : Some_ U ms) : (∃ j, scrP ((1, bWhile) :: (T ++ (nT :: (1, bDo) :: (U ++ [nT, (1, bDone), eT])))) = .ok (.mk 5 false [] [] [] [.mk 7 false [] [] [] [oneT ks, oneT ms] [] []] [] []) j) ∨ scrP ((1, bWhile) :: (T ++ (nT :: (1, bDo) :: (U ++ [nT, (1, bDone), eT])))) = .err 42 := by
  obtain ⟨l, hl⟩ : ∃ l, l = (1, bWhile) :: (T ++ (nT :: (1, bDo) :: (U ++ [nT, (1, bDone), eT]))) := ⟨_, rfl⟩
  rw [← hl]
  have h0 : tk l 0 = (1, bWhile) := tk_mid (P := []) hl rfl
  have hz : begP l (1 + T.length + 1) = false := by
    unfold begP
    rw [tk_mid (l := l) (P := (1, bWhile) :: (T ++ [nT])) (x := (1, bDo)) (Q := U ++ [nT, (1, bDone), eT]) (by rw [hl]; simp) (by simp; omega)]
    decide
  obtain ⟨ht, hh⟩ := lis_at h [(1, bWhile)] (U ++ [nT, (1, bDone), eT]) (1, bDo) l hl (by decide) hz l.length (0 + 1) (by rw [hl]; simp <;> omega)
  have hz2 : begP l (1 + T.length + 1 + 1 + U.length + 1) = false := by
    unfold begP
    rw [tk_mid (l := l) (P := (1, bWhile) :: (T ++ (nT :: (1, bDo) :: (U ++ [nT])))) (x := (1, bDone)) (Q := [eT]) (by rw [hl]; simp) (by simp; omega)]
    decide
  have hp2 : ((1, bWhile) :: (T ++ [nT, (1, bDo)]) : List (Int × ByteArray)).length = 1 + T.length + 1 + 1 := by simp; omega
  obtain ⟨ht2, hh2⟩ := lis_at h' ((1, bWhile) :: (T ++ [nT, (1, bDo)])) [eT] (1, bDone) l (by rw [hl]; simp) (by decide) (by rw [hp2]; exact hz2) l.length (0 + 1) (by rw [hl]; simp <;> omega)
  rw [hp2] at ht2 hh2
  have hend : tk l (1 + T.length + 1 + 1 + U.length + 1 + 1) = eT := tk_mid (P := (1, bWhile) :: (T ++ (nT :: (1, bDo) :: (U ++ [nT, (1, bDone)])))) (Q := []) (by rw [hl]; simp) (by simp; omega)
  refine top_form h0 (by decide) (by decide) (by unfold begP; rw [h0]; decide) (g := looP l (cmdF l l.length (0 + 1)) false) (by unfold formP; rw [show isO l 0 bOpen = false from isT_ne h0 (by decide), if_neg (by decide), h0, if_pos rfl, if_neg (by decide), if_neg (by decide), if_pos rfl]) ?_ hend
  unfold looP
  rcases hh with e | e
  · rw [show lisP l (cmdF l l.length (0 + 1)) 1 = _ from e]
    show ((mustW l _ bDo).bind _) = _ ∨ ((mustW l _ bDo).bind _) = _
    rw [mustW_at ht]
    rcases hh2 with e2 | e2
    · left
      show ((lisP l _ (1 + T.length + 1 + 1)).bind _) = _
      rw [e2]
      show ((mustW l _ bDone).bind _) = _
      rw [mustW_at ht2]
      rfl
    · right
      show ((lisP l _ (1 + T.length + 1 + 1)).bind _) = _
      rw [e2]; rfl
  · right
    rw [show lisP l (cmdF l l.length (0 + 1)) 1 = _ from e]; rfl
def bI : ByteArray := ⟨#[105]⟩
def b1 : ByteArray := ⟨#[49]⟩
def b2 : ByteArray := ⟨#[50]⟩
def bWw : ByteArray := ⟨#[119]⟩
def bPp : ByteArray := ⟨#[112]⟩
def headFor : List (Int × ByteArray) := [(1, bFor), (1, bI), (1, bIn), (1, b1), (1, b2), (2, bSemi), (1, bDo)]
def headCase : List (Int × ByteArray) := [(1, bCase), (1, bWw), (1, bIn), (1, bPp), (2, bShut)]
theorem around_for (h : Some_ T ks) : (∃ j, scrP (headFor ++ (T ++ [nT, (1, bDone), eT])) = .ok (.mk 5 false [] [] [] [.mk 8 false [] [bI, b1, b2] [] [oneT ks] [] []] [] []) j) ∨ scrP (headFor ++ (T ++ [nT, (1, bDone), eT])) = .err 42 := by
  obtain ⟨l, hl⟩ : ∃ l, l = headFor ++ (T ++ [nT, (1, bDone), eT]) := ⟨_, rfl⟩
  rw [← hl]
  have t0 : tk l 0 = (1, bFor) := by rw [hl]; rfl
  have t1 : tk l 1 = (1, bI) := by rw [hl]; rfl
  have t2 : tk l 2 = (1, bIn) := by rw [hl]; rfl
  have t3 : tk l 3 = (1, b1) := by rw [hl]; rfl
  have t4 : tk l 4 = (1, b2) := by rw [hl]; rfl
  have t5 : tk l 5 = (2, bSemi) := by rw [hl]; rfl
  have t6 : tk l 6 = (1, bDo) := by rw [hl]; rfl
  have hz : begP l (7 + T.length + 1) = false := by
    unfold begP
    rw [tk_mid (l := l) (P := headFor ++ (T ++ [nT])) (x := (1, bDone)) (Q := [eT]) (by rw [hl]; simp) (by simp [headFor]; omega)]
    decide
  obtain ⟨ht, hh⟩ := lis_at h headFor [eT] (1, bDone) l hl (by decide) hz l.length (0 + 1) (by rw [hl]; simp [headFor] <;> omega)
  have hend : tk l (7 + T.length + 1 + 1) = eT := tk_mid (P := headFor ++ (T ++ [nT, (1, bDone)])) (Q := []) (by rw [hl]; simp) (by simp [headFor]; omega)
  refine top_form t0 (by decide) (by decide) (by unfold begP; rw [t0]; decide) (g := eacP l (cmdF l l.length (0 + 1))) (by unfold formP; rw [show isO l 0 bOpen = false from isT_ne t0 (by decide), if_neg (by decide), t0, if_pos rfl, if_neg (by decide), if_neg (by decide), if_neg (by decide), if_neg (by decide), if_pos rfl]) ?_ hend
  have e1 : textP l 1 = .ok bI 2 := by unfold textP; rw [t1, if_pos rfl]
  have hL : ∃ m, l.length = m + 2 := ⟨l.length - 2, by rw [hl]; simp [headFor] <;> omega⟩
  obtain ⟨m, hm⟩ := hL
  have e2 : wdsF l (l.length + 1) 3 [bI] = ([bI, b1, b2], 5) := by
    rw [hm, wdsF, t3, if_pos rfl, wdsF, t4, if_pos rfl, wdsF, t5, if_neg (by decide)]; rfl
  have e3 : sepP l 5 = some 6 := by
    unfold sepP
    rw [show isO l 5 bSemi = true from isT_eq t5, line_stay t6 (by decide)]; rfl
  have hg : eacP l (cmdF l l.length (0 + 1)) 1 = eacB l (cmdF l l.length (0 + 1)) [bI, b1, b2] 6 := by
    unfold eacP
    rw [e1]
    show (if namedB bI = true then _ else PR.err 31) = _
    rw [if_pos (by decide), line_stay t2 (by decide), show isW l 2 bIn = true from isT_eq t2, if_pos rfl, e2]
    show (match sepP l 5 with | none => PR.err 31 | some k => eacB l _ [bI, b1, b2] k) = _
    rw [e3]
  rw [hg]
  unfold eacB
  rw [mustW_at t6]
  show ((lisP l _ 7).bind _) = _ ∨ ((lisP l _ 7).bind _) = _
  rcases hh with e | e
  · left
    rw [show lisP l (cmdF l l.length (0 + 1)) 7 = _ from e]
    show ((mustW l _ bDone).bind _) = _
    rw [mustW_at (show tk l (headFor.length + T.length + 1) = _ from ht)]; rfl
  · right
    rw [show lisP l (cmdF l l.length (0 + 1)) 7 = _ from e]; rfl
theorem lineF_nl (l : List (Int × ByteArray)) : ∀ f i, l.length ≤ f + i → nlT l (lineF l f i) = false := by
  intro f
  induction f with
  | zero =>
    intro i h
    rw [lineF]
    unfold nlT isT tk
    rw [List.getD_eq_getElem?_getD, List.getElem?_eq_none (by omega)]
    decide
  | succ f ih =>
    intro i h
    rw [lineF]
    cases hc : nlT l i with
    | false => exact hc
    | true => rw [if_pos rfl]; exact ih (i + 1) (by omega)
theorem line_idem (l : List (Int × ByteArray)) (i : Nat) : lineP l (lineP l i) = lineP l i := by
  have h := lineF_nl l l.length i (by omega)
  show lineF l l.length (lineP l i) = lineP l i
  cases hL : l.length with
  | zero => rfl
  | succ n => rw [lineF, show nlT l (lineP l i) = false from h]; rfl
theorem around_case (h : Some_ T ks) : (∃ j, scrP (headCase ++ (T ++ [nT, (2, bDD), (1, bEsac), eT])) = .ok (.mk 5 false [] [] [] [.mk 9 false [] [bWw] [] [] [[bPp]] [oneT ks]] [] []) j) ∨ scrP (headCase ++ (T ++ [nT, (2, bDD), (1, bEsac), eT])) = .err 42 := by
  obtain ⟨l, hl⟩ : ∃ l, l = headCase ++ (T ++ [nT, (2, bDD), (1, bEsac), eT]) := ⟨_, rfl⟩
  rw [← hl]
  have t0 : tk l 0 = (1, bCase) := by rw [hl]; rfl
  have t1 : tk l 1 = (1, bWw) := by rw [hl]; rfl
  have t2 : tk l 2 = (1, bIn) := by rw [hl]; rfl
  have t3 : tk l 3 = (1, bPp) := by rw [hl]; rfl
  have t4 : tk l 4 = (2, bShut) := by rw [hl]; rfl
  have t7 : tk l (5 + T.length + 1) = (2, bDD) := tk_mid (P := headCase ++ (T ++ [nT])) (Q := [(1, bEsac), eT]) (by rw [hl]; simp) (by simp [headCase]; omega)
  have t8 : tk l (5 + T.length + 1 + 1) = (1, bEsac) := tk_mid (P := headCase ++ (T ++ [nT, (2, bDD)])) (Q := [eT]) (by rw [hl]; simp) (by simp [headCase]; omega)
  have hend : tk l (5 + T.length + 1 + 1 + 1) = eT := tk_mid (P := headCase ++ (T ++ [nT, (2, bDD), (1, bEsac)])) (Q := []) (by rw [hl]; simp) (by simp [headCase]; omega)
  have hz : begP l (lineP l (5 + T.length + 1)) = false := by
    rw [line_stay t7 (by decide)]; unfold begP; rw [t7]; decide
  have hh := h.lis headCase [(2, bDD), (1, bEsac), eT] l hl l.length (0 + 1) (by rw [hl]; simp [headCase] <;> omega) hz (lineP l 5) (line_idem l 5)
  have hh' : lisP l (cmdF l l.length (0 + 1)) (lineP l 5) = .ok (oneT ks) (5 + T.length + 1) ∨ lisP l (cmdF l l.length (0 + 1)) (lineP l 5) = .err 42 := by
    rcases hh with e | e
    · left; rw [e]; show PR.ok (oneT ks) (lineP l (5 + T.length + 1)) = _; rw [line_stay t7 (by decide)]
    · exact .inr e
  have hbeg : begP l (lineP l 5) = true := by
    have E := emb_of headCase T [(2, bDD), (1, bEsac), eT] nT (.inl rfl)
    obtain ⟨⟨p1, p2⟩, _⟩ := h.parts
    have e0 := (E.line (Nat.zero_le T.length)).2.2 p1
    rw [← hl] at e0 E
    have e0' : lineP l 5 = 5 + lineP (T ++ [eT]) 0 := e0
    rw [e0', show begP l (5 + lineP (T ++ [eT]) 0) = _ from E.beg (Nat.le_of_lt p1)]
    exact p2
  refine top_form t0 (by decide) (by decide) (by unfold begP; rw [t0]; decide) (g := choP l (cmdF l l.length (0 + 1))) (by unfold formP; rw [show isO l 0 bOpen = false from isT_ne t0 (by decide), if_neg (by decide), t0, if_pos rfl, if_neg (by decide), if_neg (by decide), if_neg (by decide), if_neg (by decide), if_neg (by decide), if_pos rfl]) ?_ hend
  have e1 : textP l 1 = .ok bWw 2 := by unfold textP; rw [t1, if_pos rfl]
  have e3 : textP l 3 = .ok bPp 4 := by unfold textP; rw [t3, if_pos rfl]
  have harm : armP l (cmdF l l.length (0 + 1)) 3 = .ok ([bPp], oneT ks, true) (5 + T.length + 1 + 1) ∨ armP l (cmdF l l.length (0 + 1)) 3 = .err 42 := by
    unfold armP
    rw [show isO l 3 bOpen = false from isT_ne t3 (by decide), if_neg (by decide), e3]
    show ((patF l (l.length + 1) 4 [bPp]).bind _) = _ ∨ ((patF l (l.length + 1) 4 [bPp]).bind _) = _
    rw [patF, show isO l 4 bPipe = false from isT_ne t4 (by decide), if_neg (by decide)]
    show ((mustO l 4 bShut).bind _) = _ ∨ ((mustO l 4 bShut).bind _) = _
    rw [mustO_at t4]
    show ((if begP l (lineP l 5) = true then lisP l _ (lineP l 5) else PR.ok (CmdT.leaf 5) (lineP l 5)).bind _) = _ ∨ ((if begP l (lineP l 5) = true then lisP l _ (lineP l 5) else PR.ok (CmdT.leaf 5) (lineP l 5)).bind _) = _
    rw [if_pos hbeg]
    rcases hh' with e | e
    · left
      rw [e]
      show (if isO l (5 + T.length + 1) bDD = true then _ else _) = _
      rw [show isO l (5 + T.length + 1) bDD = true from isT_eq t7, if_pos rfl, line_stay t8 (by decide)]
    · right
      rw [e]; rfl
  have hL : ∃ m, l.length = m + 2 := ⟨l.length - 2, by rw [hl]; simp [headCase] <;> omega⟩
  obtain ⟨m, hm⟩ := hL
  unfold choP
  rw [e1]
  show ((mustW l (lineP l 2) bIn).bind _) = _ ∨ ((mustW l (lineP l 2) bIn).bind _) = _
  rw [line_stay t2 (by decide), mustW_at t2]
  show ((armF l _ (l.length + 1) (lineP l 3) [] []).bind _) = _ ∨ ((armF l _ (l.length + 1) (lineP l 3) [] []).bind _) = _
  rw [line_stay t3 (by decide), armF, show isW l 3 bEsac = false from isT_ne t3 (by decide), if_neg (by decide)]
  rcases harm with e | e
  · left
    rw [e]
    show ((if true = true then armF l _ l.length (5 + T.length + 1 + 1) ([] ++ [[bPp]]) ([] ++ [oneT ks]) else PR.ok ([] ++ [[bPp]], [] ++ [oneT ks]) (5 + T.length + 1 + 1)).bind _) = _
    rw [if_pos rfl]
    have ha : armF l (cmdF l l.length (0 + 1)) l.length (5 + T.length + 1 + 1) ([] ++ [[bPp]]) ([] ++ [oneT ks]) = .ok ([[bPp]], [oneT ks]) (5 + T.length + 1 + 1) := by
      have : ∃ q, l.length = q + 1 := ⟨m + 1, hm⟩
      obtain ⟨q, hq⟩ := this
      generalize cmdF l l.length (0 + 1) = C
      rw [hq, armF, show isW l (5 + T.length + 1 + 1) bEsac = true from isT_eq t8, if_pos rfl]; rfl
    rw [ha]
    show ((mustW l (5 + T.length + 1 + 1) bEsac).bind _) = _
    rw [mustW_at t8]; rfl
  · right
    rw [e]; rfl
end
end Go.Proofs.YtioddclglemlmaaGreatDoor
