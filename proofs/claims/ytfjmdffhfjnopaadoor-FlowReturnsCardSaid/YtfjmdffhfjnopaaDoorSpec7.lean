/- Heights of a section (chapter 7): what the document says, in plain Lean. -/
import Derived.Test.YtfjmdffhfjnopaaDoorCodeQ
import Derived.Test.YtfjmdffhfjnopaaDoorCodeN
import Derived.Test.YtfjmdffhfjnopaaDoorRNeeds
namespace Vouch
open Go.Proofs.YtfjmdffhfjnopaaDoor
/-- A section's type. -/
structure Ty where
  inn : Int
  out : Int
  most : Int
deriving DecidableEq
def zeroT : Ty := ⟨0, 0, 0⟩
/-- All instructions that can be read from a place on. -/
def allGo (bs : List Int) : Nat → Int → List Ins
  | 0, _ => []
  | n + 1, p => if (readE bs p).1 = 0 then (readE bs p).2 :: allGo bs n (readE bs p).2.next else []
def allI (bs : List Int) : List Ins := allGo bs (bs.length + 1) 0
def tyAt (ts : List Ty) (n : Int) : Ty := ts.getD n.toNat zeroT
/-- What an instruction takes and leaves. -/
def turnsI (ts : List Ty) (own : Ty) (i : Ins) : Int × Int :=
  if i.code = 227 then ((tyAt ts (namedN i)).inn, (tyAt ts (namedN i)).out)
  else if i.code = 229 then ((tyAt ts (namedN i)).inn, 0)
  else if i.code = 228 then (own.out, 0)
  else ((needsOf i.code i.imm).1, (needsOf i.code i.imm).2.1)
/-- What is broken at an instruction with these heights. -/
def wrongI (ts : List Ty) (own : Ty) (i : Ins) (h : Int × Int) : Int :=
  if i.code = 228 then (if h.1 = own.out ∧ h.2 = own.out then 0 else 74)
  else if h.1 < (turnsI ts own i).1 then 70
  else if (i.code = 227 ∨ i.code = 229) ∧ 1024 < h.2 - (turnsI ts own i).1 + (tyAt ts (namedN i)).most then 71
  else if i.code = 229 then (if (tyAt ts (namedN i)).out ≠ 128 ∧ ¬ (h.1 = own.out - (tyAt ts (namedN i)).out + (tyAt ts (namedN i)).inn ∧ h.2 = own.out - (tyAt ts (namedN i)).out + (tyAt ts (namedN i)).inn) then 74 else 0)
  else if 1023 < h.2 - (turnsI ts own i).1 + (turnsI ts own i).2 then 71 else 0
/-- What CALLF, JUMPF and RETF need of the types. -/
def namedOK (ts : List Ty) (own : Ty) (i : Ins) : Bool :=
  if i.code = 228 then decide (own.out ≠ 128)
  else if i.code = 227 then decide (namedN i < ts.length) && decide ((tyAt ts (namedN i)).out ≠ 128)
  else if i.code = 229 then decide (namedN i < ts.length) && (decide ((tyAt ts (namedN i)).out = 128) || (decide (own.out ≠ 128) && decide ((tyAt ts (namedN i)).out ≤ own.out)))
  else true
def tyOK (t : Ty) : Bool := decide (0 ≤ t.inn) && decide (t.inn ≤ 127) && decide (0 ≤ t.out) && decide (t.out ≤ 128) && decide (0 ≤ t.most) && decide (t.most ≤ 1023)
/-- May types, section and code be? -/
def mayB (ts : List Ty) (s : Int) (bs : List Int) : Bool :=
  decide (0 ≤ s) && decide (s < ts.length) && ts.all tyOK && decide ((checkE bs (allI bs)).1 = 0) && (allI bs).all (namedOK ts (tyAt ts s))
/-- The number of the instruction at a place. -/
def idxI (l : List Ins) (t : Int) : Nat := l.findIdx fun i => i.at_ == t
/-- Heights behind an instruction. -/
def goH (ts : List Ty) (own : Ty) (i : Ins) (h : Int × Int) : Int × Int := (h.1 - (turnsI ts own i).1 + (turnsI ts own i).2, h.2 - (turnsI ts own i).1 + (turnsI ts own i).2)
/-- Where an instruction's ways lead. -/
def toN (l : List Ins) (n : Nat) : List Nat := (if (opR (l.getD n zeroI).code).ends then [] else [n + 1]) ++ (leadsI (l.getD n zeroI)).map (idxI l)
/-- What comes to an instruction by these ways of one that stands ahead. -/
def pas (g : Int × Int) (n m : Nat) (js : List Nat) : List (Int × Int) := (js.filter fun t => t == m && decide (n < t)).map fun _ => g
/-- What comes to an instruction from the first n ones. -/
def comesN (ts : List Ty) (own : Ty) (l : List Ins) (hs : List (Int × Int)) (n m : Nat) : List (Int × Int) :=
  (List.range n).flatMap fun k => pas (goH ts own (l.getD k zeroI) (hs.getD k (0, 0))) k m (toN l k)
def joinF (a b : Int × Int) : Int × Int := (min a.1 b.1, max a.2 b.2)
def joinH : List (Int × Int) → Option (Int × Int)
  | [] => none
  | h :: r => some (r.foldl joinF h)
def headH (ts : List Ty) (own : Ty) (l : List Ins) (hs : List (Int × Int)) (n : Nat) : Option (Int × Int) := if n = 0 then some (own.inn, own.inn) else joinH (comesN ts own l hs n n)
/-- Is what leads back just what stands there? -/
def backOK (ts : List Ty) (own : Ty) (l : List Ins) (hs : List (Int × Int)) (n : Nat) : Bool :=
  (toN l n).all fun t => decide (n < t) || (hs.getD t (0, 0) == goH ts own (l.getD n zeroI) (hs.getD n (0, 0)))
def runH (ts : List Ty) (own : Ty) (l : List Ins) : Nat → List (Int × Int) → List (Int × Int) × Int × Int
  | 0, hs => (hs, 0, 0)
  | f + 1, hs =>
    match headH ts own l hs hs.length with
    | none => ([], 73, (l.getD hs.length zeroI).at_)
    | some h =>
      if wrongI ts own (l.getD hs.length zeroI) h ≠ 0 then ([], wrongI ts own (l.getD hs.length zeroI) h, (l.getD hs.length zeroI).at_)
      else if backOK ts own l (hs ++ [h]) hs.length = true then runH ts own l f (hs ++ [h])
      else ([], 72, (l.getD hs.length zeroI).at_)
/-- Heights: for each instruction, or what is wrong, and where. -/
def heightsE (ts : List Ty) (s : Int) (bs : List Int) : List (Int × Int) × Int × Int :=
  if mayB ts s bs = true then runH ts (tyAt ts s) (allI bs) (allI bs).length [] else ([], 1, 0)
theorem runH_dead {ts : List Ty} {own : Ty} {l : List Ins} {hs : List (Int × Int)} {f : Nat} (h : headH ts own l hs hs.length = none) : runH ts own l (f + 1) hs = ([], 73, (l.getD hs.length zeroI).at_) := by
  simp only [runH, h]
theorem runH_wrong {ts : List Ty} {own : Ty} {l : List Ins} {hs : List (Int × Int)} {f : Nat} {h : Int × Int} (hh : headH ts own l hs hs.length = some h) (hw : wrongI ts own (l.getD hs.length zeroI) h ≠ 0) :
    runH ts own l (f + 1) hs = ([], wrongI ts own (l.getD hs.length zeroI) h, (l.getD hs.length zeroI).at_) := by
  simp only [runH, hh, if_pos hw]
theorem runH_loop {ts : List Ty} {own : Ty} {l : List Ins} {hs : List (Int × Int)} {f : Nat} {h : Int × Int} (hh : headH ts own l hs hs.length = some h) (hw : wrongI ts own (l.getD hs.length zeroI) h = 0)
    (hb : backOK ts own l (hs ++ [h]) hs.length = false) : runH ts own l (f + 1) hs = ([], 72, (l.getD hs.length zeroI).at_) := by
  simp only [runH, hh, hw, hb, ne_eq, not_true_eq_false, if_false, Bool.false_eq_true]
theorem runH_step {ts : List Ty} {own : Ty} {l : List Ins} {hs : List (Int × Int)} {f : Nat} {h : Int × Int} (hh : headH ts own l hs hs.length = some h) (hw : wrongI ts own (l.getD hs.length zeroI) h = 0)
    (hb : backOK ts own l (hs ++ [h]) hs.length = true) : runH ts own l (f + 1) hs = runH ts own l f (hs ++ [h]) := by
  simp only [runH, hh, hw, hb, ne_eq, not_true_eq_false, if_false, if_true]
/-- The instructions are those that a reading to the end gives. -/
theorem reads_allGo {bs : List Int} {l : List Ins} {p : Int} (h : Reads bs l p) : ∀ n, bs.length < n + l.length → ∃ q, Reads bs (l ++ allGo bs n p) q ∧ (readE bs q).1 ≠ 0 := by
  intro n
  induction n generalizing l p with
  | zero =>
    intro hn
    have := reads_length h
    omega
  | succ n ih =>
    intro hn
    unfold allGo
    by_cases h0 : (readE bs p).1 = 0
    · rw [if_pos h0]
      have hs := Reads.snoc h (show readE bs p = (0, (readE bs p).2) from by rw [← h0])
      obtain ⟨q, h1, h2⟩ := ih hs (by simp; omega)
      exact ⟨q, by simpa using h1, h2⟩
    · rw [if_neg h0]
      exact ⟨p, by simpa using h, h0⟩
theorem allI_reads (bs : List Int) : ∃ q, Reads bs (allI bs) q ∧ (readE bs q).1 ≠ 0 := by
  have := reads_allGo (bs := bs) Reads.nil (bs.length + 1) (by simp)
  simpa [allI] using this
theorem allOf_allI {bs : List Int} {xs : List El} (h : AllOf bs xs) : xs.map Prod.fst = allI bs := by
  obtain ⟨p, h1, h2⟩ := h
  obtain ⟨q, h3, h4⟩ := allI_reads bs
  exact (reads_all h3 h4 h1 h2).1
end Vouch
