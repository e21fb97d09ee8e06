/- Heights, plain: what they hang on; a NOP ahead of all; a straight line of PUSH0 and POP. -/
import Derived.Test.YtfjmdffhfjnopaaDoorFlowQ
import Derived.Test.YtfjmdffhfjnopaaDoorFlowD
namespace Vouch
open Go.Proofs.YtfjmdffhfjnopaaDoor
theorem turnsI_same {ts ts' : List Ty} {own own' : Ty} {i : Ins} (ho : own'.out = own.out) (h : (i.code = 227 ∨ i.code = 229) → tyAt ts' (namedN i) = tyAt ts (namedN i)) : turnsI ts' own' i = turnsI ts own i := by
  unfold turnsI
  by_cases e1 : i.code = 227
  · rw [if_pos e1, if_pos e1, h (.inl e1)]
  · rw [if_neg e1, if_neg e1]
    by_cases e2 : i.code = 229
    · rw [if_pos e2, if_pos e2, h (.inr e2)]
    · rw [if_neg e2, if_neg e2, ho]
theorem wrongI_same {ts ts' : List Ty} {own own' : Ty} {i : Ins} {g : Int × Int} (ho : own'.out = own.out) (h : (i.code = 227 ∨ i.code = 229) → tyAt ts' (namedN i) = tyAt ts (namedN i)) : wrongI ts' own' i g = wrongI ts own i g := by
  unfold wrongI
  rw [turnsI_same ho h, ho]
  by_cases e : i.code = 227 ∨ i.code = 229
  · rw [h e]
  · have e1 : ¬ i.code = 227 := fun x => e (.inl x)
    have e2 : ¬ i.code = 229 := fun x => e (.inr x)
    simp only [false_and, if_false, e1, e2, or_self]
theorem namedOK_same {ts ts' : List Ty} {own own' : Ty} {i : Ins} (hl : ts'.length = ts.length) (ho : own'.out = own.out) (h : (i.code = 227 ∨ i.code = 229) → tyAt ts' (namedN i) = tyAt ts (namedN i)) : namedOK ts' own' i = namedOK ts own i := by
  unfold namedOK
  rw [ho, hl]
  by_cases e : i.code = 227 ∨ i.code = 229
  · rw [h e]
  · have e1 : ¬ i.code = 227 := fun x => e (.inl x)
    have e2 : ¬ i.code = 229 := fun x => e (.inr x)
    simp only [if_false, e1, e2]
theorem runH_same {ts ts' : List Ty} {own own' : Ty} {l : List Ins} (hi : own'.inn = own.inn) (ht : ∀ n, turnsI ts' own' (l.getD n zeroI) = turnsI ts own (l.getD n zeroI)) (hw : ∀ n g, wrongI ts' own' (l.getD n zeroI) g = wrongI ts own (l.getD n zeroI) g) : ∀ f hs, runH ts' own' l f hs = runH ts own l f hs := by
  have hg : ∀ n g, goH ts' own' (l.getD n zeroI) g = goH ts own (l.getD n zeroI) g := fun n g => by unfold goH; rw [ht]
  have hh : ∀ hs n, headH ts' own' l hs n = headH ts own l hs n := fun hs n => by unfold headH comesN; simp only [hg, hi]
  have hb : ∀ hs n, backOK ts' own' l hs n = backOK ts own l hs n := fun hs n => by unfold backOK; simp only [hg]
  intro f
  induction f with
  | zero => intro hs; rfl
  | succ f ih => intro hs; unfold runH; simp only [hh, hw, hb, ih]
theorem getD_all {α : Type} {P : α → Prop} {l : List α} {z : α} (hz : P z) (h : ∀ x ∈ l, P x) (n : Nat) : P (l.getD n z) := by
  rw [List.getD_eq_getElem?_getD]
  cases hn : l[n]? with
  | none => exact hz
  | some x => exact h x (List.mem_of_getElem? hn)
theorem may_mk {ts : List Ty} {s : Int} {bs : List Int} (h1 : 0 ≤ s) (h2 : s < ts.length) (h3 : ∀ t ∈ ts, tyOK t = true) (h4 : (checkE bs (allI bs)).1 = 0) (h5 : ∀ i ∈ allI bs, namedOK ts (tyAt ts s) i = true) : mayB ts s bs = true := by
  unfold mayB
  simp only [Bool.and_eq_true, decide_eq_true_eq, List.all_eq_true]
  exact ⟨⟨⟨⟨h1, h2⟩, h3⟩, h4⟩, h5⟩
/-- The types of the sections that are not named have nothing to do with it. -/
theorem heightsE_same {ts ts' : List Ty} {s : Int} {bs : List Int} (hm : mayB ts s bs = true) (hl : ts'.length = ts.length) (hok : ∀ t ∈ ts', tyOK t = true) (hi : (tyAt ts' s).inn = (tyAt ts s).inn) (ho : (tyAt ts' s).out = (tyAt ts s).out)
    (hn : ∀ i ∈ allI bs, i.code = 227 ∨ i.code = 229 → tyAt ts' (namedN i) = tyAt ts (namedN i)) : heightsE ts' s bs = heightsE ts s bs := by
  obtain ⟨m1, m2, m3, m4, m5⟩ := may_parts hm
  have hm' : mayB ts' s bs = true := may_mk m1 (by rw [hl]; exact m2) hok m4 fun i hi' => by rw [namedOK_same hl ho (hn i hi')]; exact m5 i hi'
  unfold heightsE
  rw [if_pos hm, if_pos hm']
  have hz : zeroI.code = 227 ∨ zeroI.code = 229 → tyAt ts' (namedN zeroI) = tyAt ts (namedN zeroI) := fun h => by exfalso; revert h; decide
  exact runH_same hi (fun n => getD_all (P := fun i => turnsI ts' (tyAt ts' s) i = turnsI ts (tyAt ts s) i) (turnsI_same ho hz) (fun i h => turnsI_same ho (hn i h)) n)
    (fun n g => getD_all (P := fun i => wrongI ts' (tyAt ts' s) i g = wrongI ts (tyAt ts s) i g) (wrongI_same ho hz) (fun i h => wrongI_same ho (hn i h)) n) _ _
/-- One place further on. -/
def shI (i : Ins) : Ins := ⟨i.at_ + 1, i.code, i.imm, i.next + 1⟩
def nopI : Ins := ⟨0, 91, [], 1⟩
theorem readE_cons {z : Int} {bs : List Int} {p : Int} (hp : 0 ≤ p) : readE (z :: bs) (p + 1) = ((readE bs p).1, if (readE bs p).1 = 0 then shI (readE bs p).2 else zeroI) := by
  unfold readE
  have e1 : (p + 1).toNat = p.toNat + 1 := by omega
  have e2 : (z :: bs).getD (p.toNat + 1) 0 = bs.getD p.toNat 0 := rfl
  have e3 : (z :: bs).drop (p.toNat + 1 + 1) = bs.drop (p.toNat + 1) := rfl
  rw [e1, e2, e3, List.length_cons]
  by_cases c1 : p < 0 ∨ (bs.length : Int) ≤ p
  · rw [if_pos c1, if_pos (by omega)]
    simp
  · rw [if_neg c1, if_neg (by omega)]
    by_cases c2 : isOp (bs.getD p.toNat 0) = false
    · rw [if_pos c2, if_pos c2]
      simp
    · rw [if_neg c2, if_neg c2]
      cases immL (opR (bs.getD p.toNat 0)) (bs.drop (p.toNat + 1)) with
      | none => simp
      | some n =>
        dsimp only
        by_cases c3 : bs.length < p.toNat + 1 + n
        · have c4 : bs.length + 1 < p.toNat + 1 + 1 + n := by omega
          simp [c3, c4]
        · have c4 : ¬ bs.length + 1 < p.toNat + 1 + 1 + n := by omega
          simp only [c3, c4, shI, if_true, if_false, Prod.mk.injEq, Ins.mk.injEq, true_and]
          omega
theorem allGo_cons {z : Int} {bs : List Int} : ∀ (n : Nat) {p : Int}, 0 ≤ p → allGo (z :: bs) n (p + 1) = (allGo bs n p).map shI
  | 0, _, _ => rfl
  | n + 1, p, hp => by
    unfold allGo
    rw [readE_cons hp]
    by_cases h : (readE bs p).1 = 0
    · have hr := read_next (show readE bs p = (0, (readE bs p).2) from by rw [← h])
      have hn := allGo_cons (z := z) (bs := bs) n (p := (readE bs p).2.next) (by omega)
      simp only [h, if_true, List.map_cons]
      rw [← hn]
      rfl
    · simp [h]
theorem allI_nop (bs : List Int) : allI (91 :: bs) = nopI :: (allI bs).map shI := by
  have h0 : readE (91 :: bs) 0 = (0, nopI) := by
    unfold readE
    rw [if_neg (by simp only [List.length_cons]; omega), if_neg (by rw [show (91 :: bs).getD (0 : Int).toNat 0 = 91 from rfl]; decide +kernel)]
    rw [show (91 :: bs).getD (0 : Int).toNat 0 = 91 from rfl]
    have hi : immL (opR 91) ((91 :: bs).drop ((0 : Int).toNat + 1)) = some 0 := by
      unfold immL
      rw [show (opR 91).imm = 0 by decide +kernel]
      rfl
    rw [hi]
    dsimp only
    rw [if_neg (by simp only [List.length_cons]; omega)]
    rfl
  unfold allI
  have h1 := allGo_cons (z := 91) (bs := bs) (bs.length + 1) (p := 0) (Int.le_refl _)
  rw [← h1]
  conv => lhs; unfold allGo
  rw [h0]
  rfl
theorem stands_sh {i : Ins} (h0 : 0 ≤ i.at_) (h1 : i.at_ < 1048576) : standsI (shI i) = standsI i := by
  unfold standsI shI
  dsimp only
  rw [decide_eq_true (show 0 ≤ i.at_ + 1 by omega), decide_eq_true (show i.at_ + 1 ≤ 1048576 by omega), decide_eq_true h0, decide_eq_true (show i.at_ ≤ 1048576 by omega)]
  cases immL (opR i.code) i.imm with
  | none => rfl
  | some n =>
    dsimp only
    have : (i.next + 1 == i.at_ + 1 + 1 + (n : Int)) = (i.next == i.at_ + 1 + (n : Int)) := by
      rw [Bool.eq_iff_iff, beq_iff_eq, beq_iff_eq]
      omega
    rw [this]
theorem leads_sh {i : Ins} (h0 : 0 ≤ i.at_) (h1 : i.at_ < 1048576) : leadsI (shI i) = (leadsI i).map (· + 1) := by
  have hN : ∀ (z : List Int) (fr cnt : Nat) (next : Int), leadsN z fr cnt (next + 1) = (leadsN z fr cnt next).map (· + 1) := fun z fr cnt next => by
    unfold leadsN
    rw [List.map_map]
    refine List.map_congr_left fun j _ => ?_
    simp only [Function.comp]
    omega
  unfold leadsI
  rw [stands_sh h0 h1]
  show (if standsI i = true then if i.code = 226 then leadsN i.imm 1 ((i.imm.length - 1) / 2) (i.next + 1) else if i.code = 224 ∨ i.code = 225 then leadsN i.imm 0 1 (i.next + 1) else [] else []) = _
  rw [hN, hN]
  split
  · split
    · rfl
    · split
      · rfl
      · rfl
  · rfl
theorem named_sh {i : Ins} (h0 : 0 ≤ i.at_) (h1 : i.at_ < 1048576) : namedN (shI i) = namedN i := by
  unfold namedN
  rw [stands_sh h0 h1]
  rfl
theorem turns_sh {ts : List Ty} {own : Ty} {i : Ins} (h0 : 0 ≤ i.at_) (h1 : i.at_ < 1048576) : turnsI ts own (shI i) = turnsI ts own i := by
  unfold turnsI
  rw [named_sh h0 h1]
  rfl
theorem wrong_sh {ts : List Ty} {own : Ty} {i : Ins} {g : Int × Int} (h0 : 0 ≤ i.at_) (h1 : i.at_ < 1048576) : wrongI ts own (shI i) g = wrongI ts own i g := by
  unfold wrongI
  rw [named_sh h0 h1, turns_sh h0 h1]
  rfl
theorem namedOK_sh {ts : List Ty} {own : Ty} {i : Ins} (h0 : 0 ≤ i.at_) (h1 : i.at_ < 1048576) : namedOK ts own (shI i) = namedOK ts own i := by
  unfold namedOK
  rw [named_sh h0 h1]
  rfl
theorem idx_sh (l : List Ins) {t : Int} (h : 0 ≤ t) : idxI (nopI :: l.map shI) (t + 1) = idxI l t + 1 := by
  unfold idxI
  rw [List.findIdx_cons]
  have h1 : (nopI.at_ == t + 1) = false := by rw [beq_eq_false_iff_ne]; unfold nopI; dsimp only; omega
  rw [h1]
  have h2 : (l.map shI).findIdx (fun i => i.at_ == t + 1) = l.findIdx fun i => i.at_ == t := by
    induction l with
    | nil => rfl
    | cons a l ih =>
      rw [List.map_cons, List.findIdx_cons, List.findIdx_cons, ih]
      have : ((shI a).at_ == t + 1) = (a.at_ == t) := by rw [Bool.eq_iff_iff, beq_iff_eq, beq_iff_eq]; unfold shI; dsimp only; omega
      rw [this]
  rw [h2]
  rfl
theorem getD_sh {l : List Ins} {k : Nat} (h : k < l.length) : (nopI :: l.map shI).getD (k + 1) zeroI = shI (l.getD k zeroI) := by
  rw [List.getD_cons_succ, List.getD_eq_getElem?_getD, List.getElem?_map, List.getD_eq_getElem?_getD, List.getElem?_eq_getElem h]
  rfl
/-- What is asked of a list of instructions, that they can be moved. -/
def MoveOK (l : List Ins) : Prop := ∀ k, k < l.length → 0 ≤ (l.getD k zeroI).at_ ∧ (l.getD k zeroI).at_ < 1048576 ∧ ∀ t ∈ leadsI (l.getD k zeroI), 0 ≤ t
theorem toN_sh {l : List Ins} {k : Nat} (hl : MoveOK l) (h : k < l.length) : toN (nopI :: l.map shI) (k + 1) = (toN l k).map (· + 1) := by
  obtain ⟨h0, h1, h2⟩ := hl k h
  unfold toN
  rw [getD_sh h, leads_sh h0 h1, List.map_append, List.map_map, List.map_map]
  have e : (shI (l.getD k zeroI)).code = (l.getD k zeroI).code := rfl
  rw [e]
  congr 1
  · split <;> rfl
  · refine List.map_congr_left fun t ht => ?_
    exact idx_sh l (h2 t ht)
theorem toN_nop (l : List Ins) : toN (nopI :: l.map shI) 0 = [1] := by
  unfold toN
  rw [List.getD_cons_zero]
  have e1 : (opR nopI.code).ends = false := by decide +kernel
  have e2 : leadsI nopI = [] := by decide +kernel
  rw [e1, e2]
  rfl
theorem pas_sh {g : Int × Int} {k m : Nat} {js : List Nat} : pas g (k + 1) (m + 1) (js.map (· + 1)) = pas g k m js := by
  unfold pas
  induction js with
  | nil => rfl
  | cons a js ih =>
    rw [List.map_cons, List.filter_cons, List.filter_cons]
    have : (a + 1 == m + 1 && decide (k + 1 < a + 1)) = (a == m && decide (k < a)) := by
      rw [Bool.eq_iff_iff]
      simp
    rw [this]
    cases (a == m && decide (k < a)) with
    | true => simp only [if_true, List.map_cons, ih]
    | false => simpa using ih
theorem turns_nop (ts : List Ty) (own : Ty) : turnsI ts own nopI = (0, 0) := by
  unfold turnsI
  rw [if_neg (by decide), if_neg (by decide), if_neg (by decide)]
  decide +kernel
theorem comes_sh {ts : List Ty} {own : Ty} {l : List Ins} {hs : List (Int × Int)} {o : Int × Int} (hl : MoveOK l) (m : Nat) : ∀ n, n ≤ l.length → comesN ts own (nopI :: l.map shI) (o :: hs) (n + 1) (m + 1) = (if m = 0 then [o] else []) ++ comesN ts own l hs n m := by
  intro n
  induction n with
  | zero =>
    intro _
    rw [comesN_succ]
    have e1 : comesN ts own (nopI :: l.map shI) (o :: hs) 0 (m + 1) = [] := rfl
    have e2 : comesN ts own l hs 0 m = [] := rfl
    rw [e1, e2, toN_nop, List.getD_cons_zero, List.getD_cons_zero]
    unfold goH
    rw [turns_nop]
    unfold pas
    by_cases h : m = 0
    · subst h
      simp
    · have : ¬ (0 = m) := fun e => h e.symm
      simp [h]
  | succ n ih =>
    intro hn
    rw [comesN_succ, ih (by omega), comesN_succ, toN_sh hl (by omega), List.append_assoc, getD_sh (by omega), List.getD_cons_succ, pas_sh]
    obtain ⟨h0, h1, _⟩ := hl n (by omega)
    have : goH ts own (shI (l.getD n zeroI)) = goH ts own (l.getD n zeroI) := by
      funext g
      unfold goH
      rw [turns_sh h0 h1]
    rw [this]
def movedR (o : Int × Int) (r : List (Int × Int) × Int × Int) : List (Int × Int) × Int × Int := if r.2.1 = 0 then (o :: r.1, 0, 0) else ([], r.2.1, r.2.2 + 1)
theorem wrongI_cases (ts : List Ty) (own : Ty) (i : Ins) (g : Int × Int) : wrongI ts own i g = 0 ∨ wrongI ts own i g = 70 ∨ wrongI ts own i g = 71 ∨ wrongI ts own i g = 74 := by
  unfold wrongI
  repeat (first | split | omega)
theorem run_sh {ts : List Ty} {own : Ty} {l : List Ins} (hl : MoveOK l) : ∀ f hs, hs.length + f = l.length → runH ts own (nopI :: l.map shI) f ((own.inn, own.inn) :: hs) = movedR (own.inn, own.inn) (runH ts own l f hs) := by
  intro f
  induction f with
  | zero => intro hs _; rfl
  | succ f ih =>
    intro hs hf
    have hn : hs.length < l.length := by omega
    obtain ⟨h0, h1, _⟩ := hl hs.length hn
    have hg : (nopI :: l.map shI).getD (hs.length + 1) zeroI = shI (l.getD hs.length zeroI) := getD_sh hn
    have hh : headH ts own (nopI :: l.map shI) ((own.inn, own.inn) :: hs) (hs.length + 1) = headH ts own l hs hs.length := by
      unfold headH
      rw [if_neg (Nat.succ_ne_zero _), comes_sh hl _ _ (by omega)]
      by_cases e : hs.length = 0
      · rw [if_pos e, if_pos e, e, comesN_none rfl]
        rfl
      · rw [if_neg e, if_neg e, List.nil_append]
    have hb : ∀ h, backOK ts own (nopI :: l.map shI) ((own.inn, own.inn) :: (hs ++ [h])) (hs.length + 1) = backOK ts own l (hs ++ [h]) hs.length := fun h => by
      unfold backOK
      rw [toN_sh hl hn, hg, List.all_map]
      have hgo : goH ts own (shI (l.getD hs.length zeroI)) = goH ts own (l.getD hs.length zeroI) := by
        funext g
        unfold goH
        rw [turns_sh h0 h1]
      rw [hgo, List.getD_cons_succ]
      congr 1
      funext t
      simp only [Function.comp, List.getD_cons_succ, Nat.add_lt_add_iff_right]
    unfold runH
    rw [List.length_cons, hh, hg]
    cases headH ts own l hs hs.length with
    | none =>
      simp [movedR, shI]
    | some h =>
      dsimp only
      rw [wrong_sh h0 h1]
      by_cases hw : wrongI ts own (l.getD hs.length zeroI) h ≠ 0
      · rw [if_pos hw, if_pos hw]
        unfold movedR
        rw [if_neg hw]
        rfl
      · rw [if_neg hw, if_neg hw, List.cons_append, hb]
        by_cases hk : backOK ts own l (hs ++ [h]) hs.length = true
        · rw [if_pos hk, if_pos hk]
          exact ih (hs ++ [h]) (by simp; omega)
        · rw [if_neg hk, if_neg hk]
          simp [movedR, shI]
theorem moveOK_of {bs : List Int} (hb : bs.length < 1048576) (hc : (checkE bs (allI bs)).1 = 0) : MoveOK (allI bs) := fun k hk => by
  obtain ⟨q, hq, _⟩ := allI_reads bs
  have hm : (allI bs).getD k zeroI ∈ allI bs := by rw [List.getD_eq_getElem?_getD, List.getElem?_eq_getElem hk]; exact List.getElem_mem hk
  have h1 := reads_lt hq _ hm
  have h2 := reads_pos hq
  refine ⟨h1.1, by omega, fun t ht => ?_⟩
  have := (check_parts hc).2 _ hm t ht
  unfold goodTo at this
  simp only [Bool.and_eq_true, decide_eq_true_eq] at this
  omega
theorem mem_sh {bs : List Int} (hl : MoveOK (allI bs)) {i : Ins} (hi : i ∈ allI bs) : 0 ≤ i.at_ ∧ i.at_ < 1048576 ∧ ∀ t ∈ leadsI i, 0 ≤ t := by
  obtain ⟨k, hk, rfl⟩ := List.mem_iff_getElem.1 hi
  have := hl k hk
  rwa [List.getD_eq_getElem?_getD, List.getElem?_eq_getElem hk] at this
theorem check_mk {bs : List Int} {l : List Ins} (h0 : (scanE bs l).1 = 0) (h : ∀ i ∈ l, ∀ t ∈ leadsI i, goodTo bs.length l t = true) : (checkE bs l).1 = 0 := by
  unfold checkE
  rw [if_pos h0]
  have : l.find? (badI bs.length l) = none := List.find?_eq_none.2 fun i hi => by
    unfold badI
    simp only [List.any_eq_true, not_exists, not_and, Bool.not_eq_true', Bool.not_eq_false]
    exact fun t ht => h i hi t ht
  rw [this]
theorem check_nop {bs : List Int} (hb : bs.length < 1048576) (hc : (checkE bs (allI bs)).1 = 0) : (checkE (91 :: bs) (allI (91 :: bs))).1 = 0 := by
  have hl := moveOK_of hb hc
  obtain ⟨hs, hg⟩ := check_parts hc
  obtain ⟨hp, he⟩ := scan_parts hs
  rw [allI_nop]
  refine check_mk ?_ ?_
  · have hne : allI bs ≠ [] := List.length_pos_iff.1 hp
    have hlast : (nopI :: (allI bs).map shI).getLast? = some (shI ((allI bs).getLast hne)) := by
      rw [List.getLast?_cons, List.getLast?_map, List.getLast?_eq_some_getLast hne]
      rfl
    have h1 : nextOf (nopI :: (allI bs).map shI) = nextOf (allI bs) + 1 := by
      unfold nextOf
      rw [hlast, List.getLast?_eq_some_getLast hne]
      rfl
    unfold scanE at hs ⊢
    rw [h1, hlast, List.length_cons]
    rw [List.getLast?_eq_some_getLast hne] at hs
    by_cases e1 : nextOf (allI bs) < bs.length
    · rw [if_pos e1] at hs
      rw [if_pos (by omega)]
      have hq : 0 ≤ nextOf (allI bs) := by
        obtain ⟨q, h3, _⟩ := allI_reads bs
        have := reads_pos h3
        rw [← reads_next h3]
        omega
      rw [readE_cons hq]
      exact hs
    · rw [if_neg e1, if_neg hne] at hs
      rw [if_neg (by omega), if_neg (by simp)]
      by_cases e3 : (opR (((some ((allI bs).getLast hne)).map Ins.code).getD 0)).ends = false
      · rw [if_pos e3] at hs
        exact absurd (show (62 : Int) = 0 from hs) (by decide)
      · rw [if_neg]
        exact e3
  · intro i hi t ht
    rcases List.mem_cons.1 hi with rfl | hi
    · rw [show leadsI nopI = [] by decide +kernel] at ht
      cases ht
    · obtain ⟨j, hj, rfl⟩ := List.mem_map.1 hi
      obtain ⟨m0, m1, m2⟩ := mem_sh hl hj
      rw [leads_sh m0 m1] at ht
      obtain ⟨t', ht', rfl⟩ := List.mem_map.1 ht
      have := hg j hj t' ht'
      unfold goodTo startAt at this ⊢
      simp only [Bool.and_eq_true, decide_eq_true_eq, List.any_eq_true, beq_iff_eq] at this ⊢
      obtain ⟨⟨g1, g2⟩, x, hx, hxe⟩ := this
      refine ⟨⟨by omega, by rw [List.length_cons]; omega⟩, shI x, List.mem_cons_of_mem _ (List.mem_map.2 ⟨x, hx, rfl⟩), ?_⟩
      show x.at_ + 1 = _
      omega
/-- With a NOP ahead. -/
theorem heightsE_nop {ts : List Ty} {s : Int} {bs : List Int} (hb : bs.length < 1048576) (hm : mayB ts s bs = true) :
    heightsE ts s (91 :: bs) = movedR ((tyAt ts s).inn, (tyAt ts s).inn) (heightsE ts s bs) := by
  obtain ⟨m1, m2, m3, m4, m5⟩ := may_parts hm
  have hl := moveOK_of hb m4
  have hm' : mayB ts s (91 :: bs) = true := may_mk m1 m2 m3 (check_nop hb m4) fun i hi => by
    rw [allI_nop] at hi
    rcases List.mem_cons.1 hi with rfl | hi
    · unfold namedOK
      rw [if_neg (by decide), if_neg (by decide), if_neg (by decide)]
    · obtain ⟨j, hj, rfl⟩ := List.mem_map.1 hi
      obtain ⟨k0, k1, _⟩ := mem_sh hl hj
      rw [namedOK_sh k0 k1]
      exact m5 j hj
  have ho : tyOK (tyAt ts s) = true := by
    unfold tyAt
    rw [List.getD_eq_getElem?_getD, List.getElem?_eq_getElem (by omega)]
    exact m3 _ (List.getElem_mem _)
  have hob := tyOK_iff ho
  unfold heightsE
  rw [if_pos hm, if_pos hm', allI_nop, List.length_cons, List.length_map]
  rw [← run_sh hl (allI bs).length [] (by simp)]
  have hw : wrongI ts (tyAt ts s) nopI ((tyAt ts s).inn, (tyAt ts s).inn) = 0 := by
    unfold wrongI
    rw [turns_nop]
    dsimp only
    rw [if_neg (by decide), if_neg (by omega), if_neg (fun h => absurd h.1 (by decide)), if_neg (by decide), if_neg (by omega)]
  exact runH_step (ts := ts) (own := tyAt ts s) (l := nopI :: (allI bs).map shI) (hs := []) (h := ((tyAt ts s).inn, (tyAt ts s).inn)) rfl hw (by unfold backOK; rw [List.length_nil, toN_nop]; simp)
/-- A straight line of PUSH0 and POP, a STOP behind. -/
def upC (u : Bool) : Int := if u then 95 else 80
def straightB (ups : List Bool) : List Int := ups.map upC ++ [0]
def sumU (ups : List Bool) : Nat → Int
  | 0 => 0
  | k + 1 => sumU ups k + (if ups.getD k false then 1 else -1)
def badU (ups : List Bool) : Nat → Int × Int
  | 0 => (0, 0)
  | k + 1 => if (badU ups k).1 ≠ 0 then badU ups k else if sumU ups (k + 1) < 0 then (70, k) else if 1023 < sumU ups (k + 1) then (71, k) else (0, 0)
def wantU (ups : List Bool) (n : Nat) : List (Int × Int) := (List.range n).map fun k => (sumU ups k, sumU ups k)
def insS (c : Int) (k : Nat) : Ins := ⟨k, c, [], (k : Int) + 1⟩
def PlainC (c : Int) : Prop := c = 95 ∨ c = 80 ∨ c = 0
theorem readE_plain {bs : List Int} {k : Nat} (hk : k < bs.length) (h : PlainC (bs.getD k 0)) : readE bs k = (0, insS (bs.getD k 0) k) := by
  unfold readE
  have e : ((k : Nat) : Int).toNat = k := by omega
  rw [e, if_neg (by omega)]
  have hop : isOp (bs.getD k 0) = true ∧ (opR (bs.getD k 0)).imm = 0 := by rcases h with h | h | h <;> rw [h] <;> decide +kernel
  rw [hop.1, if_neg (by decide)]
  have hi : immL (opR (bs.getD k 0)) (bs.drop (k + 1)) = some 0 := by
    unfold immL
    rw [hop.2]
    rfl
  rw [hi]
  dsimp only
  rw [if_neg (by omega)]
  simp [insS]
theorem allGo_plain {bs : List Int} (h : ∀ k, k < bs.length → PlainC (bs.getD k 0)) : ∀ (n k : Nat), k ≤ bs.length → bs.length < n + k → allGo bs n k = (List.range' k (bs.length - k)).map fun j => insS (bs.getD j 0) j
  | 0, k, hk, hn => by omega
  | n + 1, k, hk, hn => by
    unfold allGo
    by_cases e : k < bs.length
    · rw [readE_plain e (h k e)]
      rw [if_pos rfl]
      have hx : (insS (bs.getD k 0) k).next = ((k + 1 : Nat) : Int) := by unfold insS; dsimp only; omega
      rw [hx, allGo_plain h n (k + 1) (by omega) (by omega)]
      rw [show bs.length - k = (bs.length - (k + 1)) + 1 by omega, List.range'_succ, List.map_cons]
    · have e2 : k = bs.length := by omega
      have : (readE bs (k : Int)).1 ≠ 0 := by
        unfold readE
        rw [if_pos (by omega)]
        decide
      rw [if_neg this, e2, Nat.sub_self]
      rfl
theorem allI_plain {bs : List Int} (h : ∀ k, k < bs.length → PlainC (bs.getD k 0)) : allI bs = (List.range bs.length).map fun j => insS (bs.getD j 0) j := by
  unfold allI
  have := allGo_plain h (bs.length + 1) 0 (Nat.zero_le _) (by omega)
  rw [List.range_eq_range']
  simpa using this
theorem straight_length (ups : List Bool) : (straightB ups).length = ups.length + 1 := by simp [straightB]
theorem straight_at (ups : List Bool) {k : Nat} (h : k < ups.length) : (straightB ups).getD k 0 = upC (ups.getD k false) := by
  unfold straightB
  rw [List.getD_eq_getElem?_getD, List.getElem?_append_left (by simpa using h), List.getElem?_map, List.getD_eq_getElem?_getD, List.getElem?_eq_getElem h]
  rfl
theorem straight_last (ups : List Bool) : (straightB ups).getD ups.length 0 = 0 := by
  unfold straightB
  rw [List.getD_eq_getElem?_getD, List.getElem?_append_right (by simp)]
  simp
theorem straight_plain (ups : List Bool) : ∀ k, k < (straightB ups).length → PlainC ((straightB ups).getD k 0) := fun k hk => by
  rw [straight_length] at hk
  by_cases e : k < ups.length
  · rw [straight_at ups e]
    unfold upC PlainC
    split
    · exact .inl rfl
    · exact .inr (.inl rfl)
  · obtain rfl : k = ups.length := by omega
    rw [straight_last]
    exact .inr (.inr rfl)
def listS (ups : List Bool) : List Ins := (List.range (ups.length + 1)).map fun j => insS ((straightB ups).getD j 0) j
theorem allI_straight (ups : List Bool) : allI (straightB ups) = listS ups := by
  rw [allI_plain (straight_plain ups), straight_length]
  rfl
theorem listS_length (ups : List Bool) : (listS ups).length = ups.length + 1 := by simp [listS]
theorem listS_at (ups : List Bool) {k : Nat} (h : k ≤ ups.length) : (listS ups).getD k zeroI = insS ((straightB ups).getD k 0) k := by
  unfold listS
  rw [List.getD_eq_getElem?_getD, List.getElem?_map, List.getElem?_range (by omega)]
  rfl
theorem leads_plain {c : Int} {k : Nat} (h : PlainC c) : leadsI (insS c k) = [] := by
  unfold leadsI insS
  dsimp only
  have e1 : ¬ c = 226 := by rcases h with h | h | h <;> omega
  have e2 : ¬ (c = 224 ∨ c = 225) := by rcases h with h | h | h <;> omega
  rw [if_neg e1, if_neg e2]
  split <;> rfl
theorem turns_plain {ts : List Ty} {own : Ty} {c : Int} {k : Nat} (h : PlainC c) : turnsI ts own (insS c k) = if c = 95 then (0, 1) else if c = 80 then (1, 0) else (0, 0) := by
  unfold turnsI insS
  dsimp only
  rw [if_neg (by rcases h with h | h | h <;> omega), if_neg (by rcases h with h | h | h <;> omega), if_neg (by rcases h with h | h | h <;> omega)]
  rcases h with rfl | rfl | rfl <;> decide +kernel
def ownS : Ty := ⟨0, 128, 0⟩
theorem wrong_plain {c : Int} {k : Nat} {g : Int × Int} (h : PlainC c) (hg : g.2 = g.1) (h0 : 0 ≤ g.1) (h1 : g.1 ≤ 1023) : wrongI [ownS] ownS (insS c k) g = if c = 95 ∧ 1023 < g.1 + 1 then 71 else if c = 80 ∧ g.1 - 1 < 0 then 70 else 0 := by
  unfold wrongI
  rw [turns_plain h]
  have e : (insS c k).code = c := rfl
  rw [e, if_neg (by rcases h with h | h | h <;> omega)]
  rcases h with rfl | rfl | rfl
  · simp only [if_true, true_and]
    rw [if_neg (by omega), if_neg (by simp), if_neg (by omega)]
    rw [if_neg (c := (95 : Int) = 80 ∧ g.1 - 1 < 0) (by simp)]
    congr 1
    rw [eq_iff_iff]
    omega
  · simp only [show ¬ ((80 : Int) = 95) by decide, if_false, if_true, false_and, true_and]
    by_cases e2 : g.1 < 1
    · rw [if_pos e2, if_pos (by omega)]
    · rw [if_neg e2, if_neg (by simp), if_neg (by omega), if_neg (by omega), if_neg (by omega)]
  · simp only [show ¬ ((0 : Int) = 95) by decide, show ¬ ((0 : Int) = 80) by decide, if_false, false_and]
    rw [if_neg (by omega), if_neg (by simp), if_neg (by omega), if_neg (by omega)]
theorem toN_straight (ups : List Bool) {k : Nat} (h : k < ups.length) : toN (listS ups) k = [k + 1] := by
  have hp := straight_plain ups k (by rw [straight_length]; omega)
  unfold toN
  rw [listS_at ups (by omega), leads_plain hp]
  have : (opR (insS ((straightB ups).getD k 0) k).code).ends = false := by
    show (opR ((straightB ups).getD k 0)).ends = false
    rw [straight_at ups h]
    unfold upC
    split <;> decide +kernel
  rw [this]
  rfl
theorem toN_stop (ups : List Bool) : toN (listS ups) ups.length = [] := by
  have hp := straight_plain ups ups.length (by rw [straight_length]; omega)
  unfold toN
  rw [listS_at ups (by omega), leads_plain hp]
  have : (opR (insS ((straightB ups).getD ups.length 0) ups.length).code).ends = true := by
    show (opR ((straightB ups).getD ups.length 0)).ends = true
    rw [straight_last]
    decide +kernel
  rw [this]
  rfl
theorem wantU_length (ups : List Bool) (n : Nat) : (wantU ups n).length = n := by simp [wantU]
theorem wantU_at (ups : List Bool) {n k : Nat} (h : k < n) : (wantU ups n).getD k (0, 0) = (sumU ups k, sumU ups k) := by
  unfold wantU
  rw [List.getD_eq_getElem?_getD, List.getElem?_map, List.getElem?_range h]
  rfl
theorem wantU_succ (ups : List Bool) (n : Nat) : wantU ups (n + 1) = wantU ups n ++ [(sumU ups n, sumU ups n)] := by
  unfold wantU
  rw [List.range_succ, List.map_append]
  rfl
theorem comes_early (ups : List Bool) (hs : List (Int × Int)) (m : Nat) : ∀ n, n ≤ ups.length → n < m → comesN [ownS] ownS (listS ups) hs n m = [] := by
  intro n
  induction n with
  | zero => intro _ _; rfl
  | succ n ih =>
    intro h1 h2
    rw [comesN_succ, ih (by omega) (by omega), toN_straight ups (by omega)]
    unfold pas
    have : ¬ (n + 1 = m) := by omega
    simp [this]
theorem head_straight (ups : List Bool) {n : Nat} (hn : n ≤ ups.length) : headH [ownS] ownS (listS ups) (wantU ups n) n = some (sumU ups n, sumU ups n) := by
  unfold headH
  cases n with
  | zero => rfl
  | succ n =>
    rw [if_neg (Nat.succ_ne_zero _), comesN_succ, comes_early ups _ _ n (by omega) (by omega), toN_straight ups (by omega), wantU_at ups (by omega), listS_at ups (by omega), List.nil_append]
    have hp := straight_plain ups n (by rw [straight_length]; omega)
    unfold goH pas
    rw [turns_plain hp, straight_at ups (by omega)]
    have hx : ∀ u : Bool, (if upC u = 95 then ((0 : Int), (1 : Int)) else if upC u = 80 then (1, 0) else (0, 0)) = if u then (0, 1) else (1, 0) := by decide
    rw [hx]
    simp only [beq_self_eq_true, Nat.lt_add_one, decide_true, Bool.and_self, List.filter_cons_of_pos, List.filter_nil, List.map_cons, List.map_nil, joinH, List.foldl_nil, Option.some.injEq, Prod.mk.injEq, and_self, sumU]
    split
    · dsimp only; omega
    · dsimp only; omega
theorem badU_stay (ups : List Bool) {k : Nat} (h : (badU ups k).1 ≠ 0) : ∀ n, k ≤ n → badU ups n = badU ups k := by
  intro n hn
  induction n with
  | zero =>
    obtain rfl : k = 0 := by omega
    rfl
  | succ n ih =>
    by_cases e : k = n + 1
    · rw [e]
    · have := ih (by omega)
      conv => lhs; unfold badU
      rw [this, if_pos h]
theorem badU_ok (ups : List Bool) {k : Nat} (h : (badU ups k).1 = 0) : badU ups k = (0, 0) ∧ 0 ≤ sumU ups k ∧ sumU ups k ≤ 1023 := by
  cases k with
  | zero => exact ⟨rfl, by simp [sumU], by simp [sumU]⟩
  | succ k =>
    unfold badU at h ⊢
    split at h
    · rename_i h1
      exact absurd h h1
    · rename_i h1
      rw [if_neg h1]
      split at h
      · exact absurd (show (70 : Int) = 0 from h) (by decide)
      · rename_i h2
        rw [if_neg h2]
        split at h
        · exact absurd (show (71 : Int) = 0 from h) (by decide)
        · rename_i h3
          rw [if_neg h3]
          exact ⟨rfl, by omega, by omega⟩
theorem run_straight (ups : List Bool) : ∀ (f n : Nat), n + f = ups.length + 1 → (badU ups n).1 = 0 → n ≤ ups.length →
    runH [ownS] ownS (listS ups) f (wantU ups n) = if (badU ups ups.length).1 = 0 then (wantU ups (ups.length + 1), 0, 0) else ([], badU ups ups.length) := by
  intro f
  induction f with
  | zero => intro n h1 _ h2; omega
  | succ f ih =>
    intro n h1 h2 h3
    obtain ⟨hb, s0, s1⟩ := badU_ok ups h2
    have hl := wantU_length ups n
    have hp := straight_plain ups n (by rw [straight_length]; omega)
    have hh : headH [ownS] ownS (listS ups) (wantU ups n) (wantU ups n).length = some (sumU ups n, sumU ups n) := by rw [hl]; exact head_straight ups h3
    have hw := wrong_plain (k := n) (g := (sumU ups n, sumU ups n)) hp rfl s0 s1
    rw [← listS_at ups h3] at hw
    by_cases e : n < ups.length
    · have hsn : sumU ups (n + 1) = sumU ups n + (if ups.getD n false then 1 else -1) := rfl
      have hbn : badU ups (n + 1) = if sumU ups (n + 1) < 0 then (70, (n : Int)) else if 1023 < sumU ups (n + 1) then (71, (n : Int)) else (0, 0) := by
        conv => lhs; unfold badU
        rw [if_neg (by simpa using h2)]
      rw [straight_at ups e] at hw
      have hw2 : wrongI [ownS] ownS ((listS ups).getD n zeroI) (sumU ups n, sumU ups n) = (badU ups (n + 1)).1 := by
        rw [hw, hbn, hsn]
        unfold upC
        cases ups.getD n false with
        | true =>
          simp only [if_true, true_and, show ¬ ((95 : Int) = 80) by decide, false_and, if_false]
          rw [if_neg (c := sumU ups n + 1 < 0) (by omega)]
          split <;> rfl
        | false =>
          simp only [Bool.false_eq_true, if_false, show ¬ ((80 : Int) = 95) by decide, false_and, true_and]
          by_cases e3 : sumU ups n - 1 < 0
          · rw [if_pos e3, if_pos (by omega)]
          · rw [if_neg e3, if_neg (by omega), if_neg (by omega)]
      by_cases hz : (badU ups (n + 1)).1 = 0
      · have hst := runH_step (f := f) hh (by rw [hl, hw2]; exact hz) (by
          unfold backOK
          rw [hl, toN_straight ups e]
          simp)
        rw [hst, ← wantU_succ]
        exact ih (n + 1) (by omega) hz (by omega)
      · have hst := runH_wrong (f := f) hh (by rw [hl, hw2]; exact hz)
        have hsty := badU_stay ups hz ups.length (by omega)
        rw [hst, hl, hw2, if_neg (by rw [hsty]; exact hz), hsty]
        have : ((listS ups).getD n zeroI).at_ = (badU ups (n + 1)).2 := by
          rw [listS_at ups h3, hbn]
          rw [hbn] at hz
          show (n : Int) = _
          split
          · rfl
          · split
            · rfl
            · rename_i h4 h5
              rw [if_neg h4, if_neg h5] at hz
              exact absurd rfl hz
        rw [this]
    · obtain rfl : n = ups.length := by omega
      obtain rfl : f = 0 := by omega
      rw [straight_last] at hw
      have hw2 : wrongI [ownS] ownS ((listS ups).getD ups.length zeroI) (sumU ups ups.length, sumU ups ups.length) = 0 := by
        rw [hw]
        simp
      have hst := runH_step (f := 0) hh (by rw [hl, hw2]) (by
        unfold backOK
        rw [hl, toN_stop]
        rfl)
      rw [hst, ← wantU_succ, if_pos h2]
      rfl
/-- The heights of a straight line are the plain sums. -/
theorem heightsE_straight (ups : List Bool) : heightsE [ownS] 0 (straightB ups) = if (badU ups ups.length).1 = 0 then (wantU ups (ups.length + 1), 0, 0) else ([], badU ups ups.length) := by
  have hlast : (listS ups).getLast? = some (insS 0 ups.length) := by
    unfold listS
    rw [List.range_succ, List.map_append, List.map_cons, List.map_nil, straight_last]
    simp
  have hm : mayB [ownS] 0 (straightB ups) = true := may_mk (by decide) (by decide) (by decide) (by
      rw [allI_straight]
      refine check_mk ?_ fun i hi t ht => ?_
      · unfold scanE nextOf
        rw [hlast, straight_length]
        rw [if_neg (by show ¬ ((ups.length : Int) + 1 < _); omega), if_neg (fun e => by rw [e] at hlast; cases hlast), if_neg]
        show ¬ ((opR 0).ends = false)
        decide +kernel
      · unfold listS at hi
        obtain ⟨j, hj, rfl⟩ := List.mem_map.1 hi
        rw [leads_plain (straight_plain ups j (by rw [straight_length]; exact List.mem_range.1 hj))] at ht
        cases ht) fun i hi => by
      rw [allI_straight] at hi
      unfold listS at hi
      obtain ⟨j, hj, rfl⟩ := List.mem_map.1 hi
      have hp := straight_plain ups j (by rw [straight_length]; exact List.mem_range.1 hj)
      unfold namedOK insS
      dsimp only
      rw [if_neg (by rcases hp with h | h | h <;> omega), if_neg (by rcases hp with h | h | h <;> omega), if_neg (by rcases hp with h | h | h <;> omega)]
  unfold heightsE
  rw [if_pos hm, allI_straight]
  have ht : tyAt [ownS] 0 = ownS := rfl
  rw [ht, listS_length]
  exact run_straight ups (ups.length + 1) 0 (by omega) rfl (Nat.zero_le _)
end Vouch
