/- What it means that types, section and code may be. Plain. -/
import Derived.Test.YtfjmdffhfjnopaaDoorFlowP
namespace Vouch
open Go.Proofs.YtfjmdffhfjnopaaDoor
theorem may_parts {ts : List Ty} {s : Int} {bs : List Int} (h : mayB ts s bs = true) : 0 ≤ s ∧ s < ts.length ∧ (∀ t ∈ ts, tyOK t = true) ∧ (checkE bs (allI bs)).1 = 0 ∧ ∀ i ∈ allI bs, namedOK ts (tyAt ts s) i = true := by
  unfold mayB at h
  simp only [Bool.and_eq_true, decide_eq_true_eq, List.all_eq_true] at h
  exact ⟨h.1.1.1.1, h.1.1.1.2, h.1.1.2, h.1.2, h.2⟩
theorem check_parts {bs : List Int} {l : List Ins} (h : (checkE bs l).1 = 0) : (scanE bs l).1 = 0 ∧ ∀ i ∈ l, ∀ t ∈ leadsI i, goodTo bs.length l t = true := by
  unfold checkE at h
  split at h
  · rename_i h0
    refine ⟨h0, fun i hi t ht => ?_⟩
    cases hf : l.find? (badI bs.length l) with
    | some j => rw [hf] at h; exact absurd h (by simp)
    | none =>
      have := List.find?_eq_none.1 hf i hi
      unfold badI at this
      simp only [List.any_eq_true, not_exists, not_and, Bool.not_eq_true', Bool.not_eq_false] at this
      exact this t ht
  · rename_i h0
    exact absurd h h0
theorem good_idx {n : Nat} {l : List Ins} {t : Int} (h : goodTo n l t = true) : idxI l t < l.length ∧ (l.getD (idxI l t) zeroI).at_ = t := by
  unfold goodTo startAt at h
  simp only [Bool.and_eq_true, decide_eq_true_eq, List.any_eq_true, beq_iff_eq] at h
  obtain ⟨⟨h1, h2⟩, i, hi, he⟩ := h
  have hlt : idxI l t < l.length := by
    unfold idxI
    rw [List.findIdx_lt_length]
    exact ⟨i, hi, by rw [beq_iff_eq]; omega⟩
  refine ⟨hlt, ?_⟩
  rw [List.getD_eq_getElem?_getD, List.getElem?_eq_getElem hlt]
  have := List.findIdx_getElem (p := fun i : Ins => i.at_ == t) (w := hlt)
  exact beq_iff_eq.1 this
theorem scan_parts {bs : List Int} (h : (scanE bs (allI bs)).1 = 0) : 0 < (allI bs).length ∧ (opR ((allI bs).getD ((allI bs).length - 1) zeroI).code).ends = true := by
  obtain ⟨q, h1, h2⟩ := allI_reads bs
  have hq := reads_next h1
  unfold scanE at h
  by_cases e1 : nextOf (allI bs) < bs.length
  · rw [if_pos e1, ← hq] at h
    exact absurd h h2
  · rw [if_neg e1] at h
    by_cases e2 : allI bs = []
    · rw [if_pos e2] at h
      exact absurd h (by decide)
    · rw [if_neg e2] at h
      have hl : 0 < (allI bs).length := List.length_pos_iff.2 e2
      refine ⟨hl, ?_⟩
      have e3 : (allI bs).getD ((allI bs).length - 1) zeroI = (allI bs).getLast e2 := by
        rw [List.getD_eq_getElem?_getD, List.getElem?_eq_getElem (by omega), List.getLast_eq_getElem]
        rfl
      rw [e3]
      have e4 : ((allI bs).getLast?.map Ins.code).getD 0 = ((allI bs).getLast e2).code := by rw [List.getLast?_eq_some_getLast e2]; rfl
      rw [e4] at h
      cases hb : (opR ((allI bs).getLast e2).code).ends with
      | true => rfl
      | false =>
        rw [if_pos hb] at h
        exact absurd h (by simp)
/-- The next one is there, where one does not end. -/
theorem next_there {bs : List Int} {n : Nat} (h : (scanE bs (allI bs)).1 = 0) (hn : n < (allI bs).length) (he : (opR ((allI bs).getD n zeroI).code).ends = false) : n + 1 < (allI bs).length := by
  have hs := scan_parts h
  refine Nat.lt_of_le_of_ne hn fun e => ?_
  rw [show (allI bs).length - 1 = n by omega, he] at hs
  exact absurd hs.2 (by decide)
theorem names_ok {ts : List Ty} {own : Ty} {i : Ins} (_hz : ∀ z ∈ i.imm, 0 ≤ z ∧ z < 256) (h : namedOK ts own i = true) (h0 : 0 ≤ namedN i) : NamesOK ts i := by
  intro hc
  refine ⟨h0, ?_⟩
  unfold namedOK at h
  rcases hc with e | e
  · rw [if_neg (by omega), if_pos e] at h
    simp only [Bool.and_eq_true, decide_eq_true_eq] at h
    exact h.1
  · rw [if_neg (by omega), if_neg (by omega), if_pos e] at h
    simp only [Bool.and_eq_true, decide_eq_true_eq] at h
    exact h.1
end Vouch
