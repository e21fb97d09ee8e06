/- What comes to each instruction, as the document's answer lists it. Plain. -/
import Derived.Test.YtfjmdffhfjnopaaDoorFlowQ
import Derived.Test.YtfjmdffhfjnopaaDoorFlowD
import Derived.Test.YtfjmdffhfjnopaaDoorLists
namespace Vouch
open Go.Proofs.YtfjmdffhfjnopaaDoor
def pasJ (n m : Nat) (js : List Nat) : List Nat := (js.filter fun t => t == m && decide (n < t)).map fun _ => n
/-- The numbers of those that come to an instruction from the first n ones. -/
def comesJ (l : List Ins) (n m : Nat) : List Nat := (List.range n).flatMap fun k => pasJ k m (toN l k)
theorem pasJ_hit {n t : Nat} {js : List Nat} (h : n < t) : pasJ n t (js ++ [t]) = pasJ n t js ++ [n] := by
  unfold pasJ
  simp [List.filter_append, h]
theorem pasJ_miss {n t m : Nat} {js : List Nat} (h : t ≠ m ∨ ¬ n < t) : pasJ n m (js ++ [t]) = pasJ n m js := by
  unfold pasJ
  rw [List.filter_append]
  have : ([t].filter fun t => t == m && decide (n < t)) = [] := by
    rcases h with h | h
    · simp [h]
    · simp [h]
  rw [this, List.append_nil]
theorem pas_pasJ (g : Int × Int) (n m : Nat) (js : List Nat) : pas g n m js = (pasJ n m js).map fun _ => g := by
  unfold pas pasJ
  rw [List.map_map]
  rfl
theorem pasJ_mem {n m k : Nat} {js : List Nat} (h : k ∈ pasJ n m js) : k = n ∧ n < m := by
  unfold pasJ at h
  obtain ⟨t, ht, rfl⟩ := List.mem_map.1 h
  have := (List.mem_filter.1 ht).2
  simp only [Bool.and_eq_true, beq_iff_eq, decide_eq_true_eq] at this
  omega
theorem comesJ_succ (l : List Ins) (n m : Nat) : comesJ l (n + 1) m = comesJ l n m ++ pasJ n m (toN l n) := by
  unfold comesJ
  rw [List.range_succ, List.flatMap_append]
  simp
theorem comesJ_mem {l : List Ins} {n m k : Nat} (h : k ∈ comesJ l n m) : k < n ∧ k < m := by
  unfold comesJ at h
  obtain ⟨j, hj, hk⟩ := List.mem_flatMap.1 h
  have := pasJ_mem hk
  have := List.mem_range.1 hj
  omega
theorem comesN_J (ts : List Ty) (own : Ty) (l : List Ins) (hs : List (Int × Int)) (n m : Nat) : comesN ts own l hs n m = (comesJ l n m).map fun k => goH ts own (l.getD k zeroI) (hs.getD k (0, 0)) := by
  induction n with
  | zero => rfl
  | succ n ih =>
    rw [comesN_succ, comesJ_succ, List.map_append, ← ih, pas_pasJ]
    congr 1
    refine List.map_congr_left fun k hk => ?_
    rw [(pasJ_mem hk).1]
/-- All of them come from ahead. -/
theorem comesJ_all {l : List Ins} {m : Nat} : ∀ n, m ≤ n → comesJ l n m = comesJ l m m := by
  intro n hn
  induction n with
  | zero => rw [show m = 0 by omega]
  | succ n ih =>
    by_cases e : m = n + 1
    · rw [e]
    · rw [comesJ_succ, ih (by omega)]
      have : pasJ n m (toN l n) = [] := by
        refine List.eq_nil_iff_forall_not_mem.2 fun k hk => ?_
        have := pasJ_mem hk
        omega
      rw [this, List.append_nil]
/-- How many there may be. -/
theorem pasJ_length (n m : Nat) (js : List Nat) : (pasJ n m js).length ≤ js.length := by
  unfold pasJ
  rw [List.length_map]
  exact List.length_filter_le _ _
theorem headH_J {ts : List Ty} {own : Ty} {l : List Ins} {hs : List (Int × Int)} {n N : Nat} (hn : n ≤ N) : headH ts own l hs n = if n = 0 then some (own.inn, own.inn) else joinH ((comesJ l N n).map fun k => goH ts own (l.getD k zeroI) (hs.getD k (0, 0))) := by
  unfold headH
  rw [comesN_J, comesJ_all N hn]
/-- Gathered so far: those of the first n, and what the instruction n passes on to js. -/
def comesP (l : List Ins) (n : Nat) (js : List Nat) (m : Nat) : List Nat := comesJ l n m ++ pasJ n m js
def natVs (ns : List Nat) : List Go.Value := ns.map fun k : Nat => .int .i64 k
theorem comesP_nil (l : List Ins) (n m : Nat) : comesP l n [] m = comesJ l n m := by simp [comesP, pasJ]
theorem comesP_end (l : List Ins) (n m : Nat) : comesP l n (toN l n) m = comesJ l (n + 1) m := by rw [comesP, comesJ_succ]
theorem comesP_hit {l : List Ins} {n t : Nat} {js : List Nat} (h : n < t) : (fun m => natVs (comesP l n (js ++ [t]) m)) = Go.Vk.updL (fun m => natVs (comesP l n js m)) t (natVs (comesP l n js t) ++ [.int .i64 n]) := by
  funext m
  unfold Go.Vk.updL comesP
  by_cases e : m = t
  · subst e
    rw [if_pos rfl, pasJ_hit h, ← List.append_assoc]
    simp [natVs]
  · rw [if_neg e, pasJ_miss (.inl (fun h => e h.symm))]
theorem comesP_miss {l : List Ins} {n t : Nat} {js : List Nat} (h : ¬ n < t) : (fun m => natVs (comesP l n (js ++ [t]) m)) = fun m => natVs (comesP l n js m) := by
  funext m
  unfold comesP
  rw [pasJ_miss (.inr h)]
theorem natVs_length (ns : List Nat) : (natVs ns).length = ns.length := by simp [natVs]
theorem natVs_at {ns : List Nat} {j : Nat} (h : j < ns.length) : (natVs ns)[j]? = some (.int .i64 (ns.getD j 0 : Nat)) := by
  simp [natVs, List.getD_eq_getElem?_getD, h]
theorem comesJ_length {l : List Ins} (h : ∀ k, (toN l k).length ≤ 257) (n m : Nat) : (comesJ l n m).length ≤ n * 257 := by
  induction n with
  | zero => simp [comesJ]
  | succ n ih =>
    rw [comesJ_succ, List.length_append]
    have := pasJ_length n m (toN l n)
    have := h n
    omega
theorem comesP_length {l : List Ins} (h : ∀ k, (toN l k).length ≤ 257) (n m : Nat) (js : List Nat) : (natVs (comesP l n js m)).length ≤ n * 257 + js.length := by
  rw [natVs_length, comesP, List.length_append]
  have := comesJ_length h n m
  have := pasJ_length n m js
  omega
theorem toN_length {bs : List Int} (hz : ∀ z ∈ bs, 0 ≤ z ∧ z < 256) (k : Nat) : (toN (allI bs) k).length ≤ 257 := by
  unfold toN
  rw [List.length_append, List.length_map]
  have h1 : (if (opR ((allI bs).getD k zeroI).code).ends = true then ([] : List Nat) else [k + 1]).length ≤ 1 := by split <;> simp
  have h2 : (leadsI ((allI bs).getD k zeroI)).length ≤ 256 := by
    refine leadsI_len fun z hzi => ?_
    obtain ⟨q, hq, _⟩ := allI_reads bs
    by_cases hk : k < (allI bs).length
    · exact reads_bytes hz hq _ (by rw [List.getD_eq_getElem?_getD, List.getElem?_eq_getElem hk]; exact List.getElem_mem hk) z hzi
    · rw [List.getD_eq_getElem?_getD, List.getElem?_eq_none (by omega)] at hzi
      cases hzi
  omega
/-- The fold of the heights, one entry more. -/
theorem joinH_take {X : List (Int × Int)} {j : Nat} (h : j < X.length) : joinH (X.take (j + 1)) = some (match joinH (X.take j) with | none => X.getD j (0, 0) | some h => joinF h (X.getD j (0, 0))) := by
  rw [List.take_add_one, List.getElem?_eq_getElem h, Option.toList_some, joinH_snoc, List.getD_eq_getElem?_getD, List.getElem?_eq_getElem h]
  rfl
theorem joinH_some7 {X : List (Int × Int)} {j : Nat} (h : j ≤ X.length) (h0 : 0 < j) : ∃ a, joinH (X.take j) = some a := by
  obtain ⟨k, rfl⟩ : ∃ k, j = k + 1 := ⟨j - 1, by omega⟩
  exact ⟨_, joinH_take h⟩
end Vouch
