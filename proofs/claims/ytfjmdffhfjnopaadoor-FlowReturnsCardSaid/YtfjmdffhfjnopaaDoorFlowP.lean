/- Heights, worked out forwards: what the program's two rows hold, against the document's list of what comes. Plain. -/
import Derived.Test.YtfjmdffhfjnopaaDoorFlowE
namespace Vouch
open Go.Proofs.YtfjmdffhfjnopaaDoor
def Bnd (h : Int × Int) : Prop := 0 ≤ h.1 ∧ h.1 ≤ h.2 ∧ h.2 ≤ 1023
theorem bnd_join {a b : Int × Int} (ha : Bnd a) (hb : Bnd b) : Bnd (joinF a b) := by
  unfold Bnd joinF at *
  dsimp only
  omega
theorem joinH_snoc (X : List (Int × Int)) (g : Int × Int) : joinH (X ++ [g]) = some (match joinH X with | none => g | some h => joinF h g) := by
  cases X with
  | nil => rfl
  | cons h r => simp [joinH, List.foldl_append]
theorem pas_snoc_hit {g : Int × Int} {n t : Nat} {js : List Nat} (h : n < t) : pas g n t (js ++ [t]) = pas g n t js ++ [g] := by
  unfold pas
  simp [List.filter_append, h]
theorem pas_snoc_miss {g : Int × Int} {n t m : Nat} {js : List Nat} (h : t ≠ m ∨ ¬ n < t) : pas g n m (js ++ [t]) = pas g n m js := by
  unfold pas
  rw [List.filter_append]
  have : ([t].filter fun t => t == m && decide (n < t)) = [] := by
    rcases h with h | h
    · simp [h]
    · simp [h]
  rw [this, List.append_nil]
theorem comesN_succ (ts : List Ty) (own : Ty) (l : List Ins) (hs : List (Int × Int)) (n m : Nat) : comesN ts own l hs (n + 1) m = comesN ts own l hs n m ++ pas (goH ts own (l.getD n zeroI) (hs.getD n (0, 0))) n m (toN l n) := by
  unfold comesN
  rw [List.range_succ, List.flatMap_append]
  simp
theorem getD_app {α : Type} {l r : List α} {k : Nat} {d : α} (h : k < l.length) : (l ++ r).getD k d = l.getD k d := by
  rw [List.getD_eq_getElem?_getD, List.getElem?_append_left h, ← List.getD_eq_getElem?_getD]
theorem getD_last {α : Type} {l : List α} {x d : α} : (l ++ [x]).getD l.length d = x := by
  rw [List.getD_eq_getElem?_getD, List.getElem?_append_right (Nat.le_refl _)]
  simp
theorem comesN_more (ts : List Ty) (own : Ty) (l : List Ins) (hs : List (Int × Int)) (h : Int × Int) (m : Nat) : comesN ts own l (hs ++ [h]) hs.length m = comesN ts own l hs hs.length m := by
  unfold comesN
  rw [List.flatMap_def, List.flatMap_def]
  congr 1
  refine List.map_congr_left fun k hk => ?_
  have := List.mem_range.1 hk
  rw [getD_app this]
theorem comesN_none {ts : List Ty} {own : Ty} {l : List Ins} {hs : List (Int × Int)} {n m : Nat} (h : m = 0) : comesN ts own l hs n m = [] := by
  subst h
  unfold comesN pas
  rw [List.flatMap_eq_nil_iff]
  intro k _
  have : (toN l k).filter (fun t => t == 0 && decide (k < t)) = [] := by
    rw [List.filter_eq_nil_iff]
    intro t _
    simp only [Bool.and_eq_true, beq_iff_eq, decide_eq_true_eq, not_and]
    omega
  rw [this]
  rfl
/-- What a row holds at m. -/
def stO (hv : List (Int × Int)) (mt : List Bool) (m : Nat) : Option (Int × Int) := if mt.getD m false = true then some (hv.getD m (0, 0)) else none
/-- The rows, while the instruction n passes on to js. -/
structure StRel (ts : List Ty) (own : Ty) (l : List Ins) (hs : List (Int × Int)) (n : Nat) (g : Int × Int) (js : List Nat) (hv : List (Int × Int)) (mt : List Bool) : Prop where
  lh : hv.length = l.length
  lq : mt.length = l.length
  old : ∀ m, m < hs.length → mt.getD m false = true ∧ hv.getD m (0, 0) = hs.getD m (0, 0)
  ahead : ∀ m, hs.length ≤ m → m < l.length → stO hv mt m = if m = 0 then some (own.inn, own.inn) else joinH (comesN ts own l hs n m ++ pas g n m js)
  bnd : ∀ m, m < l.length → Bnd (hv.getD m (0, 0))
theorem getD_set {α : Type} {l : List α} {k m : Nat} {v d : α} (h : k < l.length) : (l.set k v).getD m d = if m = k then v else l.getD m d := by
  rw [List.getD_eq_getElem?_getD, List.getD_eq_getElem?_getD]
  by_cases e : m = k
  · subst e
    rw [List.getElem?_set_self h, if_pos rfl]
    rfl
  · rw [List.getElem?_set_ne (fun h => e h.symm), if_neg e]
/-- One way more, ahead. -/
theorem strel_on {ts : List Ty} {own : Ty} {l : List Ins} {hs : List (Int × Int)} {n t : Nat} {g : Int × Int} {js : List Nat} {hv : List (Int × Int)} {mt : List Bool} (h : StRel ts own l hs n g js hv mt) (ht : t < l.length) (hnt : n < t) (hl : hs.length = n + 1) (hg : Bnd g) :
    StRel ts own l hs n g (js ++ [t]) (passH hv mt t g) (mt.set t true) := by
  have h1 : t < hv.length := by rw [h.lh]; exact ht
  have h2 : t < mt.length := by rw [h.lq]; exact ht
  refine ⟨by simp [passH, h.lh], by simp [h.lq], fun m hm => ?_, fun m hm hml => ?_, fun m hm => ?_⟩
  · unfold passH
    rw [getD_set h1, getD_set h2, if_neg (by omega), if_neg (by omega)]
    exact h.old m hm
  · unfold stO passH
    rw [getD_set h1, getD_set h2]
    by_cases e : m = t
    · subst e
      rw [if_pos rfl, if_pos rfl, if_pos rfl, if_neg (by omega : ¬ m = 0), pas_snoc_hit hnt, ← List.append_assoc, joinH_snoc]
      have ha := h.ahead m hm hml
      rw [if_neg (by omega : ¬ m = 0)] at ha
      rw [← ha]
      unfold stO
      cases hmm : mt.getD m false with
      | true => simp
      | false => simp
    · rw [if_neg e, if_neg e, pas_snoc_miss (.inl (fun h => e h.symm))]
      exact h.ahead m hm hml
  · unfold passH
    rw [getD_set h1]
    split
    · split
      · exact bnd_join (h.bnd t ht) hg
      · exact hg
    · exact h.bnd m hm
/-- One way more, back. -/
theorem strel_back {ts : List Ty} {own : Ty} {l : List Ins} {hs : List (Int × Int)} {n t : Nat} {g : Int × Int} {js : List Nat} {hv : List (Int × Int)} {mt : List Bool} (h : StRel ts own l hs n g js hv mt) (hnt : ¬ n < t) : StRel ts own l hs n g (js ++ [t]) hv mt :=
  ⟨h.lh, h.lq, h.old, fun m hm hml => by rw [pas_snoc_miss (.inr hnt)]; exact h.ahead m hm hml, h.bnd⟩
/-- The next instruction. -/
theorem strel_next {ts : List Ty} {own : Ty} {l : List Ins} {hs : List (Int × Int)} {n : Nat} {hv : List (Int × Int)} {mt : List Bool} {g : Int × Int} (h : StRel ts own l hs n g (toN l n) hv mt) (_hl : hs.length = n + 1) (hg : g = goH ts own (l.getD n zeroI) (hs.getD n (0, 0))) (g' : Int × Int) : StRel ts own l hs (n + 1) g' [] hv mt :=
  ⟨h.lh, h.lq, h.old, fun m hm hml => by rw [h.ahead m hm hml, comesN_succ, hg]; simp [pas], h.bnd⟩
/-- The head of a round: the instruction n is taken in. -/
theorem strel_head {ts : List Ty} {own : Ty} {l : List Ins} {hs : List (Int × Int)} {hv : List (Int × Int)} {mt : List Bool} {g g' : Int × Int} (h : StRel ts own l hs hs.length g [] hv mt) (hn : hs.length < l.length) :
    headH ts own l hs hs.length = stO hv mt hs.length ∧ (mt.getD hs.length false = true → StRel ts own l (hs ++ [hv.getD hs.length (0, 0)]) hs.length g' [] hv mt) := by
  have ha := h.ahead hs.length (Nat.le_refl _) hn
  refine ⟨by rw [ha]; unfold headH; simp [pas], fun hm => ⟨h.lh, h.lq, fun m hml => ?_, fun m hml hml2 => ?_, h.bnd⟩⟩
  · by_cases e : m < hs.length
    · rw [getD_app e]
      exact h.old m e
    · have e2 : m = hs.length := by simp at hml; omega
      subst e2
      refine ⟨hm, ?_⟩
      rw [getD_last]
  · have hml3 : hs.length ≤ m := by simp at hml; omega
    rw [h.ahead m hml3 hml2, comesN_more]
    simp [pas]
theorem strel_start {ts : List Ty} {own : Ty} {l : List Ins} {N : Nat} (hN : N = l.length) (h0 : 0 < N) (ho : Bnd (own.inn, own.inn)) (g : Int × Int) : StRel ts own l [] 0 g [] ((List.replicate N (0, 0)).set 0 (own.inn, own.inn)) ((List.replicate N false).set 0 true) := by
  have e1 : (0 : Nat) < (List.replicate N ((0 : Int), (0 : Int))).length := by simpa using h0
  have e2 : (0 : Nat) < (List.replicate N false).length := by simpa using h0
  refine ⟨by simp [hN], by simp [hN], fun m hm => by simp at hm, fun m _ hml => ?_, fun m hm => ?_⟩
  · unfold stO
    rw [getD_set e1, getD_set e2]
    by_cases e : m = 0
    · rw [if_pos e, if_pos e, if_pos e, if_pos rfl]
    · rw [if_neg e, if_neg e, if_neg e]
      have : (List.replicate N false).getD m false = false := by
        rw [List.getD_eq_getElem?_getD, List.getElem?_replicate, if_pos (by omega)]
        rfl
      rw [this]
      simp [comesN, pas, joinH]
  · rw [getD_set e1]
    split
    · exact ho
    · have : (List.replicate N ((0 : Int), (0 : Int))).getD m (0, 0) = (0, 0) := by
        rw [List.getD_eq_getElem?_getD, List.getElem?_replicate, if_pos (by omega)]
        rfl
      rw [this]
      unfold Bnd
      simp
theorem goH_bnd {ts : List Ty} {own : Ty} {i : Ins} {h : Int × Int} (hts : ∀ t ∈ ts, tyOK t = true) (ho : tyOK own = true) (hz : ∀ x ∈ i.imm, 0 ≤ x ∧ x < 256) (hb : Bnd h) (hw : wrongI ts own i h = 0) : Bnd (goH ts own i h) := by
  have ht := turnsI_bounds hts ho hz
  have htw := tyOK_iff ho
  have h229 : i.code = 229 → (turnsI ts own i).2 = 0 := fun e => by unfold turnsI; rw [if_neg (by omega), if_pos e]
  have h228 : i.code = 228 → (turnsI ts own i).1 = own.out ∧ (turnsI ts own i).2 = 0 := fun e => by unfold turnsI; rw [if_neg (by omega), if_neg (by omega), if_pos e]; exact ⟨rfl, rfl⟩
  unfold Bnd goH at *
  unfold wrongI at hw
  dsimp only
  by_cases e1 : i.code = 228
  · obtain ⟨a, b⟩ := h228 e1
    rw [if_pos e1] at hw
    split at hw
    · omega
    · omega
  · rw [if_neg e1] at hw
    split at hw
    · omega
    · split at hw
      · omega
      · split at hw
        · rename_i e2
          have := h229 e2
          omega
        · split at hw
          · omega
          · omega
end Vouch
