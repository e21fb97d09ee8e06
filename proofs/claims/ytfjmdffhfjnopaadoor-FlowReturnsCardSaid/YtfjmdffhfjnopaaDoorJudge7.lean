/- Heights that are told: what they are (plain). -/
import Derived.Test.YtfjmdffhfjnopaaDoorFlowH
namespace Vouch
open Go.Proofs.YtfjmdffhfjnopaaDoor
/-- A run that ends well: what was asked at each instruction. -/
theorem runH_steps {ts : List Ty} {own : Ty} {l : List Ins} : ∀ (f : Nat) (h0 hs : List (Int × Int)), runH ts own l f h0 = (hs, 0, 0) → hs.length = h0.length + f ∧ hs.take h0.length = h0 ∧
    ∀ n, h0.length ≤ n → n < hs.length → headH ts own l (hs.take n) n = some (hs.getD n (0, 0)) ∧ wrongI ts own (l.getD n zeroI) (hs.getD n (0, 0)) = 0 ∧ backOK ts own l (hs.take (n + 1)) n = true := by
  intro f
  induction f with
  | zero =>
    intro h0 hs h
    unfold runH at h
    obtain ⟨rfl, _⟩ := Prod.mk.inj h
    exact ⟨rfl, List.take_length, fun n h1 h2 => by omega⟩
  | succ f ih =>
    intro h0 hs h
    cases hh : headH ts own l h0 h0.length with
    | none =>
      rw [runH_dead hh] at h
      exact absurd (Prod.mk.inj (Prod.mk.inj h).2).1 (by decide)
    | some g =>
      by_cases hw : wrongI ts own (l.getD h0.length zeroI) g = 0
      · cases hb : backOK ts own l (h0 ++ [g]) h0.length with
        | false =>
          rw [runH_loop hh hw hb] at h
          exact absurd (Prod.mk.inj (Prod.mk.inj h).2).1 (by decide)
        | true =>
          rw [runH_step hh hw hb] at h
          obtain ⟨i1, i2, i3⟩ := ih _ _ h
          rw [List.length_append, List.length_singleton] at i1 i2 i3
          have e0 : hs.take h0.length = h0 := by
            have := congrArg (List.take h0.length) i2
            rw [List.take_take, Nat.min_eq_left (by omega)] at this
            rw [this]
            simp
          have eg : hs.getD h0.length (0, 0) = g := by
            have := congrArg (fun l => l.getD h0.length (0, 0)) i2
            simp only [List.getD_eq_getElem?_getD, List.getElem?_take] at this
            rw [if_pos (by omega)] at this
            rw [List.getD_eq_getElem?_getD, this]
            simp
          refine ⟨by omega, e0, fun n h1 h2 => ?_⟩
          by_cases e : n = h0.length
          · subst e
            rw [e0, eg, i2]
            exact ⟨hh, hw, hb⟩
          · exact i3 n (by omega) h2
      · rw [runH_wrong hh hw] at h
        exact absurd (Prod.mk.inj (Prod.mk.inj h).2).1 hw
theorem foldl_join (r : List (Int × Int)) : ∀ h : Int × Int, (∀ g ∈ h :: r, (r.foldl joinF h).1 ≤ g.1 ∧ g.2 ≤ (r.foldl joinF h).2) ∧ (∃ g ∈ h :: r, g.1 = (r.foldl joinF h).1) ∧ (∃ g ∈ h :: r, g.2 = (r.foldl joinF h).2) := by
  induction r with
  | nil => intro h; exact ⟨fun g hg => by rw [List.mem_singleton.1 hg]; exact ⟨Int.le_refl _, Int.le_refl _⟩, ⟨h, List.mem_cons_self .., rfl⟩, ⟨h, List.mem_cons_self .., rfl⟩⟩
  | cons a r ih =>
    intro h
    obtain ⟨i1, ⟨g1, m1, e1⟩, ⟨g2, m2, e2⟩⟩ := ih (joinF h a)
    rw [List.foldl_cons]
    have hj := i1 (joinF h a) (List.mem_cons_self ..)
    refine ⟨fun g hg => ?_, ?_, ?_⟩
    · rcases List.mem_cons.1 hg with rfl | hg
      · unfold joinF at hj ⊢
        dsimp only at hj ⊢
        omega
      · rcases List.mem_cons.1 hg with rfl | hg
        · unfold joinF at hj ⊢
          dsimp only at hj ⊢
          omega
        · exact i1 g (List.mem_cons_of_mem _ hg)
    · rcases List.mem_cons.1 m1 with rfl | m1
      · by_cases hc : h.1 ≤ a.1
        · exact ⟨h, List.mem_cons_self .., by rw [← e1]; unfold joinF; dsimp only; omega⟩
        · exact ⟨a, List.mem_cons_of_mem _ (List.mem_cons_self ..), by rw [← e1]; unfold joinF; dsimp only; omega⟩
      · exact ⟨g1, List.mem_cons_of_mem _ (List.mem_cons_of_mem _ m1), e1⟩
    · rcases List.mem_cons.1 m2 with rfl | m2
      · by_cases hc : a.2 ≤ h.2
        · exact ⟨h, List.mem_cons_self .., by rw [← e2]; unfold joinF; dsimp only; omega⟩
        · exact ⟨a, List.mem_cons_of_mem _ (List.mem_cons_self ..), by rw [← e2]; unfold joinF; dsimp only; omega⟩
      · exact ⟨g2, List.mem_cons_of_mem _ (List.mem_cons_of_mem _ m2), e2⟩
theorem joinH_some {X : List (Int × Int)} {h : Int × Int} (e : joinH X = some h) : (∀ g ∈ X, h.1 ≤ g.1 ∧ g.2 ≤ h.2) ∧ (∃ g ∈ X, g.1 = h.1) ∧ (∃ g ∈ X, g.2 = h.2) := by
  cases X with
  | nil => cases e
  | cons a r =>
    obtain rfl : r.foldl joinF a = h := Option.some.inj e
    exact foldl_join r a
theorem mem_pas {g x : Int × Int} {n m : Nat} {js : List Nat} : x ∈ pas g n m js ↔ x = g ∧ m ∈ js ∧ n < m := by
  unfold pas
  rw [List.mem_map]
  constructor
  · rintro ⟨t, ht, rfl⟩
    obtain ⟨h1, h2⟩ := List.mem_filter.1 ht
    simp only [Bool.and_eq_true, beq_iff_eq, decide_eq_true_eq] at h2
    obtain ⟨rfl, h3⟩ := h2
    exact ⟨rfl, h1, h3⟩
  · rintro ⟨rfl, h1, h2⟩
    exact ⟨m, List.mem_filter.2 ⟨h1, by simp [h2]⟩, rfl⟩
theorem mem_comes {ts : List Ty} {own : Ty} {l : List Ins} {hs : List (Int × Int)} {n m : Nat} {x : Int × Int} : x ∈ comesN ts own l hs n m ↔ ∃ k, k < n ∧ x = goH ts own (l.getD k zeroI) (hs.getD k (0, 0)) ∧ m ∈ toN l k ∧ k < m := by
  unfold comesN
  rw [List.mem_flatMap]
  constructor
  · rintro ⟨k, hk, h⟩
    exact ⟨k, List.mem_range.1 hk, mem_pas.1 h⟩
  · rintro ⟨k, hk, h⟩
    exact ⟨k, List.mem_range.2 hk, mem_pas.2 h⟩
/-- Heights that are told are the assignment that is described. -/
structure Judged (ts : List Ty) (own : Ty) (l : List Ins) (hs : List (Int × Int)) : Prop where
  len : hs.length = l.length
  fine : ∀ n, n < l.length → wrongI ts own (l.getD n zeroI) (hs.getD n (0, 0)) = 0 ∧ Bnd (hs.getD n (0, 0))
  first : 0 < l.length → hs.getD 0 (0, 0) = (own.inn, own.inn)
  lows : ∀ n, 0 < n → n < l.length → ∃ k, k < n ∧ n ∈ toN l k ∧ (goH ts own (l.getD k zeroI) (hs.getD k (0, 0))).1 = (hs.getD n (0, 0)).1
  highs : ∀ n, 0 < n → n < l.length → ∃ k, k < n ∧ n ∈ toN l k ∧ (goH ts own (l.getD k zeroI) (hs.getD k (0, 0))).2 = (hs.getD n (0, 0)).2
  ahead : ∀ k n, n < l.length → k < n → n ∈ toN l k → (hs.getD n (0, 0)).1 ≤ (goH ts own (l.getD k zeroI) (hs.getD k (0, 0))).1 ∧ (goH ts own (l.getD k zeroI) (hs.getD k (0, 0))).2 ≤ (hs.getD n (0, 0)).2
  back : ∀ k n, k < l.length → n ≤ k → n ∈ toN l k → hs.getD n (0, 0) = goH ts own (l.getD k zeroI) (hs.getD k (0, 0))
theorem take_getD {α : Type} {l : List α} {n k : Nat} {d : α} (h : k < n) : (l.take n).getD k d = l.getD k d := by
  rw [List.getD_eq_getElem?_getD, List.getElem?_take, if_pos h, ← List.getD_eq_getElem?_getD]
theorem judged_of {ts : List Ty} {s : Int} {bs : List Int} {hs : List (Int × Int)} (hz : ∀ z ∈ bs, 0 ≤ z ∧ z < 256) (h : heightsE ts s bs = (hs, 0, 0)) : mayB ts s bs = true ∧ Judged ts (tyAt ts s) (allI bs) hs := by
  have hm : mayB ts s bs = true := by
    rcases heightsE_shape ts s bs with ⟨_, e⟩ | ⟨hm, _⟩ | ⟨hm, _⟩
    · rw [e] at h
      exact absurd (Prod.mk.inj (Prod.mk.inj h).2).1 (by decide)
    · exact hm
    · exact hm
  refine ⟨hm, ?_⟩
  obtain ⟨m1, m2, m3, m4, m5⟩ := may_parts hm
  have ho : tyOK (tyAt ts s) = true := tyOK_at m3 s
  have hob := tyOK_iff ho
  obtain ⟨q, hq, _⟩ := allI_reads bs
  have hib : ∀ n, ∀ z ∈ ((allI bs).getD n zeroI).imm, 0 ≤ z ∧ z < 256 := fun n => getD_all (P := fun i : Ins => ∀ z ∈ i.imm, 0 ≤ z ∧ z < 256) (fun z hz => by cases hz) (fun i hi => reads_bytes hz hq i hi) n
  unfold heightsE at h
  rw [if_pos hm] at h
  obtain ⟨h1, _, h3⟩ := runH_steps _ _ _ h
  rw [List.length_nil, Nat.zero_add] at h1
  have hhead : ∀ n, n < (allI bs).length → headH ts (tyAt ts s) (allI bs) (hs.take n) n = some (hs.getD n (0, 0)) := fun n hn => (h3 n (Nat.zero_le _) (by omega)).1
  have hwr : ∀ n, n < (allI bs).length → wrongI ts (tyAt ts s) ((allI bs).getD n zeroI) (hs.getD n (0, 0)) = 0 := fun n hn => (h3 n (Nat.zero_le _) (by omega)).2.1
  have hfirst : 0 < (allI bs).length → hs.getD 0 (0, 0) = ((tyAt ts s).inn, (tyAt ts s).inn) := fun h0 => by
    have := hhead 0 h0
    unfold headH at this
    rw [if_pos rfl] at this
    exact (Option.some.inj this).symm
  have hjoin : ∀ n, 0 < n → n < (allI bs).length → (∀ k, k < n → n ∈ toN (allI bs) k → (hs.getD n (0, 0)).1 ≤ (goH ts (tyAt ts s) ((allI bs).getD k zeroI) (hs.getD k (0, 0))).1 ∧ (goH ts (tyAt ts s) ((allI bs).getD k zeroI) (hs.getD k (0, 0))).2 ≤ (hs.getD n (0, 0)).2) ∧
      (∃ k, k < n ∧ n ∈ toN (allI bs) k ∧ (goH ts (tyAt ts s) ((allI bs).getD k zeroI) (hs.getD k (0, 0))).1 = (hs.getD n (0, 0)).1) ∧ (∃ k, k < n ∧ n ∈ toN (allI bs) k ∧ (goH ts (tyAt ts s) ((allI bs).getD k zeroI) (hs.getD k (0, 0))).2 = (hs.getD n (0, 0)).2) := fun n h0 hn => by
    have := hhead n hn
    unfold headH at this
    rw [if_neg (by omega)] at this
    obtain ⟨j1, ⟨g1, w1, e1⟩, ⟨g2, w2, e2⟩⟩ := joinH_some this
    obtain ⟨k1, a1, b1, c1, _⟩ := mem_comes.1 w1
    obtain ⟨k2, a2, b2, c2, _⟩ := mem_comes.1 w2
    rw [take_getD a1] at b1
    rw [take_getD a2] at b2
    refine ⟨fun k hk ht => ?_, ⟨k1, a1, c1, by rw [← b1]; exact e1⟩, ⟨k2, a2, c2, by rw [← b2]; exact e2⟩⟩
    have := j1 _ (mem_comes.2 ⟨k, hk, rfl, ht, hk⟩)
    rwa [take_getD hk] at this
  have hbnd : ∀ n, n < (allI bs).length → Bnd (hs.getD n (0, 0)) := by
    intro n
    induction n using Nat.strongRecOn with
    | _ n ih =>
      intro hn
      by_cases e : n = 0
      · subst e
        rw [hfirst hn]
        unfold Bnd
        omega
      · obtain ⟨j1, ⟨k1, a1, c1, e1⟩, ⟨k2, a2, c2, e2⟩⟩ := hjoin n (by omega) hn
        have b1 := goH_bnd m3 ho (hib k1) (ih k1 a1 (by omega)) (hwr k1 (by omega))
        have b2 := goH_bnd m3 ho (hib k2) (ih k2 a2 (by omega)) (hwr k2 (by omega))
        have j2 := j1 k1 a1 c1
        unfold Bnd at *
        omega
  refine ⟨h1, fun n hn => ⟨hwr n hn, hbnd n hn⟩, hfirst, fun n h0 hn => (hjoin n h0 hn).2.1, fun n h0 hn => (hjoin n h0 hn).2.2, fun k n hn hk ht => (hjoin n (by omega) hn).1 k hk ht, fun k n hk hn ht => ?_⟩
  have := (h3 k (Nat.zero_le _) (by omega)).2.2
  unfold backOK at this
  have h5 := List.all_eq_true.1 this n ht
  simp only [Bool.or_eq_true, decide_eq_true_eq, beq_iff_eq] at h5
  rw [take_getD (by omega), take_getD (by omega)] at h5
  exact h5.resolve_left (by omega)
/-- Where a way leads, there is an instruction. -/
theorem toN_place {bs : List Int} {n : Nat} (hc : (checkE bs (allI bs)).1 = 0) (hn : n < (allI bs).length) :
    ((opR ((allI bs).getD n zeroI).code).ends = false → n + 1 < (allI bs).length ∧ ((allI bs).getD (n + 1) zeroI).at_ = ((allI bs).getD n zeroI).next) ∧ ∀ t ∈ leadsI ((allI bs).getD n zeroI), idxI (allI bs) t < (allI bs).length ∧ ((allI bs).getD (idxI (allI bs) t) zeroI).at_ = t := by
  obtain ⟨hs, hg⟩ := check_parts hc
  obtain ⟨q, hq, _⟩ := allI_reads bs
  have hm : (allI bs).getD n zeroI ∈ allI bs := by rw [List.getD_eq_getElem?_getD, List.getElem?_eq_getElem hn]; exact List.getElem_mem hn
  refine ⟨fun he => ?_, fun t ht => good_idx (hg _ hm t ht)⟩
  have hnx := next_there hs hn he
  refine ⟨hnx, ?_⟩
  have hsplit : allI bs = ((allI bs).take n ++ [(allI bs).getD n zeroI]) ++ (allI bs).getD (n + 1) zeroI :: (allI bs).drop (n + 2) := by
    have e1 : (allI bs).getD n zeroI = (allI bs)[n] := by rw [List.getD_eq_getElem?_getD, List.getElem?_eq_getElem hn]; rfl
    have e2 : (allI bs).getD (n + 1) zeroI = (allI bs)[n + 1] := by rw [List.getD_eq_getElem?_getD, List.getElem?_eq_getElem hnx]; rfl
    rw [e1, e2, List.append_assoc]
    conv => lhs; rw [← List.take_append_drop n (allI bs), List.drop_eq_getElem_cons hn, List.drop_eq_getElem_cons hnx]
    rfl
  rw [hsplit] at hq
  obtain ⟨p, r1, r2⟩ := reads_take _ hq
  have e3 := reads_next r1
  rw [nextOf_snoc] at e3
  rw [← e3]
  exact (read_next r2).2.2.2.1
end Vouch
