/- flow.Heights' inner function: what one instruction passes on to another. -/
import Derived.Test.YtfjmdffhfjnopaaDoorFlowC
import Derived.Test.YtfjmdffhfjnopaaDoorGen
import Derived.Deep.QuietTactic
import Derived.BigQuiet
namespace Go.Proofs.YtfjmdffhfjnopaaDoor
open Go.RowKit Vouch Go.Vk Go.Sort
def spRow (hv : List (Int × Int)) : List Value := hv.flatMap fun h => [.int .i64 h.1, .int .i64 h.2]
def boolRow (mt : List Bool) : List Value := mt.map .bool
theorem spRow_cons (h : Int × Int) (r : List (Int × Int)) : spRow (h :: r) = .int .i64 h.1 :: .int .i64 h.2 :: spRow r := rfl
theorem spRow_length (hv : List (Int × Int)) : (spRow hv).length = hv.length * 2 := by
  induction hv with
  | nil => rfl
  | cons h r ih => rw [spRow_cons, List.length_cons, List.length_cons, ih, List.length_cons]; omega
theorem spRow_at : ∀ {hv : List (Int × Int)} {k : Nat}, k < hv.length → (spRow hv)[k * 2]? = some (.int .i64 (hv.getD k (0, 0)).1) ∧ (spRow hv)[k * 2 + 1]? = some (.int .i64 (hv.getD k (0, 0)).2)
  | [], _, h => by simp at h
  | h :: r, 0, _ => by simp [spRow_cons]
  | h :: r, k + 1, hk => by
    have := spRow_at (hv := r) (k := k) (by simpa using hk)
    rw [spRow_cons, show (k + 1) * 2 = k * 2 + 1 + 1 by omega, show k * 2 + 1 + 1 + 1 = (k * 2 + 1) + 1 + 1 by omega]
    simpa using this
theorem spRow_set : ∀ {hv : List (Int × Int)} {k : Nat} (g : Int × Int), k < hv.length → ((spRow hv).set (k * 2) (.int .i64 g.1)).set (k * 2 + 1) (.int .i64 g.2) = spRow (hv.set k g)
  | [], _, _, h => by simp at h
  | h :: r, 0, g, _ => by simp [spRow_cons]
  | h :: r, k + 1, g, hk => by
    have := spRow_set (hv := r) (k := k) g (by simpa using hk)
    rw [spRow_cons, List.set_cons_succ, spRow_cons, ← this, show (k + 1) * 2 = k * 2 + 1 + 1 by omega, show k * 2 + 1 + 1 + 1 = (k * 2 + 1) + 1 + 1 by omega]
    simp
/-- The heights so far, and which there are. -/
structure StAt (w : World) (nb hc gb qc H Q N n : Nat) (g : Int × Int) (hv : List (Int × Int)) (mt : List Bool) : Prop where
  cn : w.heap[nb]? = some (.cells #[.int .i64 n] 3 (0, 0))
  ch : w.heap[hc]? = some (.cells #[.slice (some ⟨H, 0, none⟩) N N] 70 (0, 0))
  cg : w.heap[gb]? = some (.cells #[.int .i64 g.1, .int .i64 g.2] 75 (0, 0))
  cq : w.heap[qc]? = some (.cells #[.slice (some ⟨Q, 0, none⟩) N N] 36 (0, 0))
  rh : w.heap[H]? = some (.cells (spRow hv).toArray 75 (0, 0))
  rq : w.heap[Q]? = some (.cells (boolRow mt).toArray 4 (0, 0))
  lh : hv.length = N
  lq : mt.length = N
def passH (hv : List (Int × Int)) (mt : List Bool) (k : Nat) (g : Int × Int) : List (Int × Int) := hv.set k (if mt.getD k false = true then joinF (hv.getD k (0, 0)) g else g)
theorem heap_setN {w : World} {g e : Nat} {l : List Value} (h : w.heap[g]? = some (.cells l.toArray e (0, 0))) (k : Nat) (v : Value) : (w.setCell ⟨g, k, none⟩ v).heap[g]? = some (.cells (l.set k v).toArray e (0, 0)) := by
  rw [setCell_eq_setRow w g k _ e (0, 0) v h]
  have := setRow_heap w g l.toArray ((l.toArray).setIfInBounds k v) e (0, 0) h
  simpa using this
theorem heap_set2 {w : World} {g e : Nat} {l : List Value} (h : w.heap[g]? = some (.cells l.toArray e (0, 0))) (k k' : Nat) (v v' : Value) : ((w.setCell ⟨g, k, none⟩ v).setCell ⟨g, k', none⟩ v').heap[g]? = some (.cells ((l.set k v).set k' v').toArray e (0, 0)) := heap_setN (heap_setN h k v) k' v'
theorem set_same {mt : List Bool} {t : Nat} (h : t < mt.length) (hm : mt.getD t false = true) : mt.set t true = mt := by
  refine List.ext_getElem? fun j => ?_
  by_cases e : t = j
  · subst e
    rw [List.getElem?_set_self h]
    rw [List.getD_eq_getElem?_getD, List.getElem?_eq_getElem h] at hm
    rw [List.getElem?_eq_getElem h]
    congr 1
    exact hm.symm
  · rw [List.getElem?_set_ne e]
/-- What stays: all but the two rows. -/
def KeepHQ (H Q : Nat) (w w' : World) : Prop := w'.heap.size = w.heap.size ∧ ∀ k, k ≠ H → k ≠ Q → w'.heap[k]? = w.heap[k]?
set_option maxHeartbeats 2000000 in
set_option maxRecDepth 100000 in
theorem passBack_any (nb hc gb qc H Q N n t : Nat) (g : Int × Int) (hv : List (Int × Int)) (mt : List Bool) (w : World) (hs : StAt w nb hc gb qc H Q N n g hv mt) (ht : t < N) (hle : t ≤ n) (_hN : N ≤ 100000000) :
    Calls Tryd.prog 39 #[.int .i64 t, .pointer (some ⟨nb, 0, none⟩), .pointer (some ⟨hc, 0, none⟩), .pointer (some ⟨gb, 0, none⟩), .pointer (some ⟨qc, 0, none⟩)] w fun e w' => e = .returned (.bool (decide (hv.getD t (0, 0) = g))) ∧ ∃ d, w' = w.drewN d := by
  obtain ⟨a0, a1⟩ := cell_of1 hs.cn
  obtain ⟨b0, b1⟩ := cell_of1 hs.ch
  obtain ⟨c0, c1, cf⟩ := cells2 hs.cg
  obtain ⟨h0, h1⟩ := spRow_at (hv := hv) (k := t) (by rw [hs.lh]; exact ht)
  have d0 : w.cell? ⟨H, t * 2, none⟩ = some (.int .i64 (hv.getD t (0, 0)).1) := by simp only [World.cell?, hs.rh]; simpa using h0
  have d1 : w.cell? ⟨H, t * 2 + 1, none⟩ = some (.int .i64 (hv.getD t (0, 0)).2) := by simp only [World.cell?, hs.rh]; simpa using h1
  generalize hv.getD t (0, 0) = v at d0 d1 ⊢
  have hti : (t : Int) < (N : Int) := by omega
  have hle2 : (t : Int) ≤ (n : Int) := by omega
  clear hs h0 h1
  obtain ⟨v1, v2⟩ := v
  obtain ⟨g1, g2⟩ := g
  dsimp only at *
  obtain ⟨r, hr⟩ : ∃ r, decide ((v1, v2) = (g1, g2)) = r := ⟨_, rfl⟩
  rw [hr]
  have HR := Lib.hid hr
  clear hr
  go_enter Tryd.func39, Tryd.ntmps39
  by_cases e1 : v1 = g1
  · by_cases e2 : v2 = g2
    · obtain rfl : true = r := by rw [← HR.out]; simp [e1, e2]
      subst e1 e2
      clear HR
      go_wp2
      go_quiet (fail)
      go_wp2
      refine bodyPost_ret (results_tmp rfl _ _ _) rfl ⟨rfl, ?_⟩
      exact ⟨_, rfl⟩
    · obtain rfl : false = r := by rw [← HR.out]; simp [e2]
      have f2 : (v2 == g2) = false := by rw [beq_eq_false_iff_ne]; exact e2
      subst e1
      clear HR e2
      go_wp2
      go_quiet (fail)
      go_wp2
      refine bodyPost_ret (results_tmp rfl _ _ _) rfl ⟨rfl, ?_⟩
      exact ⟨_, rfl⟩
  · obtain rfl : false = r := by rw [← HR.out]; simp [e1]
    have f2 : (v1 == g1) = false := by rw [beq_eq_false_iff_ne]; exact e1
    clear HR e1
    go_wp2
    go_quiet (fail)
    go_wp2
    refine bodyPost_ret (results_tmp rfl _ _ _) rfl ⟨rfl, ?_⟩
    exact ⟨_, rfl⟩
set_option maxHeartbeats 2000000 in
set_option maxRecDepth 100000 in
theorem passOn_any (nb hc gb qc H Q N n t : Nat) (g : Int × Int) (hv : List (Int × Int)) (mt : List Bool) (w : World) (hs : StAt w nb hc gb qc H Q N n g hv mt) (ht : t < N) (hlt : n < t) (_hN : N ≤ 100000000) (hHQ : H ≠ Q) (_hH : H ≠ nb ∧ H ≠ hc ∧ H ≠ gb ∧ H ≠ qc) (_hQ : Q ≠ nb ∧ Q ≠ hc ∧ Q ≠ gb ∧ Q ≠ qc) :
    Calls Tryd.prog 39 #[.int .i64 t, .pointer (some ⟨nb, 0, none⟩), .pointer (some ⟨hc, 0, none⟩), .pointer (some ⟨gb, 0, none⟩), .pointer (some ⟨qc, 0, none⟩)] w fun e w' => e = .returned (.bool true) ∧ KeepHQ H Q w w' ∧ w'.heap[H]? = some (.cells (spRow (passH hv mt t g)).toArray 75 (0, 0)) ∧ w'.heap[Q]? = some (.cells (boolRow (mt.set t true)).toArray 4 (0, 0)) ∧ Below 0 w w' := by
  obtain ⟨a0, a1⟩ := cell_of1 hs.cn
  obtain ⟨b0, b1⟩ := cell_of1 hs.ch
  obtain ⟨c0, c1, cf⟩ := cells2 hs.cg
  obtain ⟨e0, e1⟩ := cell_of1 hs.cq
  obtain ⟨h0, h1⟩ := spRow_at (hv := hv) (k := t) (by rw [hs.lh]; exact ht)
  have d0 : w.cell? ⟨H, t * 2, none⟩ = some (.int .i64 (hv.getD t (0, 0)).1) := by simp only [World.cell?, hs.rh]; simpa using h0
  have d1 : w.cell? ⟨H, t * 2 + 1, none⟩ = some (.int .i64 (hv.getD t (0, 0)).2) := by simp only [World.cell?, hs.rh]; simpa using h1
  have df : ∀ o, w.frozen? ⟨H, o, none⟩ = false := fun o => by simp [World.frozen?, hs.rh]
  have m0 : w.cell? ⟨Q, t, none⟩ = some (.bool (mt.getD t false)) := by
    have hl : t < mt.length := by rw [hs.lq]; exact ht
    simp only [World.cell?, hs.rq]
    rw [List.getElem?_toArray]
    unfold boolRow
    rw [List.getElem?_map, List.getElem?_eq_getElem hl, List.getD_eq_getElem?_getD, List.getElem?_eq_getElem hl]
    rfl
  have mf : ∀ o, w.frozen? ⟨Q, o, none⟩ = false := fun o => by simp [World.frozen?, hs.rq]
  have HS := Lib.hid hs
  have hti : (t : Int) < (N : Int) := by omega
  have hlt2 : ¬ (t : Int) ≤ (n : Int) := by omega
  have hl2 : (spRow hv).length = N * 2 := by rw [spRow_length, hs.lh]
  obtain ⟨g1, g2⟩ := g
  cases hm : mt.getD t false with
  | true =>
    rw [hm] at m0
    have hP : passH hv mt t (g1, g2) = hv.set t (min (hv.getD t (0, 0)).1 g1, max (hv.getD t (0, 0)).2 g2) := by unfold passH joinF; rw [if_pos hm]
    have HP := Lib.hid hP
    have HM := Lib.hid hm
    clear hs h0 h1 hP hm
    generalize (hv.getD t (0, 0)).1 = v1 at d0 HP
    generalize (hv.getD t (0, 0)).2 = v2 at d1 HP
    dsimp only at *
    go_enter Tryd.func39, Tryd.ntmps39
    go_wp2
    refine (wpIn_wide (n := 8)).1 ?_
    refine wpIn_region_last (vals := fun j => ([.slice (some ⟨H, 0, none⟩) N N, .int .i64 t, .slice (some ⟨H, 0, none⟩) N N, .int .i64 t, .pointer (some ⟨H, t * 2, none⟩), .pointer (some ⟨H, t * 2, none⟩), .int .i64 v1, .pointer (some ⟨gb, 0, none⟩), .int .i64 g1, .int .i64 (min v1 g1), .slice (some ⟨H, 0, none⟩) N N, .int .i64 t, .pointer (some ⟨H, t * 2, none⟩), .pointer (some ⟨H, t * 2 + 1, none⟩), .int .i64 v2, .pointer (some ⟨gb, 1, none⟩), .int .i64 g2, .int .i64 (max v2 g2), .agg #[.int .i64 (min v1 g1), .int .i64 (max v2 g2)], .pointer (some ⟨H, t * 2, none⟩), undef] : List Value).getD j undef) (wB := (w.drew.setCell ⟨H, t * 2, none⟩ (.int .i64 (min v1 g1))).setCell ⟨H, t * 2 + 1, none⟩ (.int .i64 (max v2 g2))) 20 (by kernel_rfl) (by kernel_rfl) (by kernel_rfl) (by kernel_rfl) (by kernel_rfl) rfl (by kernel_rfl) (fun i o hi ho ρ hr => ?_) (fun o ho ρ hr => ?_) ?_
    · rcases (show i = 0 ∨ i = 1 ∨ i = 2 ∨ i = 3 ∨ i = 4 ∨ i = 5 ∨ i = 6 ∨ i = 7 ∨ i = 8 ∨ i = 9 ∨ i = 10 ∨ i = 11 ∨ i = 12 ∨ i = 13 ∨ i = 14 ∨ i = 15 ∨ i = 16 ∨ i = 17 ∨ i = 18 ∨ i = 19 by omega) with rfl | rfl | rfl | rfl | rfl | rfl | rfl | rfl | rfl | rfl | rfl | rfl | rfl | rfl | rfl | rfl | rfl | rfl | rfl | rfl
      · change (_ : List Oper)[0]? = some o at ho
        simp only [List.getElem?_cons_zero, Option.some.injEq] at ho
        subst ho
        have e2 : ρ (.tmp 2) = .pointer (some ⟨hc, 0, none⟩) := hr.rest 2 (by kernel_rfl)
        exact ⟨rfl, .inl (by go_simp)⟩
      · change (_ : List Oper)[1]? = some o at ho
        simp only [List.getElem?_cons_succ, List.getElem?_cons_zero, Option.some.injEq] at ho
        subst ho
        have e0 : ρ (.tmp 0) = .int .i64 t := hr.rest 0 (by kernel_rfl)
        exact ⟨rfl, .inl (by go_simp)⟩
      · change (_ : List Oper)[2]? = some o at ho
        simp only [List.getElem?_cons_succ, List.getElem?_cons_zero, Option.some.injEq] at ho
        subst ho
        have e2 : ρ (.tmp 2) = .pointer (some ⟨hc, 0, none⟩) := hr.rest 2 (by kernel_rfl)
        exact ⟨rfl, .inl (by go_simp)⟩
      · change (_ : List Oper)[3]? = some o at ho
        simp only [List.getElem?_cons_succ, List.getElem?_cons_zero, Option.some.injEq] at ho
        subst ho
        have e0 : ρ (.tmp 0) = .int .i64 t := hr.rest 0 (by kernel_rfl)
        exact ⟨rfl, .inl (by go_simp)⟩
      · change (_ : List Oper)[4]? = some o at ho
        simp only [List.getElem?_cons_succ, List.getElem?_cons_zero, Option.some.injEq] at ho
        subst ho
        have e9 : ρ (.tmp 9) = .slice (some ⟨H, 0, none⟩) N N := hr.deps ⟨2, .data⟩ (by simp) rfl _ _ rfl rfl
        have e10 : ρ (.tmp 10) = .int .i64 t := hr.deps ⟨3, .data⟩ (by simp) rfl _ _ rfl rfl
        exact ⟨rfl, .inl (by go_simp)⟩
      · change (_ : List Oper)[5]? = some o at ho
        simp only [List.getElem?_cons_succ, List.getElem?_cons_zero, Option.some.injEq] at ho
        subst ho
        have e11 : ρ (.tmp 11) = .pointer (some ⟨H, t * 2, none⟩) := hr.deps ⟨4, .data⟩ (by simp) rfl _ _ rfl rfl
        exact ⟨rfl, .inl (by go_simp)⟩
      · change (_ : List Oper)[6]? = some o at ho
        simp only [List.getElem?_cons_succ, List.getElem?_cons_zero, Option.some.injEq] at ho
        subst ho
        have e12 : ρ (.tmp 12) = .pointer (some ⟨H, t * 2, none⟩) := hr.deps ⟨5, .data⟩ (by simp) rfl _ _ rfl rfl
        exact ⟨rfl, .inl (by go_simp)⟩
      · change (_ : List Oper)[7]? = some o at ho
        simp only [List.getElem?_cons_succ, List.getElem?_cons_zero, Option.some.injEq] at ho
        subst ho
        have e3 : ρ (.tmp 3) = .pointer (some ⟨gb, 0, none⟩) := hr.rest 3 (by kernel_rfl)
        exact ⟨rfl, .inl (by go_simp)⟩
      · change (_ : List Oper)[8]? = some o at ho
        simp only [List.getElem?_cons_succ, List.getElem?_cons_zero, Option.some.injEq] at ho
        subst ho
        have e14 : ρ (.tmp 14) = .pointer (some ⟨gb, 0, none⟩) := hr.deps ⟨7, .data⟩ (by simp) rfl _ _ rfl rfl
        exact ⟨rfl, .inl (by go_simp)⟩
      · change (_ : List Oper)[9]? = some o at ho
        simp only [List.getElem?_cons_succ, List.getElem?_cons_zero, Option.some.injEq] at ho
        subst ho
        have e13 : ρ (.tmp 13) = .int .i64 v1 := hr.deps ⟨6, .data⟩ (by simp) rfl _ _ rfl rfl
        have e15 : ρ (.tmp 15) = .int .i64 g1 := hr.deps ⟨8, .data⟩ (by simp) rfl _ _ rfl rfl
        exact ⟨rfl, .inl (by go_simp)⟩
      · change (_ : List Oper)[10]? = some o at ho
        simp only [List.getElem?_cons_succ, List.getElem?_cons_zero, Option.some.injEq] at ho
        subst ho
        have e2 : ρ (.tmp 2) = .pointer (some ⟨hc, 0, none⟩) := hr.rest 2 (by kernel_rfl)
        exact ⟨rfl, .inl (by go_simp)⟩
      · change (_ : List Oper)[11]? = some o at ho
        simp only [List.getElem?_cons_succ, List.getElem?_cons_zero, Option.some.injEq] at ho
        subst ho
        have e0 : ρ (.tmp 0) = .int .i64 t := hr.rest 0 (by kernel_rfl)
        exact ⟨rfl, .inl (by go_simp)⟩
      · change (_ : List Oper)[12]? = some o at ho
        simp only [List.getElem?_cons_succ, List.getElem?_cons_zero, Option.some.injEq] at ho
        subst ho
        have e17 : ρ (.tmp 17) = .slice (some ⟨H, 0, none⟩) N N := hr.deps ⟨10, .data⟩ (by simp) rfl _ _ rfl rfl
        have e18 : ρ (.tmp 18) = .int .i64 t := hr.deps ⟨11, .data⟩ (by simp) rfl _ _ rfl rfl
        exact ⟨rfl, .inl (by go_simp)⟩
      · change (_ : List Oper)[13]? = some o at ho
        simp only [List.getElem?_cons_succ, List.getElem?_cons_zero, Option.some.injEq] at ho
        subst ho
        have e19 : ρ (.tmp 19) = .pointer (some ⟨H, t * 2, none⟩) := hr.deps ⟨12, .data⟩ (by simp) rfl _ _ rfl rfl
        exact ⟨rfl, .inl (by go_simp)⟩
      · change (_ : List Oper)[14]? = some o at ho
        simp only [List.getElem?_cons_succ, List.getElem?_cons_zero, Option.some.injEq] at ho
        subst ho
        have e20 : ρ (.tmp 20) = .pointer (some ⟨H, t * 2 + 1, none⟩) := hr.deps ⟨13, .data⟩ (by simp) rfl _ _ rfl rfl
        exact ⟨rfl, .inl (by go_simp)⟩
      · change (_ : List Oper)[15]? = some o at ho
        simp only [List.getElem?_cons_succ, List.getElem?_cons_zero, Option.some.injEq] at ho
        subst ho
        have e3 : ρ (.tmp 3) = .pointer (some ⟨gb, 0, none⟩) := hr.rest 3 (by kernel_rfl)
        exact ⟨rfl, .inl (by go_simp)⟩
      · change (_ : List Oper)[16]? = some o at ho
        simp only [List.getElem?_cons_succ, List.getElem?_cons_zero, Option.some.injEq] at ho
        subst ho
        have e22 : ρ (.tmp 22) = .pointer (some ⟨gb, 1, none⟩) := hr.deps ⟨15, .data⟩ (by simp) rfl _ _ rfl rfl
        exact ⟨rfl, .inl (by go_simp)⟩
      · change (_ : List Oper)[17]? = some o at ho
        simp only [List.getElem?_cons_succ, List.getElem?_cons_zero, Option.some.injEq] at ho
        subst ho
        have e21 : ρ (.tmp 21) = .int .i64 v2 := hr.deps ⟨14, .data⟩ (by simp) rfl _ _ rfl rfl
        have e23 : ρ (.tmp 23) = .int .i64 g2 := hr.deps ⟨16, .data⟩ (by simp) rfl _ _ rfl rfl
        exact ⟨rfl, .inl (by go_simp)⟩
      · change (_ : List Oper)[18]? = some o at ho
        simp only [List.getElem?_cons_succ, List.getElem?_cons_zero, Option.some.injEq] at ho
        subst ho
        have e16 : ρ (.tmp 16) = .int .i64 (min v1 g1) := hr.deps ⟨9, .data⟩ (by simp) rfl _ _ rfl rfl
        have e24 : ρ (.tmp 24) = .int .i64 (max v2 g2) := hr.deps ⟨17, .data⟩ (by simp) rfl _ _ rfl rfl
        exact ⟨rfl, .inl (by go_simp)⟩
      · change (_ : List Oper)[19]? = some o at ho
        simp only [List.getElem?_cons_succ, List.getElem?_cons_zero, Option.some.injEq] at ho
        subst ho
        have e7 : ρ (.tmp 7) = .slice (some ⟨H, 0, none⟩) N N := hr.deps ⟨0, .data⟩ (by simp) rfl _ _ rfl rfl
        have e8 : ρ (.tmp 8) = .int .i64 t := hr.deps ⟨1, .data⟩ (by simp) rfl _ _ rfl rfl
        exact ⟨rfl, .inl (by go_simp)⟩
    · change (_ : List Oper)[20]? = some o at ho
      simp only [List.getElem?_cons_succ, List.getElem?_cons_zero, Option.some.injEq] at ho
      subst ho
      have e26 : ρ (.tmp 26) = .pointer (some ⟨H, t * 2, none⟩) := hr.deps ⟨19, .data⟩ (by simp) rfl _ _ rfl rfl
      have e25 : ρ (.tmp 25) = .agg #[.int .i64 (min v1 g1), .int .i64 (max v2 g2)] := hr.deps ⟨18, .data⟩ (by simp) rfl _ _ rfl rfl
      exact ⟨rfl, .inr ⟨by go_simp, rfl⟩⟩
    · intro listed a3 _ hJ3
      obtain ⟨tm, df⟩ := a3
      obtain rfl : df = [] := hJ3.defers
      obtain ⟨u, hu, ha⟩ := frame_open (a := { tmps := tm, defers := [] }) (n := 50) hJ3.size
      dsimp only at hu ha
      have ha2 : tm = #[u 0, u 1, u 2, u 3, u 4, u 5, u 6, u 7, u 8, u 9, u 10, u 11, u 12, u 13, u 14, u 15, u 16, u 17, u 18, u 19, u 20, u 21, u 22, u 23, u 24, u 25, u 26, u 27, u 28, u 29, u 30, u 31, u 32, u 33, u 34, u 35, u 36, u 37, u 38, u 39, u 40, u 41, u 42, u 43, u 44, u 45, u 46, u 47, u 48, u 49] := (Act.mk.inj ha).1
      clear hJ3 hu ha
      subst ha2
      go_wp2
      refine bodyPost_ret (results_tmp rfl _ _ _) rfl ⟨rfl, ?_⟩
      have e1 : ((w.drew.setCell ⟨H, t * 2, none⟩ (.int .i64 (min v1 g1))).setCell ⟨H, t * 2 + 1, none⟩ (.int .i64 (max v2 g2))).heap[H]? = some (.cells (spRow (passH hv mt t (g1, g2))).toArray 75 (0, 0)) := by
        rw [HP.out, ← spRow_set (min v1 g1, max v2 g2) (by rw [HS.out.lh]; exact ht)]
        exact heap_set2 (show w.drew.heap[H]? = _ from HS.out.rh) _ _ _ _
      refine ⟨⟨by simp, fun k h1 h2 => (heap_setKeep _ h1 _).trans ((heap_setKeep _ h1 _).trans rfl)⟩, e1, ?_, ((Below.refl 0 w).drew.setCell (Nat.zero_le _) _).setCell (Nat.zero_le _) _⟩
      rw [set_same (by rw [HS.out.lq]; exact ht) HM.out]
      exact (heap_setKeep _ (fun e => hHQ e.symm) _).trans ((heap_setKeep _ (fun e => hHQ e.symm) _).trans HS.out.rq)
  | false =>
    rw [hm] at m0
    have hP : passH hv mt t (g1, g2) = hv.set t (g1, g2) := by unfold passH; rw [if_neg (by rw [hm]; decide)]
    have HP := Lib.hid hP
    have HM := Lib.hid hm
    clear hs h0 h1 hP hm
    generalize (hv.getD t (0, 0)).1 = v1 at d0
    generalize (hv.getD t (0, 0)).2 = v2 at d1
    dsimp only at *
    go_enter Tryd.func39, Tryd.ntmps39
    go_wp2
    refine (wpIn_wide (n := 8)).1 ?_
    refine wpIn_region_chain (vals := fun j => ([.slice (some ⟨H, 0, none⟩) N N, .int .i64 t, .slice (some ⟨Q, 0, none⟩) N N, .int .i64 t, .agg #[.int .i64 g1, .int .i64 g2], .pointer (some ⟨H, t * 2, none⟩), undef, .pointer (some ⟨Q, t, none⟩), undef] : List Value).getD j undef) (fun k => ([w.drew, (w.drew.setCell ⟨H, t * 2, none⟩ (.int .i64 g1)).setCell ⟨H, t * 2 + 1, none⟩ (.int .i64 g2), ((w.drew.setCell ⟨H, t * 2, none⟩ (.int .i64 g1)).setCell ⟨H, t * 2 + 1, none⟩ (.int .i64 g2)).setCell ⟨Q, t, none⟩ (.bool true)] : List World).getD k default) [6, 8] 1 (by kernel_rfl) (by kernel_rfl) (by kernel_rfl) (by kernel_rfl) ?hlt rfl (by kernel_rfl) (by kernel_rfl) (by kernel_rfl) (by kernel_rfl) rfl (fun i o hi ho k hk ρ hr => ?_) (fun j o hj ho ρ hr => ?_) ?_
    case hlt => kernel_rfl
    · have hil : i < 9 := (List.getElem?_eq_some_iff.1 ho).1
      have hi0 : 6 ≠ i := hi 0 (by omega)
      have hi1 : 8 ≠ i := hi 1 (by omega)
      rcases (show i = 0 ∨ i = 1 ∨ i = 2 ∨ i = 3 ∨ i = 4 ∨ i = 5 ∨ i = 7 by omega) with rfl | rfl | rfl | rfl | rfl | rfl | rfl
      · change (_ : List Oper)[0]? = some o at ho
        simp only [List.getElem?_cons_zero, Option.some.injEq] at ho
        subst ho
        have e2 : ρ (.tmp 2) = .pointer (some ⟨hc, 0, none⟩) := hr.rest 2 (by kernel_rfl)
        rcases (show k = 0 ∨ k = 1 by omega) with rfl | rfl
        all_goals exact ⟨rfl, .inl (by go_simp)⟩
      · change (_ : List Oper)[1]? = some o at ho
        simp only [List.getElem?_cons_succ, List.getElem?_cons_zero, Option.some.injEq] at ho
        subst ho
        have e0 : ρ (.tmp 0) = .int .i64 t := hr.rest 0 (by kernel_rfl)
        rcases (show k = 0 ∨ k = 1 by omega) with rfl | rfl
        all_goals exact ⟨rfl, .inl (by go_simp)⟩
      · change (_ : List Oper)[2]? = some o at ho
        simp only [List.getElem?_cons_succ, List.getElem?_cons_zero, Option.some.injEq] at ho
        subst ho
        have e4 : ρ (.tmp 4) = .pointer (some ⟨qc, 0, none⟩) := hr.rest 4 (by kernel_rfl)
        rcases (show k = 0 ∨ k = 1 by omega) with rfl | rfl
        all_goals exact ⟨rfl, .inl (by go_simp)⟩
      · change (_ : List Oper)[3]? = some o at ho
        simp only [List.getElem?_cons_succ, List.getElem?_cons_zero, Option.some.injEq] at ho
        subst ho
        have e0 : ρ (.tmp 0) = .int .i64 t := hr.rest 0 (by kernel_rfl)
        rcases (show k = 0 ∨ k = 1 by omega) with rfl | rfl
        all_goals exact ⟨rfl, .inl (by go_simp)⟩
      · change (_ : List Oper)[4]? = some o at ho
        simp only [List.getElem?_cons_succ, List.getElem?_cons_zero, Option.some.injEq] at ho
        subst ho
        have e3 : ρ (.tmp 3) = .pointer (some ⟨gb, 0, none⟩) := hr.rest 3 (by kernel_rfl)
        rcases (show k = 0 ∨ k = 1 by omega) with rfl | rfl
        all_goals exact ⟨rfl, .inl (by go_simp)⟩
      · change (_ : List Oper)[5]? = some o at ho
        simp only [List.getElem?_cons_succ, List.getElem?_cons_zero, Option.some.injEq] at ho
        subst ho
        have e43 : ρ (.tmp 43) = .slice (some ⟨H, 0, none⟩) N N := hr.deps ⟨0, .data⟩ (by simp) rfl _ _ rfl rfl
        have e44 : ρ (.tmp 44) = .int .i64 t := hr.deps ⟨1, .data⟩ (by simp) rfl _ _ rfl rfl
        rcases (show k = 0 ∨ k = 1 by omega) with rfl | rfl
        all_goals exact ⟨rfl, .inl (by go_simp)⟩
      · change (_ : List Oper)[7]? = some o at ho
        simp only [List.getElem?_cons_succ, List.getElem?_cons_zero, Option.some.injEq] at ho
        subst ho
        have e45 : ρ (.tmp 45) = .slice (some ⟨Q, 0, none⟩) N N := hr.deps ⟨2, .data⟩ (by simp) rfl _ _ rfl rfl
        have e46 : ρ (.tmp 46) = .int .i64 t := hr.deps ⟨3, .data⟩ (by simp) rfl _ _ rfl rfl
        rcases (show k = 0 ∨ k = 1 by omega) with rfl | rfl
        all_goals exact ⟨rfl, .inl (by go_simp)⟩
    · rcases (show j = 0 ∨ j = 1 by omega) with rfl | rfl
      · change (_ : List Oper)[6]? = some o at ho
        simp only [List.getElem?_cons_succ, List.getElem?_cons_zero, Option.some.injEq] at ho
        subst ho
        have e48 : ρ (.tmp 48) = .pointer (some ⟨H, t * 2, none⟩) := hr.deps ⟨5, .data⟩ (by simp) rfl _ _ rfl rfl
        have e47 : ρ (.tmp 47) = .agg #[.int .i64 g1, .int .i64 g2] := hr.deps ⟨4, .data⟩ (by simp) rfl _ _ rfl rfl
        exact ⟨rfl, .inr ⟨by go_simp, rfl⟩⟩
      · change (_ : List Oper)[8]? = some o at ho
        simp only [List.getElem?_cons_succ, List.getElem?_cons_zero, Option.some.injEq] at ho
        subst ho
        have e49 : ρ (.tmp 49) = .pointer (some ⟨Q, t, none⟩) := hr.deps ⟨7, .data⟩ (by simp) rfl _ _ rfl rfl
        have hcst := hr.const
        exact ⟨rfl, .inr ⟨by go_simp, rfl⟩⟩
    · intro listed a3 _ hJ3
      obtain ⟨tm, df⟩ := a3
      obtain rfl : df = [] := hJ3.defers
      obtain ⟨u, hu, ha⟩ := frame_open (a := { tmps := tm, defers := [] }) (n := 50) hJ3.size
      dsimp only at hu ha
      have ha2 : tm = #[u 0, u 1, u 2, u 3, u 4, u 5, u 6, u 7, u 8, u 9, u 10, u 11, u 12, u 13, u 14, u 15, u 16, u 17, u 18, u 19, u 20, u 21, u 22, u 23, u 24, u 25, u 26, u 27, u 28, u 29, u 30, u 31, u 32, u 33, u 34, u 35, u 36, u 37, u 38, u 39, u 40, u 41, u 42, u 43, u 44, u 45, u 46, u 47, u 48, u 49] := (Act.mk.inj ha).1
      clear hJ3 hu ha
      subst ha2
      go_wp2
      refine bodyPost_ret (results_tmp rfl _ _ _) rfl ⟨rfl, ?_⟩
      have e1 : ((w.drew.setCell ⟨H, t * 2, none⟩ (.int .i64 g1)).setCell ⟨H, t * 2 + 1, none⟩ (.int .i64 g2)).heap[H]? = some (.cells (spRow (passH hv mt t (g1, g2))).toArray 75 (0, 0)) := by
        rw [HP.out, ← spRow_set (g1, g2) (by rw [HS.out.lh]; exact ht)]
        exact heap_set2 (show w.drew.heap[H]? = _ from HS.out.rh) _ _ _ _
      refine ⟨⟨by simp, fun k h1 h2 => (heap_setKeep _ h2 _).trans ((heap_setKeep _ h1 _).trans ((heap_setKeep _ h1 _).trans rfl))⟩, (heap_setKeep _ hHQ _).trans e1, ?_, (((Below.refl 0 w).drew.setCell (Nat.zero_le _) _).setCell (Nat.zero_le _) _).setCell (Nat.zero_le _) _⟩
      have e2 : ((w.drew.setCell ⟨H, t * 2, none⟩ (.int .i64 g1)).setCell ⟨H, t * 2 + 1, none⟩ (.int .i64 g2)).heap[Q]? = some (.cells (boolRow mt).toArray 4 (0, 0)) := (heap_setKeep _ (fun e => hHQ e.symm) _).trans ((heap_setKeep _ (fun e => hHQ e.symm) _).trans HS.out.rq)
      have e3 := heap_setN e2 t (.bool true)
      rw [show boolRow (mt.set t true) = (boolRow mt).set t (.bool true) from by unfold boolRow; rw [List.map_set]]
      exact e3
end Go.Proofs.YtfjmdffhfjnopaaDoor
