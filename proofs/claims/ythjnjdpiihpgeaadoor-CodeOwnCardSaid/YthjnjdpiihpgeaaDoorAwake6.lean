/- vouchlaw6.small, awake, cut. -/
import Derived.Test.YthjnjdpiihpgeaaDoorScan
import Derived.Laws.AppendOwnNone
namespace Vouch
theorem reads_take {bs : List Int} {l : List Ins} {i : Ins} {q : Int} : ∀ (r : List Ins), Reads bs (l ++ i :: r) q → ∃ p, Reads bs l p ∧ readE bs p = (0, i) := by
  intro r
  induction h : r.length generalizing r q with
  | zero =>
    intro hr
    obtain rfl := List.eq_nil_of_length_eq_zero h
    generalize hm : l ++ [i] = m at hr
    cases hr with
    | nil => simp at hm
    | snoc h1 h2 =>
      obtain ⟨rfl, h3⟩ := List.append_inj' hm rfl
      cases h3
      exact ⟨_, h1, h2⟩
  | succ k ih =>
    intro hr
    rcases List.eq_nil_or_concat r with rfl | ⟨r', j, rfl⟩
    · simp at h
    · rw [List.concat_eq_append] at hr h
      generalize hm : l ++ i :: (r' ++ [j]) = m at hr
      cases hr with
      | nil => simp at hm
      | snoc h1 h2 =>
        rw [show l ++ i :: (r' ++ [j]) = (l ++ i :: r') ++ [j] by simp] at hm
        obtain ⟨rfl, h3⟩ := List.append_inj' hm rfl
        exact ih r' (by simpa using h) h1
theorem reads_eq {bs : List Int} {l : List Ins} {p : Int} (h : Reads bs l p) : ∀ {l' : List Ins} {p' : Int}, Reads bs l' p' → l'.length = l.length → l' = l ∧ p' = p := by
  induction h with
  | nil =>
    intro l' p' h' hl
    obtain rfl := List.eq_nil_of_length_eq_zero (by simpa using hl)
    exact ⟨rfl, reads_next h'⟩
  | snoc h1 h2 ih =>
    intro l' p' h' hl
    cases h' with
    | nil => simp at hl
    | snoc h3 h4 =>
      obtain ⟨rfl, rfl⟩ := ih h3 (by simpa using hl)
      rw [h2] at h4
      cases h4
      exact ⟨rfl, rfl⟩
/-- Two readings to the end are one. -/
theorem reads_all {bs : List Int} {l l' : List Ins} {p p' : Int} (h : Reads bs l p) (he : (readE bs p).1 ≠ 0) (h' : Reads bs l' p') (he' : (readE bs p').1 ≠ 0) : l' = l ∧ p' = p := by
  have key : ∀ {a b : List Ins} {x y : Int}, Reads bs a x → (readE bs x).1 ≠ 0 → Reads bs b y → b.length ≤ a.length := by
    intro a b x y ha hx hb
    refine Nat.le_of_not_lt fun hlt => ?_
    obtain ⟨i, r, hir⟩ : ∃ i r, b.drop a.length = i :: r := by
      cases hd : b.drop a.length with
      | nil => have := congrArg List.length hd; simp at this; omega
      | cons i r => exact ⟨i, r, rfl⟩
    have hb2 := hb
    rw [← List.take_append_drop a.length b, hir] at hb2
    obtain ⟨q, h1, h2⟩ := reads_take r hb2
    obtain ⟨_, rfl⟩ := reads_eq ha h1 (by rw [List.length_take]; omega)
    rw [h2] at hx
    exact hx rfl
  exact reads_eq h h' (Nat.le_antisymm (key h he h') (key h' he' h))
def bs0 : List Int := [96, 7, 224, 0, 0, 0]
def is0 : List Ins := [⟨0, 96, [7], 2⟩, ⟨2, 224, [0, 0], 5⟩, ⟨5, 0, [], 6⟩]
theorem reads0 : Reads bs0 is0 6 := by
  have h1 := Reads.snoc (bs := bs0) .nil (show readE bs0 0 = (0, ⟨0, 96, [7], 2⟩) by decide +kernel)
  have h2 := Reads.snoc h1 (show readE bs0 2 = (0, ⟨2, 224, [0, 0], 5⟩) by decide +kernel)
  exact Reads.snoc h2 (show readE bs0 5 = (0, ⟨5, 0, [], 6⟩) by decide +kernel)
theorem end0 : (readE bs0 6).1 ≠ 0 := by decide +kernel
theorem scan0 : scanE bs0 is0 = (0, 0) := by decide +kernel
theorem end1 : (readE [96] 0).1 ≠ 0 := by decide +kernel
theorem scan1 : scanE [96] [] = (61, 0) := by decide +kernel
end Vouch
namespace Go.Proofs.YthjnjdpiihpgeaaDoor
open Go.RowKit Vouch Go.Vk Go.Sort
theorem ints_lit {w : World} {g : Nat} {zs : List Int} {t : TypeId} (h : w.heap[g]? = some (.cells (byteVs zs).toArray t (0, 0))) : IntsAt w .u8 (some ⟨g, 0, none⟩) zs := fun i hi => by
  refine ⟨_, rfl, ?_⟩
  rw [show (⟨g, 0, none⟩ : Addr).add i = ⟨g, i, none⟩ by unfold Addr.add; split <;> simp_all]
  simp [World.cell?, h, byteVs, List.getD_eq_getElem?_getD, List.getElem?_eq_getElem hi]
set_option maxHeartbeats 400000 in
set_option maxRecDepth 100000 in
theorem small_any (w : World) : Calls Tryd.prog 38 #[] w fun e w' => e = .returned (.slice (some ⟨w.heap.size, 0, none⟩) 6 6) ∧ w' = w.alloc (.cells (byteVs bs0).toArray 5) := by
  go_enter Tryd.func38, Tryd.ntmps38
  go_wp2
  go_ret
  exact ⟨rfl, rfl⟩
theorem scan0_out {w w' : World} {e : Ending} (h : ScanOut bs0 w e w') : ∃ g c, e = .returned (.tuple #[.slice (some ⟨g, 0, none⟩) 3 c, .int .i64 0, .int .i64 0]) ∧ w'.cell? ⟨g, 7, none⟩ = some (.int .i64 5) ∧ Below w.heap.size w w' := by
  obtain ⟨xs, ys, v, ⟨p, hp, he⟩, rfl, hown, _, _, hcase, hb⟩ := h
  obtain ⟨hx, rfl⟩ := reads_all reads0 end0 hp he
  rw [hx, scan0] at hcase ⊢
  rcases hcase with ⟨_, rfl⟩ | ⟨h0, _⟩
  · have hl : ys.length = 3 := by have := congrArg List.length hx; simpa [is0] using this
    rw [hl] at hown
    obtain ⟨X, c, rfl⟩ := owns_shape hown
    obtain ⟨g, rfl⟩ := own_head hown (by decide)
    refine ⟨g, c, rfl, ?_, hb⟩
    rw [hown.cellAt 7 (by decide)]
    match ys, hl with
    | [a, b, d], _ =>
      simp only [List.map_cons, List.map_nil, is0, List.cons.injEq] at hx
      simp [insCells, hx.2.1]
  · exact absurd rfl h0
theorem scan1_out {w w' : World} {e : Ending} (h : ScanOut [96] w e w') : ∃ X c, e = .returned (.tuple #[.slice X 0 c, .int .i64 61, .int .i64 0]) ∧ Below w.heap.size w w' := by
  obtain ⟨xs, ys, v, ⟨p, hp, he⟩, rfl, hown, _, _, hcase, hb⟩ := h
  obtain ⟨hx, rfl⟩ := reads_all (Reads.nil (bs := [96])) end1 hp he
  rw [hx, scan1] at hcase ⊢
  rcases hcase with ⟨h0, _⟩ | ⟨_, rfl⟩
  · exact absurd h0 (by decide)
  · obtain ⟨X, c, rfl⟩ := owns_shape hown
    exact ⟨X, c, rfl, hb⟩
set_option maxHeartbeats 1000000 in
set_option maxRecDepth 100000 in
theorem awake6 (w : World) : Calls Tryd.prog 17 #[] w fun e w' => e = .returned (.bool true) ∧ Below w.heap.size w w' := by
  have hg0 : (w.alloc (.cells (byteVs bs0).toArray 5)).heap[w.heap.size]? = some (.cells (byteVs bs0).toArray 5 (0, 0)) := heap_alloc_new _ _
  have hb0 : Below w.heap.size w (w.alloc (.cells (byteVs bs0).toArray 5)) := (Below.refl _ _).alloc (Nat.le_refl _) _
  generalize hw0 : w.alloc (.cells (byteVs bs0).toArray 5) = W0 at hg0 hb0
  have s1 : Calls Tryd.prog 16 #[.slice (some ⟨w.heap.size, 0, none⟩) 6 6] W0 (ScanOut bs0 W0) := scan_any bs0 (some ⟨w.heap.size, 0, none⟩) 6 W0 (ints_lit hg0) (by decide) (by decide) (by decide)
  have s2 : ∀ w1 (g : Nat), w1.heap[g]? = some (.cells #[.int .u8 96] 5 (0, 0)) → Calls Tryd.prog 16 #[.slice (some ⟨g, 0, none⟩) 1 1] w1 (ScanOut [96] w1) := fun w1 g h => scan_any [96] (some ⟨g, 0, none⟩) 1 w1 (ints_lit h) (by decide) (by decide) (by decide)
  have H1 := Lib.hid s1
  have H2 := Lib.hid s2
  clear s1 s2
  go_enter Tryd.func17, Tryd.ntmps17
  go_wp2_with (go_at_call 38; refine (small_any _).mono ?_; rintro e w1 ⟨rfl, rfl⟩; rw [hw0])
  refine H1.out.mono ?_
  intro e w1 h
  obtain ⟨g, c, rfl, hc7, hb1⟩ := scan0_out h
  clear h
  have hc7' := cell_later ((Below.refl _ _).alloc (Nat.le_refl _) (.cells #[.int .u8 96] 5)) hc7
  go_wp2_with (go_at_call 16; refine (H2.out _ _ (heap_alloc_new _ _)).mono ?_; intro e w2 h; obtain ⟨X, c', rfl, hb2⟩ := scan1_out h; clear h; have hc72 := cell_later hb2 hc7')
  have hB := hb0.trans ((hb1.trans (((Below.refl w1.heap.size w1).alloc (Nat.le_refl _) (.cells #[.int .u8 96] 5)).trans (hb2.mono (by simp)) |>.mono hb1.size)).mono hb0.size)
  go_ret
  exact ⟨rfl, hB⟩
end Go.Proofs.YthjnjdpiihpgeaaDoor
