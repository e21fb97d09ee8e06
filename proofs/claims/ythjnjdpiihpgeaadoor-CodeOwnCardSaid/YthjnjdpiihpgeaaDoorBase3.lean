/- Rows of four cells; a slice cut at its head. Over any program. -/
import Derived.Test.YthjnjdpiihpgeaaDoorOpen
import Derived.Test.YthjnjdpiihpgeaaDoorBase2
namespace Go.Vk
open Go.RowKit
theorem cells4 {w : World} {g t : Nat} {a0 a1 a2 a3 : Value} (hg : w.heap[g]? = some (.cells #[a0, a1, a2, a3] t (0, 0))) :
    w.cell? ⟨g, 0, none⟩ = some a0 ∧ w.cell? ⟨g, 1, none⟩ = some a1 ∧ w.cell? ⟨g, 2, none⟩ = some a2 ∧ w.cell? ⟨g, 3, none⟩ = some a3 ∧ (∀ o, w.frozen? ⟨g, o, none⟩ = false) ∧ g < w.heap.size := by
  refine ⟨?_, ?_, ?_, ?_, ?_, (Array.getElem?_eq_some_iff.1 hg).1⟩
  all_goals simp [World.cell?, World.frozen?, hg]
theorem set4_eq {w : World} {g t : Nat} {a0 a1 a2 a3 : Value} {fr : Nat × Nat} (hg : w.heap[g]? = some (.cells #[a0, a1, a2, a3] t fr)) (v0 v1 v2 v3 : Value) :
    ((((w.setCell ⟨g, 0, none⟩ v0).setCell ⟨g, 1, none⟩ v1).setCell ⟨g, 2, none⟩ v2).setCell ⟨g, 3, none⟩ v3) = w.setRow g #[v0, v1, v2, v3] := by
  rw [setCell_eq_setRow w g 0 _ t fr v0 hg, setCell_eq_setRow _ g 1 _ t fr v1 (setRow_heap _ _ _ _ _ _ hg), setRow_setRow, setCell_eq_setRow _ g 2 _ t fr v2 (setRow_heap _ _ _ _ _ _ hg), setRow_setRow, setCell_eq_setRow _ g 3 _ t fr v3 (setRow_heap _ _ _ _ _ _ hg), setRow_setRow]
  rfl
theorem addr_add_add (y : Addr) (a b : Nat) : (y.add a).add b = y.add (a + b) := by
  unfold Addr.add
  by_cases ha : a = 0
  · subst ha; simp
  · by_cases hb : b = 0
    · subst hb; simp [ha]
    · simp [ha, hb]; omega
theorem ints_drop {w : World} {k : IntKind} {y : Addr} {zs : List Int} (h : IntsAt w k (some y) zs) (q : Nat) : IntsAt w k (some (y.add q)) (zs.drop q) := fun i hi => by
  simp only [List.length_drop] at hi
  obtain ⟨x, hx, hc⟩ := h (q + i) (by omega)
  cases hx
  refine ⟨y.add q, rfl, ?_⟩
  rw [addr_add_add, hc]
  simp [List.getD_eq_getElem?_getD]
theorem ints_take {w : World} {k : IntKind} {A : Option Addr} {zs : List Int} (h : IntsAt w k A zs) (q : Nat) : IntsAt w k A (zs.take q) := fun i hi => by
  simp only [List.length_take] at hi
  obtain ⟨x, hx, hc⟩ := h i (by omega)
  refine ⟨x, hx, ?_⟩
  rw [hc, List.getD_eq_getElem?_getD, List.getD_eq_getElem?_getD, List.getElem?_take, if_pos (by omega)]
theorem ints_nil (w : World) (k : IntKind) (A : Option Addr) : IntsAt w k A [] := fun i hi => by simp at hi
end Go.Vk
