/- A range whose rounds turn one variable of the function's: all else below is as it was. -/
import Derived.Test.YthjnjdpiihpgeaaDoorOwnSet
import Derived.Test.YthjnjdpiihpgeaaDoorBase4
namespace Go.Vk
open Go.RowKit
/-- One cell counts (or holds), all else that was there at W0 is as it was. -/
def OneInv (w W0 : World) (b t : Nat) (v : Value) (W : World) : Prop :=
  Below w.heap.size w W ∧ W0.heap.size ≤ W.heap.size ∧ (∀ j, j < W0.heap.size → j ≠ b → W.heap[j]? = W0.heap[j]?) ∧ W.heap[b]? = some (.cells #[v] t (0, 0))
theorem one_kept {w W0 W W' : World} {b t : Nat} {v : Value} {row : Option Nat} (hw : w.heap.size ≤ W0.heap.size) (h : OneInv w W0 b t v W) (hg : W.grownBy W' row) (hr : ∀ r, row = some r → W0.heap.size ≤ r ∧ ∃ o : Obj, W.heap[r]? = some o ∧ o.isCells = false) : OneInv w W0 b t v W' := by
  obtain ⟨h1, h2, h3, h4⟩ := h
  exact ⟨bel_stays h1 hw hg hr, Nat.le_trans h2 hg.size, fun j hj hb => (hg.block j (by omega) (fun e => by have := (hr j e.symm).1; omega)).trans (h3 j hj hb), blk_stays h4 hg hr⟩
theorem one_set {w W0 W W1 : World} {b t : Nat} {v : Value} (hb : w.heap.size ≤ b) (_hb0 : b < W0.heap.size) (h : OneInv w W0 b t v W) (hB : Below W.heap.size W W1) (v' : Value) : OneInv w W0 b t v' (W1.setCell ⟨b, 0, none⟩ v') := by
  obtain ⟨h1, h2, h3, h4⟩ := h
  exact ⟨(h1.trans (hB.mono h1.size)).setCell (p := ⟨b, 0, none⟩) hb _, by have := hB.size; simp; omega, fun j hj hjb => (Below.heap_setCell _ _ _ _ (by dsimp only; omega)).trans ((hB.block j (by omega)).trans (h3 j hj hjb)), heap_set1 ((hB.block b (Array.getElem?_eq_some_iff.1 h4).1).trans h4) _⟩
theorem one_trans {w W0 W3 W : World} {b bk t t' : Nat} {v v' : Value} (hb : b < bk) (h : OneInv w W0 b t v W3) (h' : OneInv w W3 bk t' v' W) (hbk : W0.heap.size ≤ bk) (hbk3 : bk < W3.heap.size) : OneInv w W0 b t v W := by
  obtain ⟨h1, h2, h3, h4⟩ := h
  obtain ⟨g1, g2, g3, g4⟩ := h'
  exact ⟨g1, Nat.le_trans h2 g2, fun j hj hjb => (g3 j (by omega) (by omega)).trans (h3 j hj hjb), (g3 b (by omega) (by omega)).trans h4⟩
theorem one_keeps {w W3 W : World} {B bk t' : Nat} {v' : Value} {t : Nat} {cs : Array Value} (h' : OneInv w W3 bk t' v' W) (hc : W3.heap[bk]? = some (.cells cs t (0, 0))) : KeepsFrom B W3 W :=
  ⟨h'.2.1, fun j o _ hj ho => (h'.2.2.1 j (Array.getElem?_eq_some_iff.1 hj).1 (fun e => by rw [e, hc] at hj; cases hj; cases ho)).trans hj⟩
/-- A row of the caller's own, of another type than the variable, is as it was. -/
theorem one_own {w W0 W : World} {b t B e size n : Nat} {v v0 : Value} {c : Array Value} {xs : List Value} (h : OneInv w W0 b t v0 W) (hc : W0.heap[b]? = some (.cells c t (0, 0))) (ho : W0.ownsRow B e size v n xs) (hne : t ≠ e) : W.ownsRow B e size v n xs := by
  refine ⟨ho.1, ?_⟩
  rcases ho.2 with h2 | ⟨q, cap, cur, rfl, hB, hh, r⟩
  · exact .inl h2
  · refine .inr ⟨q, cap, cur, rfl, hB, (h.2.2.1 q (Array.getElem?_eq_some_iff.1 hh).1 (fun e0 => ?_)).trans hh, r⟩
    rw [e0, hc] at hh
    cases hh
    exact hne rfl
end Go.Vk
