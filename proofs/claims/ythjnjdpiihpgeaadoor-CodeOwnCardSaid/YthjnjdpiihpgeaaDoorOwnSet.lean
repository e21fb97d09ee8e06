/- Stores into cells of rows that the walk owns. Over any program. -/
import Derived.Test.YthjnjdpiihpgeaaDoorBase4
namespace Go.Vk
open Go.RowKit
def StopO (p : Prop) : Prop := p
theorem stop_o {p : Prop} (h : StopO p) : p := h
theorem own_cell {w : World} {B e g n c : Nat} {xs : List Value} (h : w.ownsRow B e 1 (.slice (some ⟨g, 0, none⟩) n c) n xs) {j : Nat} {v : Value} (hv : xs[j]? = some v) : w.cell? ⟨g, j, none⟩ = some v ∧ w.frozen? ⟨g, j, none⟩ = false := by
  rcases h.2 with ⟨h2, _⟩ | ⟨g', cap, cur, heq, hB, hh, hcap, hm, hsz, ht⟩
  · cases h2
  · cases heq
    refine ⟨?_, by simp [World.frozen?, hh]⟩
    have hj : j < n := by have := (List.getElem?_eq_some_iff.1 hv).1; have := h.1; omega
    have : cur.toList[j]? = some v := by rw [← hv, ← ht, List.getElem?_take, if_pos (by omega)]
    simpa [World.cell?, hh] using this
theorem own_set {w : World} {B e g n c : Nat} {xs : List Value} (h : w.ownsRow B e 1 (.slice (some ⟨g, 0, none⟩) n c) n xs) (j : Nat) (v : Value) : (w.setCell ⟨g, j, none⟩ v).ownsRow B e 1 (.slice (some ⟨g, 0, none⟩) n c) n (xs.set j v) := by
  refine ⟨by simpa using h.1, ?_⟩
  rcases h.2 with ⟨h2, _⟩ | ⟨g', cap, cur, heq, hB, hh, hcap, hm, hsz, ht⟩
  · cases h2
  · cases heq
    rw [setCell_eq_setRow w g j cur e (0, 0) v hh]
    refine .inr ⟨g, c, _, rfl, hB, setRow_heap _ _ _ _ _ _ hh, hcap, hm, by simpa using hsz, ?_⟩
    rw [← ht]
    simp [List.take_set]
theorem own_cut {w : World} {B e g n c : Nat} {xs : List Value} (h : w.ownsRow B e 1 (.slice (some ⟨g, 0, none⟩) n c) n xs) (k : Nat) (hk : k ≤ n) : w.ownsRow B e 1 (.slice (some ⟨g, 0, none⟩) k c) k (xs.take k) := by
  have hl := h.1
  refine ⟨by rw [List.length_take]; omega, ?_⟩
  rcases h.2 with ⟨h2, _⟩ | ⟨g', cap, cur, heq, hB, hh, hcap, hm, hsz, ht⟩
  · cases h2
  · cases heq
    refine .inr ⟨g, c, cur, rfl, hB, hh, by omega, hm, hsz, ?_⟩
    rw [← ht, List.take_take]
    congr 1
    omega
theorem own_keep {w w' : World} {B e size g n c : Nat} {xs : List Value} (h : w.ownsRow B e size (.slice (some ⟨g, 0, none⟩) n c) n xs) (hk : w'.heap[g]? = w.heap[g]?) : w'.ownsRow B e size (.slice (some ⟨g, 0, none⟩) n c) n xs := by
  refine ⟨h.1, ?_⟩
  rcases h.2 with ⟨h2, _⟩ | ⟨g', cap, cur, heq, hB, hh, r⟩
  · cases h2
  · cases heq
    exact .inr ⟨g, c, cur, rfl, hB, hk.trans hh, r⟩
theorem own_setOther {w : World} {B e size n : Nat} {v : Value} {xs : List Value} (h : w.ownsRow B e size v n xs) {a : Addr} (ha : a.block < B) (u : Value) : (w.setCell a u).ownsRow B e size v n xs := by
  refine ⟨h.1, ?_⟩
  rcases h.2 with h2 | ⟨g, cap, cur, heq, hB, hh, r⟩
  · exact .inl h2
  · exact .inr ⟨g, cap, cur, heq, hB, (Below.heap_setCell _ _ _ _ (by omega)).trans hh, r⟩
theorem heap_setOther {w : World} {k : Nat} {a : Addr} {o : Obj} (h : w.heap[k]? = some o) (ha : k ≠ a.block) (u : Value) : (w.setCell a u).heap[k]? = some o := (Below.heap_setCell _ _ _ _ ha).trans h
theorem heap_setKeep (w : World) {k : Nat} {a : Addr} (ha : k ≠ a.block) (u : Value) : (w.setCell a u).heap[k]? = w.heap[k]? := Below.heap_setCell _ _ _ _ ha
theorem owned_max {w : World} {B e size n c : Nat} {X : Option Addr} {xs : List Value} (h : w.ownsRow B e size (.slice X n c) n xs) : n ≤ maxLen := by
  rcases h.2 with ⟨h2, h3⟩ | ⟨g', cap, cur, heq, hB, hh, hcap, hm, r⟩
  · omega
  · omega
theorem wf64 {n : Int} (h0 : -9223372036854775808 ≤ n) (h1 : n ≤ 9223372036854775807) : (Lit.int .i64 n).wf = true := by
  unfold Lit.wf
  simp only [Bool.and_eq_true, decide_eq_true_eq]
  exact ⟨h0, h1⟩
theorem owned_lt {w : World} {B e size n c : Nat} {X : Option Addr} {xs : List Value} (h : w.ownsRow B e size (.slice X n c) n xs) : ∀ q, (Value.slice X n c).ownBlock = some q → q < w.heap.size := fun q hq => (h.lt q hq).2
theorem heap_set1 {w : World} {g t : Nat} {a : Value} {fr : Nat × Nat} (hg : w.heap[g]? = some (.cells #[a] t fr)) (v : Value) : (w.setCell ⟨g, 0, none⟩ v).heap[g]? = some (.cells #[v] t fr) := by
  rw [setCell_eq_setRow w g 0 _ t fr v hg]
  exact setRow_heap _ _ _ _ _ _ hg
theorem cell_of1 {w : World} {g t : Nat} {a : Value} (hg : w.heap[g]? = some (.cells #[a] t (0, 0))) : w.cell? ⟨g, 0, none⟩ = some a ∧ w.frozen? ⟨g, 0, none⟩ = false := by
  constructor
  · simp [World.cell?, hg]
  · simp [World.frozen?, hg]
theorem heap_alloc_at (w : World) (o : Obj) (k : Nat) (hk : k = w.heap.size) : (w.alloc o).heap[k]? = some o := by
  subst hk
  exact heap_alloc_new w o
theorem heap_alloc_before {w : World} {k : Nat} {o : Obj} (h : w.heap[k]? = some o) (o' : Obj) : (w.alloc o').heap[k]? = some o := (Below.heap_alloc w o' k (Array.getElem?_eq_some_iff.1 h).1).trans h
theorem own_lt {w : World} {B e size g n c : Nat} {xs : List Value} (h : w.ownsRow B e size (.slice (some ⟨g, 0, none⟩) n c) n xs) : B ≤ g ∧ g < w.heap.size := h.lt g rfl
theorem heap_set4_2 {w : World} {g t : Nat} {a0 a1 a2 a3 : Value} {fr : Nat × Nat} (hg : w.heap[g]? = some (.cells #[a0, a1, a2, a3] t fr)) (v : Value) : (w.setCell ⟨g, 2, none⟩ v).heap[g]? = some (.cells #[a0, a1, v, a3] t fr) := by
  rw [setCell_eq_setRow w g 2 _ t fr v hg]
  exact setRow_heap _ _ _ _ _ _ hg
end Go.Vk
