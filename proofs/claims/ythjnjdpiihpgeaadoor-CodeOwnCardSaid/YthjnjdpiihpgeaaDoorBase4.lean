/- Rows that a loop owns, kept behind what the loop does. Over any program. -/
import Derived.Test.YthjnjdpiihpgeaaDoorBase3
import Derived.Test.YthjnjdpiihpgeaaDoorRangeF
import Derived.Maps.AppendAt
import Derived.Laws.AppendOwn
import Derived.OwnWalkIn
import Derived.StillTailTactics
import Derived.RangeFuncLeaves
import Derived.RangeFuncBox
namespace Go.Vk
open Go.RowKit
theorem blk_stays {B : Nat} {W W' : World} {row : Option Nat} {b t : Nat} {cs : Array Value} (h : W.heap[b]? = some (.cells cs t (0, 0))) (hg : W.grownBy W' row)
    (hr : ∀ r, row = some r → B ≤ r ∧ ∃ o : Obj, W.heap[r]? = some o ∧ o.isCells = false) : W'.heap[b]? = some (.cells cs t (0, 0)) := by
  refine (hg.block b (Array.getElem?_eq_some_iff.1 h).1 ?_).trans h
  intro e
  obtain ⟨_, o, ho, hc⟩ := hr b e.symm
  rw [h] at ho
  cases ho
  cases hc
theorem bel_stays {B : Nat} {w W W' : World} {row : Option Nat} (h : Below w.heap.size w W) (hB : w.heap.size ≤ B) (hg : W.grownBy W' row)
    (hr : ∀ r, row = some r → B ≤ r ∧ ∃ o : Obj, W.heap[r]? = some o ∧ o.isCells = false) : Below w.heap.size w W' :=
  h.grown hg h.size (fun k e => by have := (hr k e).1; omega)
theorem own_stays {B : Nat} {W W' : World} {row : Option Nat} {base e size n : Nat} {v : Value} {xs : List Value} (h : W.ownsRow base e size v n xs) (hg : W.grownBy W' row)
    (hr : ∀ r, row = some r → B ≤ r ∧ ∃ o : Obj, W.heap[r]? = some o ∧ o.isCells = false) : W'.ownsRow base e size v n xs := by
  refine ⟨h.1, ?_⟩
  rcases h.2 with h2 | ⟨g, cap, cur, h3, h4, h5, h6⟩
  · exact .inl h2
  · exact .inr ⟨g, cap, cur, h3, h4, blk_stays h5 hg hr, h6⟩
theorem own_below {W W' : World} {B e size n : Nat} {v : Value} {xs : List Value} (h : W.ownsRow B e size v n xs) (hb : Below W.heap.size W W') : W'.ownsRow B e size v n xs := by
  refine ⟨h.1, ?_⟩
  rcases h.2 with h2 | ⟨g, cap, cur, rfl, hg, hh, r⟩
  · exact .inl h2
  · exact .inr ⟨g, cap, cur, rfl, hg, (hb.block g (Array.getElem?_eq_some_iff.1 hh).1).trans hh, r⟩
theorem own_grow {W W' : World} {B B' e e' size size' n n' : Nat} {v v' : Value} {xs xs' : List Value} (h : W.ownsRow B e size v n xs) (h' : W.ownsRow B' e' size' v' n' xs') (hne : e ≠ e') (hg : W.grownBy W' v'.ownBlock) : W'.ownsRow B e size v n xs := by
  refine ⟨h.1, ?_⟩
  rcases h.2 with h2 | ⟨g, cap, cur, rfl, hB, hh, r⟩
  · exact .inl h2
  · refine .inr ⟨g, cap, cur, rfl, hB, (hg.block g (Array.getElem?_eq_some_iff.1 hh).1 ?_).trans hh, r⟩
    intro e0
    rcases h'.2 with ⟨rfl, _⟩ | ⟨g', cap', cur', rfl, hB', hh', r'⟩
    · cases e0
    · cases e0
      rw [hh] at hh'
      cases hh'
      exact hne rfl
theorem bel_own {w W W' : World} {B e size n : Nat} {v : Value} {xs : List Value} (h : Below w.heap.size w W) (ho : W.ownsRow B e size v n xs) (hB : w.heap.size ≤ B) (hg : W.grownBy W' v.ownBlock) : Below w.heap.size w W' := by
  refine h.grown hg h.size (fun k e => ?_)
  have := (ho.lt k e).1
  omega
theorem blk_own {W W' : World} {B e size n b t : Nat} {v : Value} {xs : List Value} {cs : Array Value} (h : W.heap[b]? = some (.cells cs t (0, 0))) (_ho : W.ownsRow B e size v n xs) (hne : ∀ g, v.ownBlock = some g → b ≠ g) (hg : W.grownBy W' v.ownBlock) : W'.heap[b]? = some (.cells cs t (0, 0)) :=
  (hg.block b (Array.getElem?_eq_some_iff.1 h).1 (fun e => hne b e.symm rfl)).trans h
theorem cells_fresh (w : World) (cs : Array Value) (t : TypeId) (n : Nat) (hn : n = w.heap.size) : ∀ j u, cs.toList[j]? = some u → (w.alloc (.cells cs t)).cell? ((⟨n, 0, none⟩ : Addr).add j) = some u := by
  subst hn
  intro j u hj
  have e : (⟨w.heap.size, 0, none⟩ : Addr).add j = ⟨w.heap.size, j, none⟩ := by unfold Addr.add; split <;> simp_all
  rw [e, World.cell?_alloc_new]
  simpa using hj
theorem keeps_own {B : Nat} {W W' : World} {B' e size n : Nat} {v : Value} {xs : List Value} (ho : W.ownsRow B' e size v n xs) (hg : W.grownBy W' v.ownBlock) : KeepsFrom B W W' :=
  ⟨hg.size, fun k o _ hk hc => (hg.block k (Array.getElem?_eq_some_iff.1 hk).1 (fun e0 => by
    rcases ho.2 with ⟨rfl, _⟩ | ⟨g, cap, cur, rfl, _, hh, _⟩
    · cases e0
    · cases e0
      rw [hk] at hh
      cases hh
      cases hc)).trans hk⟩
end Go.Vk
