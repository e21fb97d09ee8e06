/- A slice of slices of the call's own: one of its rows grows, the others stay. Over any program. -/
import Derived.Test.YtfjmdffhfjnopaaDoorGen
namespace Go.Vk
open Go.RowKit
/-- Rows of the call's own, no two of them in one block. -/
structure RowsAp (W : World) (B e N : Nat) (v : Nat → Value) (x : Nat → List Value) : Prop where
  own : ∀ m, m < N → W.ownsRow B e 1 (v m) (x m).length (x m)
  apart : ∀ m m', m < N → m' < N → m ≠ m' → ∀ b, (v m).ownBlock = some b → (v m').ownBlock ≠ some b
def updL (x : Nat → List Value) (n : Nat) (l : List Value) (m : Nat) : List Value := if m = n then l else x m
theorem own_block_lt {W : World} {B e size n b : Nat} {v : Value} {xs : List Value} (h : W.ownsRow B e size v n xs) (hb : v.ownBlock = some b) : b < W.heap.size := by
  rcases h.2 with ⟨rfl, _⟩ | ⟨g, cap, cur, rfl, _, hh, _⟩
  · cases hb
  · cases hb
    exact (Array.getElem?_eq_some_iff.1 hh).1
theorem own_grownOther {W W' : World} {B e size n : Nat} {v : Value} {xs : List Value} {row : Option Nat} (h : W.ownsRow B e size v n xs) (hg : W.grownBy W' row) (hne : ∀ b, v.ownBlock = some b → row ≠ some b) : W'.ownsRow B e size v n xs := by
  refine ⟨h.1, ?_⟩
  rcases h.2 with h3 | ⟨g', cap, cur, heq, hB, hh, r⟩
  · exact .inl h3
  · exact .inr ⟨g', cap, cur, heq, hB, (hg.block g' (Array.getElem?_eq_some_iff.1 hh).1 (fun e0 => hne g' (by rw [heq]; rfl) e0.symm)).trans hh, r⟩
theorem rowsAp_grow {W W' : World} {B e N k : Nat} {v : Nat → Value} {x : Nat → List Value} {v' : Value} {n : Nat} {xs : List Value} (h : RowsAp W B e N v x) (hk : k < N) (hn : n = xs.length) (hown : W'.ownsRow B e 1 v' n xs) (hg : W.grownBy W' (v k).ownBlock) (hv : v'.ownBlock = (v k).ownBlock ∨ v'.ownBlock = some W.heap.size) :
    RowsAp W' B e N (upd v k v') (updL x k xs) := by
  refine ⟨fun m hm => ?_, fun m m' hm hm' hne b hb hb' => ?_⟩
  · unfold upd updL
    by_cases hmk : m = k
    · rw [if_pos hmk, if_pos hmk, ← hn]; exact hown
    · rw [if_neg hmk, if_neg hmk]
      exact own_grownOther (h.own m hm) hg fun b hb hb2 => h.apart m k hm hk hmk b hb hb2
  · unfold upd at hb hb'
    by_cases hmk : m = k
    · rw [if_pos hmk] at hb
      rw [if_neg (by omega)] at hb'
      rcases hv with hv | hv
      · rw [hv] at hb
        exact h.apart k m' hk hm' (by omega) b hb hb'
      · rw [hv] at hb
        cases hb
        have := own_block_lt (h.own m' hm') hb'
        omega
    · rw [if_neg hmk] at hb
      by_cases hmk' : m' = k
      · rw [if_pos hmk'] at hb'
        rcases hv with hv | hv
        · rw [hv] at hb'
          exact h.apart m k hm hk hmk b hb hb'
        · rw [hv] at hb'
          cases hb'
          have := own_block_lt (h.own m hm) hb
          omega
      · rw [if_neg hmk'] at hb'
        exact h.apart m m' hm hm' hne b hb hb'
theorem rowsAp_below {W W' : World} {B e N : Nat} {v : Nat → Value} {x : Nat → List Value} (h : RowsAp W B e N v x) (hb : Below W.heap.size W W') : RowsAp W' B e N v x := ⟨fun m hm => own_below (h.own m hm) hb, h.apart⟩
/-- A block of another kind is written. -/
theorem own_setBlock {W : World} {B e size n : Nat} {v : Value} {xs : List Value} (h : W.ownsRow B e size v n xs) {a : Addr} {t : Nat} {cs : Array Value} (ha : W.heap[a.block]? = some (.cells cs t (0, 0))) (ht : t ≠ e) (u : Value) : (W.setCell a u).ownsRow B e size v n xs := by
  refine ⟨h.1, ?_⟩
  rcases h.2 with h3 | ⟨g', cap, cur, heq, hB, hh, r⟩
  · exact .inl h3
  · refine .inr ⟨g', cap, cur, heq, hB, (Below.heap_setCell _ _ _ _ (fun e0 => ?_)).trans hh, r⟩
    rw [e0, ha] at hh
    injection hh with hh
    injection hh with _ h2 _
    exact ht h2
theorem rowsAp_set {W : World} {B e N : Nat} {v : Nat → Value} {x : Nat → List Value} (h : RowsAp W B e N v x) {a : Addr} {t : Nat} {cs : Array Value} (ha : W.heap[a.block]? = some (.cells cs t (0, 0))) (ht : t ≠ e) (u : Value) : RowsAp (W.setCell a u) B e N v x := ⟨fun m hm => own_setBlock (h.own m hm) ha ht u, h.apart⟩
theorem rowsAp_grown {W W' : World} {B e N : Nat} {v : Nat → Value} {x : Nat → List Value} {row : Option Nat} (h : RowsAp W B e N v x) (hg : W.grownBy W' row) (hne : ∀ m, m < N → ∀ b, (v m).ownBlock = some b → row ≠ some b) : RowsAp W' B e N v x := ⟨fun m hm => own_grownOther (h.own m hm) hg (hne m hm), h.apart⟩
def valsN (N : Nat) (v : Nat → Value) : List Value := (List.range N).map v
theorem valsN_length (N : Nat) (v : Nat → Value) : (valsN N v).length = N := by simp [valsN]
theorem valsN_at {N m : Nat} {v : Nat → Value} (h : m < N) : (valsN N v)[m]? = some (v m) := by simp [valsN, h]
theorem valsN_set {N k : Nat} (v : Nat → Value) (u : Value) : (valsN N v).set k u = valsN N (upd v k u) := by
  refine List.ext_getElem? fun m => ?_
  unfold valsN upd
  by_cases hm : m < N
  · by_cases e : k = m
    · subst e
      rw [List.getElem?_set_self (by simpa using hm)]
      simp [hm]
    · rw [List.getElem?_set_ne e]
      simp only [List.getElem?_map, List.getElem?_range hm, Option.map_some]
      rw [if_neg (by omega)]
  · rw [List.getElem?_eq_none (by simp; omega), List.getElem?_eq_none (by simp; omega)]
theorem heap_setVals {W : World} {g t N k : Nat} {v : Nat → Value} (h : W.heap[g]? = some (.cells (valsN N v).toArray t (0, 0))) (u : Value) : (W.setCell ⟨g, k, none⟩ u).heap[g]? = some (.cells (valsN N (upd v k u)).toArray t (0, 0)) := by
  rw [setCell_eq_setRow W g k _ t (0, 0) u h, setRow_heap _ _ _ _ _ _ h]
  rw [← valsN_set]
  simp
theorem cell_vals {W : World} {g t N k : Nat} {v : Nat → Value} (h : W.heap[g]? = some (.cells (valsN N v).toArray t (0, 0))) (hk : k < N) : W.cell? ⟨g, k, none⟩ = some (v k) ∧ W.frozen? ⟨g, k, none⟩ = false := by
  refine ⟨?_, by simp [World.frozen?, h]⟩
  simp only [World.cell?, h, List.getElem?_toArray]
  exact valsN_at hk
theorem madeNil (N : Nat) : madeCells #[.slice none 0 0] N = (valsN N fun _ => .slice none 0 0).toArray := by
  refine Array.ext_getElem? fun i => ?_
  unfold madeCells valsN
  by_cases e : i < N
  · simp [e, Nat.mod_one]
  · simp [e]
theorem rowsAp_nil (W : World) (B e N : Nat) : RowsAp W B e N (fun _ => .slice none 0 0) (fun _ => []) := ⟨fun _ _ => World.ownsRow_nil _ _ _ _, fun _ _ _ _ _ b hb => by cases hb⟩
/-- A slice of slices, made since W2: its block, its rows. -/
structure CS (W2 W : World) (gc et e N : Nat) (v : Nat → Value) (x : Nat → List Value) : Prop where
  blk : W.heap[gc]? = some (.cells (valsN N v).toArray et (0, 0))
  rows : RowsAp W gc e N v x
  bel : Below W2.heap.size W2 W
theorem cs_below {W2 W W' : World} {gc et e N : Nat} {v : Nat → Value} {x : Nat → List Value} (h : CS W2 W gc et e N v x) (hb : Below W.heap.size W W') : CS W2 W' gc et e N v x := ⟨kept_of2 hb h.blk, rowsAp_below h.rows hb, h.bel.trans (hb.mono h.bel.size)⟩
theorem cs_grown {W2 W W' : World} {gc et e N t n : Nat} {v : Nat → Value} {x : Nat → List Value} {v' : Value} {xs : List Value} (h : CS W2 W gc et e N v x) (hgc : W2.heap.size ≤ gc) (ht : t < N) (hne : et ≠ e) (hn : n = xs.length) (hown : W'.ownsRow gc e 1 v' n xs) (hg : W.grownBy W' (v t).ownBlock) (hv : v'.ownBlock = (v t).ownBlock ∨ v'.ownBlock = some W.heap.size) :
    W'.heap[gc]? = some (.cells (valsN N v).toArray et (0, 0)) ∧ CS W2 (W'.setCell ⟨gc, t, none⟩ v') gc et e N (upd v t v') (updL x t xs) := by
  have hnb : ∀ b, (v t).ownBlock = some b → b ≠ gc := fun b hb e0 => by
    subst e0
    rcases (h.rows.own t ht).2 with ⟨h3, _⟩ | ⟨g', cap, cur, heq, hB, hh, r⟩
    · rw [h3] at hb; cases hb
    · rw [heq] at hb
      cases hb
      rw [h.blk] at hh
      injection hh with hh
      injection hh with _ h2 _
      exact hne h2
  have hblk : W'.heap[gc]? = some (.cells (valsN N v).toArray et (0, 0)) := (hg.block gc (Array.getElem?_eq_some_iff.1 h.blk).1 (fun e0 => hnb gc e0.symm rfl)).trans h.blk
  refine ⟨hblk, heap_setVals hblk v', rowsAp_set (rowsAp_grow h.rows ht hn hown hg hv) hblk hne v', ?_⟩
  have hb : Below W2.heap.size W2 W' := h.bel.grown hg h.bel.size (fun b hb => by
    have := ((h.rows.own t ht).lt b hb).1
    omega)
  exact hb.setCell hgc _
theorem cs_congr {W2 W : World} {gc et e N : Nat} {v : Nat → Value} {x x' : Nat → List Value} (h : CS W2 W gc et e N v x) (hx : x = x') : CS W2 W gc et e N v x' := by subst hx; exact h
end Go.Vk
