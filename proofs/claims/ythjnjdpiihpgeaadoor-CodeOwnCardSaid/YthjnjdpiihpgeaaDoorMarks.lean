/- Many slices of the call's own, marked, grown and read again. Over any program. -/
import Derived.Test.YthjnjdpiihpgeaaDoorKeep
namespace Go.Vk
open Go.RowKit
def lv (ad : Nat → Option Addr) (ln cp : Nat → Nat) (m : Nat) : Value := .slice (ad m) (ln m) (cp m)
def ApartN (N : Nat) (v : Nat → Value) : Prop := ∀ m m', m < N → m' < N → m ≠ m' → ∀ b, (v m).ownBlock = some b → (v m').ownBlock ≠ some b
def Marked (mk : Nat → Value) (N : Nat) (e : TypeId) (B : Nat) (ad : Nat → Option Addr) (ln cp : Nat → Nat) (n k : Nat) (W : World) : Prop :=
  ∀ m, m < N → ∃ zs, W.ownsRow B e 1 (lv ad ln cp m) (ln m) zs ∧ ∀ j, (m < n ∨ m = n ∧ j < k) → j < ln m → zs[j]? = some (mk m)
theorem marked_step {mk : Nat → Value} {N : Nat} {e : TypeId} {B n k g : Nat} {ad : Nat → Option Addr} {ln cp : Nat → Nat} {W : World} (h : Marked mk N e B ad ln cp n k W) (hn : n < N) (hk : k < ln n) (hg : ad n = some ⟨g, 0, none⟩) (hap : ApartN N (lv ad ln cp)) : Marked mk N e B ad ln cp n (k + 1) (W.setCell ⟨g, k, none⟩ (mk n)) := by
  intro m hm
  obtain ⟨zs, h1, h2⟩ := h m hm
  by_cases e : m = n
  · subst e
    unfold lv at h1 ⊢
    rw [hg] at h1 ⊢
    refine ⟨zs.set k (mk m), own_set h1 k _, fun j hj hl => ?_⟩
    have hzl : zs.length = ln m := by have := h1.1; omega
    by_cases e : j = k
    · subst e
      rw [List.getElem?_set_self (by omega)]
    · rw [List.getElem?_set_ne (by omega)]
      exact h2 j (.inr ⟨rfl, by omega⟩) hl
  · refine ⟨zs, ⟨h1.1, ?_⟩, fun j hj hl => h2 j (by omega) hl⟩
    rcases h1.2 with h3 | ⟨g', cap, cur, heq, hB, hh, r⟩
    · exact .inl h3
    · refine .inr ⟨g', cap, cur, heq, hB, (Below.heap_setCell _ _ _ _ (fun e0 => ?_)).trans hh, r⟩
      have := hap m n hm hn e g' (by rw [heq]; rfl)
      unfold lv at this
      rw [hg] at this
      exact this (by dsimp only at e0; rw [e0]; rfl)
theorem marked_next {mk : Nat → Value} {N : Nat} {e : TypeId} {B n : Nat} {ad : Nat → Option Addr} {ln cp : Nat → Nat} {W : World} (h : Marked mk N e B ad ln cp n (ln n) W) : Marked mk N e B ad ln cp (n + 1) 0 W := by
  intro m hm
  obtain ⟨zs, h1, h2⟩ := h m hm
  refine ⟨zs, h1, fun j hj hl => h2 j ?_ hl⟩
  by_cases e : m = n
  · subst e
    exact .inr ⟨rfl, hl⟩
  · omega
/-- The lists' elements, all marked. -/
def CV (mk : Nat → Value) (N : Nat) (ad : Nat → Option Addr) (ln : Nat → Nat) (S : Nat) (W : World) : Prop := ∀ m, m < N → ∀ j, j < ln m → ∃ b, ad m = some ⟨b, 0, none⟩ ∧ b < S ∧ W.cell? ⟨b, j, none⟩ = some (mk m)
theorem marked_cells {mk : Nat → Value} {N : Nat} {e : TypeId} {B : Nat} {ad : Nat → Option Addr} {ln cp : Nat → Nat} {W : World} (h : Marked mk N e B ad ln cp N 0 W) : CV mk N ad ln W.heap.size W := by
  intro m hm j hj
  obtain ⟨zs, h1, h2⟩ := h m hm
  unfold lv at h1
  rcases h1.2 with ⟨_, h3⟩ | ⟨g', cap, cur, heq, hB, hh, r⟩
  · omega
  · injection heq with e1 e2 e3
    refine ⟨g', e1, (Array.getElem?_eq_some_iff.1 hh).1, ?_⟩
    rw [e1] at h1
    rw [h1.cellAt j (by omega)]
    exact h2 j (.inl hm) hj
theorem cv_keep {mk : Nat → Value} {N : Nat} {ad : Nat → Option Addr} {ln cp : Nat → Nat} {S n q : Nat} {vb : Option Nat} {W W' : World} (h : CV mk N ad ln S W) (hk : ∀ b o, b < W.heap.size → (vb = some b → o < q) → W'.cell? ⟨b, o, none⟩ = W.cell? ⟨b, o, none⟩) (hN : S ≤ W.heap.size)
    (hb : ∀ b, vb = some b → (lv ad ln cp n).ownBlock = some b ∨ S ≤ b) (hq : ln n ≤ q) (hap : ApartN N (lv ad ln cp)) (hn : n < N) : CV mk N ad ln S W' := by
  intro m hm j hj
  obtain ⟨b, h1, h2, h3⟩ := h m hm j hj
  refine ⟨b, h1, h2, (hk b j (by omega) (fun e => ?_)).trans h3⟩
  rcases hb b e with h4 | h4
  · by_cases e2 : m = n
    · subst e2; omega
    · exact absurd h4 (hap m n hm hn e2 b (by unfold lv; rw [h1]; rfl))
  · omega
theorem cv_below {mk : Nat → Value} {N : Nat} {ad : Nat → Option Addr} {ln : Nat → Nat} {S : Nat} {W W' : World} (h : CV mk N ad ln S W) (_hN : S ≤ W.heap.size) (hb : Below W.heap.size W W') : CV mk N ad ln S W' := fun m hm j hj => by
  obtain ⟨b, h1, h2, h3⟩ := h m hm j hj
  exact ⟨b, h1, h2, cell_later hb h3⟩
def upd (u : Nat → Value) (n : Nat) (x : Value) (m : Nat) : Value := if m = n then x else u m
/-- The long lists so far: rows of their own, all marked. -/
def CU (mk : Nat → Value) (N L : Nat) (e : TypeId) (u : Nat → Value) (ad : Nat → Option Addr) (ln cp : Nat → Nat) (n S : Nat) (W : World) : Prop :=
  ∀ m, m < n → ∃ b c cs, u m = .slice (some ⟨b, 0, none⟩) (ln m + L) c ∧ b < S ∧ W.heap[b]? = some (.cells cs e (0, 0)) ∧ (∀ j, j < ln m + L → cs[j]? = some (mk m)) ∧ ∀ m', m' < N → m' ≠ m → (lv ad ln cp m').ownBlock ≠ some b
theorem cu_grow {mk : Nat → Value} {N L : Nat} {e : TypeId} {u : Nat → Value} {ad : Nat → Option Addr} {ln cp : Nat → Nat} {S n : Nat} {vb : Option Nat} {W W' : World} (h : CU mk N L e u ad ln cp n S W) (hg : W.grownBy W' vb)
    (hb : ∀ b, vb = some b → (lv ad ln cp n).ownBlock = some b ∨ S ≤ b) (hn : n < N) : CU mk N L e u ad ln cp n S W' := by
  intro m hm
  obtain ⟨b, c, cs, h1, h2, h3, h4, h5⟩ := h m hm
  refine ⟨b, c, cs, h1, h2, (hg.block b (Array.getElem?_eq_some_iff.1 h3).1 (fun e0 => ?_)).trans h3, h4, h5⟩
  rcases hb b e0.symm with h6 | h6
  · exact h5 n hn (by omega) h6
  · omega
theorem cu_heap {mk : Nat → Value} {N L : Nat} {e : TypeId} {u : Nat → Value} {ad : Nat → Option Addr} {ln cp : Nat → Nat} {S S' n : Nat} {W W' : World} (h : CU mk N L e u ad ln cp n S W) (hS : S ≤ S') (hk : ∀ (b : Nat) (cs : Array Value), W.heap[b]? = some (Obj.cells cs e (0, 0)) → W'.heap[b]? = some (Obj.cells cs e (0, 0))) : CU mk N L e u ad ln cp n S' W' := fun m hm => by
  obtain ⟨b, c, cs, h1, h2, h3, h4, h5⟩ := h m hm
  exact ⟨b, c, cs, h1, by omega, hk b cs h3, h4, h5⟩
theorem cu_more {mk : Nat → Value} {N L : Nat} {e : TypeId} {n S B c g : Nat} {u : Nat → Value} {ad : Nat → Option Addr} {ln cp : Nat → Nat} {W : World} (h : CU mk N L e u ad ln cp n S W) (hS : S ≤ W.heap.size) (hn : n < N) (ho : W.ownsRow B e 1 (.slice (some ⟨g, 0, none⟩) (ln n + L) c) (ln n + L) (List.replicate (ln n + L) (mk n)))
    (hb : (lv ad ln cp n).ownBlock = some g ∨ S ≤ g) (hv : ∀ m, m < N → ∀ b, (lv ad ln cp m).ownBlock = some b → b < S) (hap : ApartN N (lv ad ln cp)) :
    CU mk N L e (upd u n (.slice (some ⟨g, 0, none⟩) (ln n + L) c)) ad ln cp (n + 1) W.heap.size W := by
  intro m hm
  by_cases e0 : m = n
  · subst e0
    rcases ho.2 with ⟨h1, _⟩ | ⟨g', cap, cur, heq, hB, hh, h4, h5, h6, h7⟩
    · cases h1
    · injection heq with e1 e2 e3
      injection e1 with e1
      injection e1 with e1
      subst e1
      refine ⟨g, c, cur, by unfold upd; rw [if_pos rfl], (Array.getElem?_eq_some_iff.1 hh).1, hh, fun j hj => ?_, fun m' hm' hne' h2 => ?_⟩
      · have h8 : (cur.toList.take ((ln m + L) * 1))[j]? = some (mk m) := by rw [h7, List.getElem?_replicate, if_pos hj]
        rw [List.getElem?_take, if_pos (by omega)] at h8
        simpa using h8
      · rcases hb with h1 | h1
        · exact hap m' m hm' hn hne' g h2 h1
        · have := hv m' hm' g h2
          omega
  · obtain ⟨b, c', cs, h1, h2, h3, h4, h5⟩ := h m (by omega)
    exact ⟨b, c', cs, by unfold upd; rw [if_neg e0]; exact h1, by omega, h3, h4, h5⟩
theorem cu_at {mk : Nat → Value} {N L : Nat} {e : TypeId} {u : Nat → Value} {ad : Nat → Option Addr} {ln cp : Nat → Nat} {S n : Nat} {W : World} (h : CU mk N L e u ad ln cp n S W) (m : Nat) (hm : m < n) : ∃ b c, u m = .slice (some ⟨b, 0, none⟩) (ln m + L) c ∧ ∀ j, j < ln m + L → W.cell? ⟨b, j, none⟩ = some (mk m) := by
  obtain ⟨b, c, cs, h1, _, h3, h4, _⟩ := h m hm
  exact ⟨b, c, h1, fun j hj => by simp [World.cell?, h3, h4 j hj]⟩
/-- All that lay there but the lists' rows is as it was. -/
def RestN (N : Nat) (v : Nat → Value) (W0 W : World) : Prop := W0.heap.size ≤ W.heap.size ∧ ∀ q, q < W0.heap.size → (∀ m, m < N → (v m).ownBlock ≠ some q) → W.heap[q]? = W0.heap[q]?
theorem rest_below {N : Nat} {v : Nat → Value} {W0 W W' : World} (h : RestN N v W0 W) (hb : Below W.heap.size W W') : RestN N v W0 W' := ⟨Nat.le_trans h.1 hb.size, fun q h1 h2 => (hb.block q (by have := h.1; omega)).trans (h.2 q h1 h2)⟩
theorem rest_set {N : Nat} {v : Nat → Value} {W0 W : World} (h : RestN N v W0 W) {a : Addr} (ha : W0.heap.size ≤ a.block ∨ ∃ m, m < N ∧ (v m).ownBlock = some a.block) (u : Value) : RestN N v W0 (W.setCell a u) :=
  ⟨by simpa using h.1, fun q h1 h2 => (Below.heap_setCell _ _ _ _ (fun e => by
    rcases ha with h3 | ⟨m, hm, h3⟩
    · omega
    · exact h2 m hm (by rw [h3, e]))).trans (h.2 q h1 h2)⟩
theorem rest_grown {N : Nat} {v : Nat → Value} {W0 W W' : World} {row : Option Nat} (h : RestN N v W0 W) (hg : W.grownBy W' row) (ha : ∀ b, row = some b → W0.heap.size ≤ b ∨ ∃ m, m < N ∧ (v m).ownBlock = some b) : RestN N v W0 W' :=
  ⟨Nat.le_trans h.1 hg.size, fun q h1 h2 => (hg.block q (by have := h.1; omega) (fun e => by
    rcases ha q e.symm with h3 | ⟨m, hm, h3⟩
    · omega
    · exact h2 m hm h3)).trans (h.2 q h1 h2)⟩
/-- The lists to which nothing was appended yet. -/
def OV (mk : Nat → Value) (N : Nat) (e : TypeId) (B : Nat) (ad : Nat → Option Addr) (ln cp : Nat → Nat) (n : Nat) (W : World) : Prop := ∀ m, m < N → n ≤ m → W.ownsRow B e 1 (lv ad ln cp m) (ln m) (List.replicate (ln m) (mk m))
theorem ov_start {mk : Nat → Value} {N : Nat} {e : TypeId} {B : Nat} {ad : Nat → Option Addr} {ln cp : Nat → Nat} {W : World} (h : Marked mk N e B ad ln cp N 0 W) : OV mk N e B ad ln cp 0 W := by
  intro m hm _
  obtain ⟨zs, h1, h2⟩ := h m hm
  have hl : zs.length = ln m := by have := h1.1; omega
  have e : zs = List.replicate (ln m) (mk m) := by
    refine List.ext_getElem? fun j => ?_
    by_cases hj : j < ln m
    · rw [h2 j (.inl hm) hj, List.getElem?_replicate, if_pos hj]
    · rw [List.getElem?_eq_none (by omega), List.getElem?_eq_none (by simp; omega)]
  rw [← e]
  exact h1
theorem ov_grow {mk : Nat → Value} {N : Nat} {e : TypeId} {B n S : Nat} {ad : Nat → Option Addr} {ln cp : Nat → Nat} {vb : Option Nat} {W W' : World} (h : OV mk N e B ad ln cp (n + 1) W) (hg : W.grownBy W' vb) (hb : ∀ b, vb = some b → (lv ad ln cp n).ownBlock = some b ∨ S ≤ b) (hN : ∀ m, m < N → ∀ b, (lv ad ln cp m).ownBlock = some b → b < S)
    (hap : ApartN N (lv ad ln cp)) (hn : n < N) : OV mk N e B ad ln cp (n + 1) W' := by
  intro m hm hnm
  have h1 := h m hm hnm
  refine ⟨h1.1, ?_⟩
  rcases h1.2 with h3 | ⟨g', cap, cur, heq, hB, hh, r⟩
  · exact .inl h3
  · have hgb : (lv ad ln cp m).ownBlock = some g' := by rw [heq]; rfl
    refine .inr ⟨g', cap, cur, heq, hB, (hg.block g' (Array.getElem?_eq_some_iff.1 hh).1 (fun e0 => ?_)).trans hh, r⟩
    rcases hb g' e0.symm with h5 | h5
    · exact hap m n hm hn (by omega) g' hgb h5
    · have := hN m hm g' hgb
      omega
theorem ov_below {mk : Nat → Value} {N : Nat} {e : TypeId} {B n : Nat} {ad : Nat → Option Addr} {ln cp : Nat → Nat} {W W' : World} (h : OV mk N e B ad ln cp n W) (hb : Below W.heap.size W W') : OV mk N e B ad ln cp n W' := fun m hm hn => own_below (h m hm hn) hb
theorem ov_set {mk : Nat → Value} {N : Nat} {e : TypeId} {B n G : Nat} {ad : Nat → Option Addr} {ln cp : Nat → Nat} {W : World} (h : OV mk N e B ad ln cp n W) {a : Addr} (ha : a.block = G) (hG : ∀ m, m < N → ∀ b, (lv ad ln cp m).ownBlock = some b → b < G) (u : Value) : OV mk N e B ad ln cp n (W.setCell a u) := by
  intro m hm hn
  have h1 := h m hm hn
  refine ⟨h1.1, ?_⟩
  rcases h1.2 with h3 | ⟨g', cap, cur, heq, hB, hh, r⟩
  · exact .inl h3
  · have := hG m hm g' (by rw [heq]; rfl)
    exact .inr ⟨g', cap, cur, heq, hB, (Below.heap_setCell _ _ _ _ (by omega)).trans hh, r⟩
theorem cv_set {mk : Nat → Value} {N : Nat} {ad : Nat → Option Addr} {ln : Nat → Nat} {S : Nat} {W : World} (h : CV mk N ad ln S W) {a : Addr} (ha : S ≤ a.block) (u : Value) : CV mk N ad ln S (W.setCell a u) := fun m hm j hj => by
  obtain ⟨b, h1, h2, h3⟩ := h m hm j hj
  exact ⟨b, h1, h2, (World.cell?_of_block (a := ⟨b, j, none⟩) (Below.heap_setCell _ _ _ _ (by dsimp only; omega))).trans h3⟩
end Go.Vk
