/- The open records of ranges over functions, however many rounds laid one, run at the function's end. Over any program. -/
import Derived.Test.YthjnjdpiihpgeaaDoorCount
import Derived.Test.YthjnjdpiihpgeaaDoorKeep
namespace Go.Vk
open Go.RowKit
/-- The defers that the rounds have laid: each round's record lies behind the ones before. -/
def DefsL (B : Nat) : List Deferred → World → Prop
  | [], _ => True
  | d :: ds, W => (∃ D, d = { target := .collected D, args := #[] } ∧ B ≤ D ∧ W.heap[D]? = some (.deferred (some [])) ∧ ∀ d' ∈ ds, ∀ D', d'.target = .collected D' → D' < D) ∧ DefsL B ds W
theorem defsl_keep {B : Nat} {W W' : World} : ∀ {ds : List Deferred}, DefsL B ds W → (∀ (k : Nat) (o : Obj), W.heap[k]? = some o → o.isCells = false → W'.heap[k]? = some o) → DefsL B ds W'
  | [], _, _ => trivial
  | _ :: _, ⟨⟨D, h1, h2, h3, h4⟩, h5⟩, hk => ⟨⟨D, h1, h2, hk D _ h3 rfl, h4⟩, defsl_keep h5 hk⟩
theorem defsl_below {B : Nat} {W W' : World} {ds : List Deferred} (h : DefsL B ds W) (hb : Below W.heap.size W W') : DefsL B ds W' := defsl_keep h fun _ _ hk _ => kept_of2 hb hk
theorem defsl_lt {B : Nat} {W : World} : ∀ {ds : List Deferred}, DefsL B ds W → ∀ d ∈ ds, ∀ D, d.target = .collected D → D < W.heap.size
  | _ :: _, ⟨⟨D, h1, _, h3, _⟩, h5⟩, d, hd, D', he => by
    rcases List.mem_cons.1 hd with rfl | hd
    · subst h1
      cases he
      exact (Array.getElem?_eq_some_iff.1 h3).1
    · exact defsl_lt h5 d hd D' he
/-- One record more. -/
theorem defsl_cons {B D : Nat} {W W' : World} {ds : List Deferred} (h : DefsL B ds W) (hk : ∀ (k : Nat) (o : Obj), k < W.heap.size → W.heap[k]? = some o → o.isCells = false → W'.heap[k]? = some o) (hB : B ≤ D) (hD : W.heap.size ≤ D) (hd : W'.heap[D]? = some (.deferred (some []))) : DefsL B ({ target := .collected D, args := #[] } :: ds) W' :=
  ⟨⟨D, rfl, hB, hd, fun d' hd' D' he => Nat.lt_of_lt_of_le (defsl_lt h d' hd' D' he) hD⟩, defsl_keep h fun k o hk' hc => hk k o (Array.getElem?_eq_some_iff.1 hk').1 hk' hc⟩
theorem defsl_put {B D : Nat} {W : World} (o : Obj) : ∀ {ds : List Deferred}, DefsL B ds W → (∀ d ∈ ds, ∀ D', d.target = .collected D' → D' < D) → DefsL B ds (W.putObj D o)
  | [], _, _ => trivial
  | _ :: _, ⟨⟨D', h1, h2, h3, h4⟩, h5⟩, hl => ⟨⟨D', h1, h2, (World.putObj_heap_other (by have := hl _ (List.mem_cons_self ..) D' (by rw [h1]); omega)).trans h3, h4⟩, defsl_put o h5 fun d hd => hl d (List.mem_cons_of_mem _ hd)⟩
/-- All of them are run: no cell is touched. -/
theorem leaves_defs {F : Fence} {n : Nat} {P : Program} {fn : Func} {tmps : Array Value} {R : Ending → World → Prop} {B : Nat} : ∀ (ds : List Deferred) (W : World), DefsL B ds W →
    (∀ W', Below B W W' → (∀ (k : Nat) (o : Obj), W.heap[k]? = some o → o.isCells = true → W'.heap[k]? = some o) → LeavesInM F n P fn tmps R [] .returning W') → LeavesInM F n P fn tmps R ds .returning W
  | [], W, _, h => h W (Below.refl _ _) fun _ _ hk _ => hk
  | d :: ds, W, ⟨⟨D, h1, h2, h3, h4⟩, h5⟩, h => by
    subst h1
    refine ⟨by simp, .inl ⟨D, _, rfl, run_takeDeferred h3, ?_⟩⟩
    refine leaves_defs ds _ (defsl_put _ h5 h4) fun W' hb hk => h W' ?_ fun k o ho hc => hk k o ((World.putObj_heap_other (fun e => by rw [e, h3] at ho; cases ho; cases hc)).trans ho) hc
    have hb0 : Below B W (W.putObj D (.deferred none)) := (Below.refl B W).grown (grownBy_putObj' W D (.deferred none)) (Nat.le_of_lt (Nat.lt_of_le_of_lt h2 (Array.getElem?_eq_some_iff.1 h3).1)) (fun k e => by cases e; exact h2)
    exact hb0.trans hb
end Go.Vk
