/- More laws on whole rows of cells, over any program. -/
import Derived.Test.YthjnjdpiihpgeaaDoorBase
import Derived.StillTailTactics
import Derived.Laws.ResultCell
import Derived.RegionTactic
import Derived.BigRegion
namespace Go.Vk
open Go.RowKit
theorem kept_new2 {w w1 : World} {o o' : Obj} (hb : Below ((w.alloc o).alloc o').heap.size ((w.alloc o).alloc o') w1) : w1.heap[w.heap.size]? = some o :=
  (hb.block _ (by simp; omega)).trans (heap_alloc2_old w o o')
theorem kept_of {W w1 : World} {k : Nat} {o : Obj} (hb : Below W.heap.size W w1) (h : W.heap[k]? = some o) : w1.heap[k]? = some o :=
  (hb.block _ (Array.getElem?_eq_some_iff.1 h).1).trans h
theorem cells7 {w : World} {g t : Nat} {a0 a1 a2 a3 a4 a5 a6 : Value} (hg : w.heap[g]? = some (.cells #[a0, a1, a2, a3, a4, a5, a6] t (0, 0))) :
    w.cell? ⟨g, 0, none⟩ = some a0 ∧ w.cell? ⟨g, 1, none⟩ = some a1 ∧ w.cell? ⟨g, 2, none⟩ = some a2 ∧ w.cell? ⟨g, 3, none⟩ = some a3 ∧ w.cell? ⟨g, 4, none⟩ = some a4 ∧ w.cell? ⟨g, 5, none⟩ = some a5 ∧ w.cell? ⟨g, 6, none⟩ = some a6 ∧ (∀ o, w.frozen? ⟨g, o, none⟩ = false) ∧ g < w.heap.size := by
  refine ⟨?_, ?_, ?_, ?_, ?_, ?_, ?_, ?_, (Array.getElem?_eq_some_iff.1 hg).1⟩
  all_goals simp [World.cell?, World.frozen?, hg]
theorem set7_eq {w : World} {g t : Nat} {a0 a1 a2 a3 a4 a5 a6 : Value} {fr : Nat × Nat} (hg : w.heap[g]? = some (.cells #[a0, a1, a2, a3, a4, a5, a6] t fr)) (v0 v1 v2 v3 v4 v5 v6 : Value) :
    (((((((w.setCell ⟨g, 0, none⟩ v0).setCell ⟨g, 1, none⟩ v1).setCell ⟨g, 2, none⟩ v2).setCell ⟨g, 3, none⟩ v3).setCell ⟨g, 4, none⟩ v4).setCell ⟨g, 5, none⟩ v5).setCell ⟨g, 6, none⟩ v6) = w.setRow g #[v0, v1, v2, v3, v4, v5, v6] := by
  rw [setCell_eq_setRow w g 0 _ t fr v0 hg, setCell_eq_setRow _ g 1 _ t fr v1 (setRow_heap _ _ _ _ _ _ hg), setRow_setRow, setCell_eq_setRow _ g 2 _ t fr v2 (setRow_heap _ _ _ _ _ _ hg), setRow_setRow, setCell_eq_setRow _ g 3 _ t fr v3 (setRow_heap _ _ _ _ _ _ hg), setRow_setRow, setCell_eq_setRow _ g 4 _ t fr v4 (setRow_heap _ _ _ _ _ _ hg), setRow_setRow, setCell_eq_setRow _ g 5 _ t fr v5 (setRow_heap _ _ _ _ _ _ hg), setRow_setRow, setCell_eq_setRow _ g 6 _ t fr v6 (setRow_heap _ _ _ _ _ _ hg), setRow_setRow]
  rfl
theorem results_row_tmp {P : Program} {fn : Func} {p u : Tmp} {ty : TypeId} (h : fn.results = #[.cell p ty, .tmp u]) (tmps : Array Value) (w : World) (g : Nat) (t : TypeId) (cs : Array Value) (fr : Nat × Nat) (d : TypeDesc)
    (hp : tmps.getD p undef = .pointer (some ⟨g, 0, none⟩)) (hg : w.heap[g]? = some (.cells cs t fr))
    (hu : P.underlying ty = some d) (hd : (match d with | .struct _ | .array _ _ => true | _ => false) = true) (hi : (P.info? ty).map (·.size) = some cs.size) :
    (results fn tmps).run P w = .ok (.tuple #[.agg cs, tmps.getD u undef]) w := by
  rw [results_cell_tmp h tmps P w, hp]
  simp [asAddr, run_loadVar_row w g t ty cs fr d hg hu hd hi]
end Go.Vk
