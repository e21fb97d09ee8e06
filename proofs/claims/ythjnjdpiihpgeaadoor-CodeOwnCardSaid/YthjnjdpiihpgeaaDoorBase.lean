/- Laws on whole rows of cells, over any program: a struct's value stored into its variable, a result read out of its variable. -/
import Derived.WalkKit
import Derived.WalkLawsBesides
import Derived.WalkSpells
import Derived.Below
import Derived.KernelRfl
import Derived.RowKit3
import Derived.Laws.Rows
import Derived.Laws.Tables
import Derived.Deep.QuietTactic
import Derived.BigQuiet
import Derived.Outline
import Derived.Lib.Hide
namespace Go.Vk
open Go.RowKit
variable {P : Program}

theorem below_setRow {B : Nat} {a w : World} (h : Below B a w) {g : Nat} (hg : B ≤ g) (vs : Array Value) : Below B a (w.setRow g vs) :=
  h.trans ⟨rfl, rfl, rfl, by simp, fun k hk => by unfold World.setRow; simp only [Array.getElem?_modify]; rw [if_neg (by omega)]⟩

theorem heap_setRow (w : World) (g k : Nat) (vs : Array Value) (h : k ≠ g) : (w.setRow g vs).heap[k]? = w.heap[k]? := by
  unfold World.setRow; simp only [Array.getElem?_modify]; rw [if_neg (by omega)]

theorem bcell {W w1 : World} (hb : Below W.heap.size W w1) : (∀ b o, b < W.heap.size → w1.cell? ⟨b, o, none⟩ = W.cell? ⟨b, o, none⟩) ∧ (∀ b o, b < W.heap.size → w1.frozen? ⟨b, o, none⟩ = W.frozen? ⟨b, o, none⟩) :=
  ⟨fun b o h => hb.cell (p := ⟨b, o, none⟩) h, fun b o h => hb.frozen (p := ⟨b, o, none⟩) h⟩

/-- The block that was laid just ahead of a call that leaves what lay there. -/
theorem kept_new {w w1 : World} {o : Obj} (hb : Below (w.alloc o).heap.size (w.alloc o) w1) : w1.heap[w.heap.size]? = some o :=
  (hb.block _ (by simp)).trans (heap_alloc_new w o)
end Go.Vk
