/- Texts in one: Base, Base2, Open, Open2, Base3, Round, RangeF, RangeN, OpenTurns, OpenPairs, Base4, OwnSet, Keep, Count, Defs, Frames, Trip, OpenTrip, OpenBools, Order, OrderN, OrderP, Marks. -/
import Derived.WalkKit
import Derived.WalkLawsBesides
import Derived.WalkSpells
import Derived.Below
import Derived.KernelRfl
import Derived.RowKit3
import Derived.Laws.Rows
import Derived.Laws.Tables
import Derived.Deep.QuietTactic
import Derived.BigQuiet
import Derived.Outline
import Derived.Lib.Hide
import Derived.StillTailTactics
import Derived.Laws.ResultCell
import Derived.RegionTactic
import Derived.BigRegion
import Derived.SizedLaws
import Derived.ChangeSlices
import Derived.Lib.QuietBelowIn
import Derived.RangeFuncCalls
import Derived.Deep.OwnRows
import Derived.RangeFuncNested
import Derived.RangeFuncBound
import Derived.Deep.SlicePairs
import Derived.ChangeArms
import Derived.Maps.AppendAt
import Derived.Laws.AppendOwn
import Derived.OwnWalkIn
import Derived.RangeFuncLeaves
import Derived.RangeFuncBox
import Derived.Laws.OwnMore
import Derived.Laws.AppendOwnNone
/- Laws on whole rows of cells, over any program: a struct's value stored into its variable, a result read out of its variable. -/
namespace Go.Vk
open Go.RowKit
variable {P : Program}

theorem below_setRow {B : Nat} {a w : World} (h : Below B a w) {g : Nat} (hg : B ≤ g) (vs : Array Value) : Below B a (w.setRow g vs) :=
  h.trans ⟨rfl, rfl, rfl, by simp, fun k hk => by unfold World.setRow; simp only [Array.getElem?_modify]; rw [if_neg (by omega)]⟩

theorem heap_setRow (w : World) (g k : Nat) (vs : Array Value) (h : k ≠ g) : (w.setRow g vs).heap[k]? = w.heap[k]? := by
  unfold World.setRow; simp only [Array.getElem?_modify]; rw [if_neg (by omega)]

theorem bcell {W w1 : World} (hb : Below W.heap.size W w1) : (∀ b o, b < W.heap.size → w1.cell? ⟨b, o, none⟩ = W.cell? ⟨b, o, none⟩) ∧ (∀ b o, b < W.heap.size → w1.frozen? ⟨b, o, none⟩ = W.frozen? ⟨b, o, none⟩) :=
  ⟨fun b o h => hb.cell (p := ⟨b, o, none⟩) h, fun b o h => hb.frozen (p := ⟨b, o, none⟩) h⟩

/-- The block that was laid just ahead of a call that leaves what lay there. -/
theorem kept_new {w w1 : World} {o : Obj} (hb : Below (w.alloc o).heap.size (w.alloc o) w1) : w1.heap[w.heap.size]? = some o :=
  (hb.block _ (by simp)).trans (heap_alloc_new w o)
end Go.Vk
/- More laws on whole rows of cells, over any program. -/
namespace Go.Vk
open Go.RowKit
theorem kept_new2 {w w1 : World} {o o' : Obj} (hb : Below ((w.alloc o).alloc o').heap.size ((w.alloc o).alloc o') w1) : w1.heap[w.heap.size]? = some o :=
  (hb.block _ (by simp; omega)).trans (heap_alloc2_old w o o')
theorem kept_of {W w1 : World} {k : Nat} {o : Obj} (hb : Below W.heap.size W w1) (h : W.heap[k]? = some o) : w1.heap[k]? = some o :=
  (hb.block _ (Array.getElem?_eq_some_iff.1 h).1).trans h
theorem cells7 {w : World} {g t : Nat} {a0 a1 a2 a3 a4 a5 a6 : Value} (hg : w.heap[g]? = some (.cells #[a0, a1, a2, a3, a4, a5, a6] t (0, 0))) :
    w.cell? ⟨g, 0, none⟩ = some a0 ∧ w.cell? ⟨g, 1, none⟩ = some a1 ∧ w.cell? ⟨g, 2, none⟩ = some a2 ∧ w.cell? ⟨g, 3, none⟩ = some a3 ∧ w.cell? ⟨g, 4, none⟩ = some a4 ∧ w.cell? ⟨g, 5, none⟩ = some a5 ∧ w.cell? ⟨g, 6, none⟩ = some a6 ∧ (∀ o, w.frozen? ⟨g, o, none⟩ = false) ∧ g < w.heap.size := by
  refine ⟨?_, ?_, ?_, ?_, ?_, ?_, ?_, ?_, (Array.getElem?_eq_some_iff.1 hg).1⟩
  all_goals simp [World.cell?, World.frozen?, hg]
theorem set7_eq {w : World} {g t : Nat} {a0 a1 a2 a3 a4 a5 a6 : Value} {fr : Nat × Nat} (hg : w.heap[g]? = some (.cells #[a0, a1, a2, a3, a4, a5, a6] t fr)) (v0 v1 v2 v3 v4 v5 v6 : Value) :
    (((((((w.setCell ⟨g, 0, none⟩ v0).setCell ⟨g, 1, none⟩ v1).setCell ⟨g, 2, none⟩ v2).setCell ⟨g, 3, none⟩ v3).setCell ⟨g, 4, none⟩ v4).setCell ⟨g, 5, none⟩ v5).setCell ⟨g, 6, none⟩ v6) = w.setRow g #[v0, v1, v2, v3, v4, v5, v6] := by
  rw [setCell_eq_setRow w g 0 _ t fr v0 hg, setCell_eq_setRow _ g 1 _ t fr v1 (setRow_heap _ _ _ _ _ _ hg), setRow_setRow, setCell_eq_setRow _ g 2 _ t fr v2 (setRow_heap _ _ _ _ _ _ hg), setRow_setRow, setCell_eq_setRow _ g 3 _ t fr v3 (setRow_heap _ _ _ _ _ _ hg), setRow_setRow, setCell_eq_setRow _ g 4 _ t fr v4 (setRow_heap _ _ _ _ _ _ hg), setRow_setRow, setCell_eq_setRow _ g 5 _ t fr v5 (setRow_heap _ _ _ _ _ _ hg), setRow_setRow, setCell_eq_setRow _ g 6 _ t fr v6 (setRow_heap _ _ _ _ _ _ hg), setRow_setRow]
  rfl
theorem results_row_tmp {P : Program} {fn : Func} {p u : Tmp} {ty : TypeId} (h : fn.results = #[.cell p ty, .tmp u]) (tmps : Array Value) (w : World) (g : Nat) (t : TypeId) (cs : Array Value) (fr : Nat × Nat) (d : TypeDesc)
    (hp : tmps.getD p undef = .pointer (some ⟨g, 0, none⟩)) (hg : w.heap[g]? = some (.cells cs t fr))
    (hu : P.underlying ty = some d) (hd : (match d with | .struct _ | .array _ _ => true | _ => false) = true) (hi : (P.info? ty).map (·.size) = some cs.size) :
    (results fn tmps).run P w = .ok (.tuple #[.agg cs, tmps.getD u undef]) w := by
  rw [results_cell_tmp h tmps P w, hp]
  simp [asAddr, run_loadVar_row w g t ty cs fr d hg hu hd hi]
end Go.Vk
/- Arguments opened: a slice of integers that came in, as a list. Over any program. -/
namespace Go.Vk
open Go.ChangeShapes Go.WideShapes Go.RowKit
/-- A slice of integers that is read. -/
def IntsAt (w : World) (k : IntKind) (A : Option Addr) (zs : List Int) : Prop := ∀ i, i < zs.length → ∃ x, A = some x ∧ w.cell? (x.add i) = some (.int k (zs.getD i 0))
theorem open_intsAt {H : Type} {enc : TypeId × Value → H} {P : Program} {W : World} {base : Nat} {spare : Nat → Bool} {held : Bool} {t e : TypeId} {k : IntKind} {a : Option Addr} {len cap : Nat} {d : DataW H} {ps : List MemPlace}
    (hu : P.underlying t = some (.slice e)) (he : P.underlying e = some (.int k)) (hc : P.cellsOf e = 1)
    (h : DataW.Trod enc P W base spare held t (.slice a len cap) d ps) : ∃ zs : List Int, zs.length ≤ cap ∧ len = zs.length ∧ IntsAt W k a zs ∧ (∀ n ∈ zs, (Lit.int k n).wf = true) ∧ cap ≤ maxLen := by
  obtain ⟨fuel, hf⟩ := h
  rcases open_ints hu he hc hf with ⟨hcs, _⟩ | ⟨x, l, c, zs, hcs, _, hl, hm, hz, hx, hcell, hwf⟩
  · simp [Value.cells] at hcs
    obtain ⟨rfl, rfl, rfl⟩ := hcs
    exact ⟨[], by simp, rfl, fun i hi => by simp at hi, fun n hn => by simp at hn, by unfold maxLen; omega⟩
  · simp [Value.cells] at hcs
    obtain ⟨rfl, rfl, rfl⟩ := hcs
    have hl2 : len ≤ zs.length := by
      rw [hz]
      split
      · exact hl
      · exact Nat.le_refl _
    refine ⟨zs.take len, by simp; omega, by simp; omega, fun i hi => ⟨x, rfl, ?_⟩, fun n hn => hwf n (List.mem_of_mem_take hn), hm⟩
    have hi' : i < len := by simp at hi; omega
    rw [hcell i (by omega)]
    simp [List.getD_eq_getElem?_getD, hi']
/-- A row's slice of whole numbers is no longer than its weight allows. -/
theorem sized_ints {H : Type} {enc : TypeId × Value → H} {P : Program} {W : World} {base : Nat} {spare : Nat → Bool} {held : Bool} {t e : TypeId} {k : IntKind} {a : Option Addr} {len cap : Nat} {d : DataW H} {ps : List MemPlace} {ts : List TypeId} {ds : List (DataW H)} {j : Nat}
    (hsz : (DataW.weightsEach P ts ds).all (· ≤ reachBytes) = true) (ht : ts[j]? = some t) (hd : ds[j]? = some d) (hu : P.underlying t = some (.slice e)) (he : P.underlying e = some (.int k)) (hc : P.cellsOf e = 1) {B : Nat} (hB : P.bytesOf e = B)
    (h : DataW.Trod enc P W base spare held t (.slice a len cap) d ps) : len * B ≤ 140737488351232 := by
  obtain ⟨fuel, hf⟩ := h
  rcases open_ints hu he hc hf with ⟨hcs, _⟩ | ⟨x, l, c, zs, hcs, _, hl, _, hz, hx, _, _⟩
  · simp [Value.cells] at hcs
    obtain ⟨rfl, rfl, rfl⟩ := hcs
    simp
  · simp [Value.cells] at hcs
    obtain ⟨rfl, rfl, rfl⟩ := hcs
    obtain ⟨hx, _⟩ := Prod.mk.inj hx
    subst hx
    have z := sized_slice hsz ht hd hu
    rw [hB] at z
    have hl2 : len ≤ zs.length := by
      rw [hz]
      split
      · exact hl
      · exact Nat.le_refl _
    have h1 : (lits (H := H) k (zs.take len)).length + (lits (H := H) k (zs.drop len)).length = zs.length := by
      simp [lits]
      omega
    rw [h1] at z
    exact Nat.le_trans (Nat.mul_le_mul_right _ hl2) z
end Go.Vk
/- A slice of integers that came in, as a list; a nil slice has no room. Over any program. -/
namespace Go.Vk
open Go.ChangeShapes Go.WideShapes Go.RowKit
theorem open_intsAt2 {H : Type} {enc : TypeId × Value → H} {P : Program} {W : World} {base : Nat} {spare : Nat → Bool} {held : Bool} {t e : TypeId} {k : IntKind} {a : Option Addr} {len cap : Nat} {d : DataW H} {ps : List MemPlace}
    (hu : P.underlying t = some (.slice e)) (he : P.underlying e = some (.int k)) (hc : P.cellsOf e = 1)
    (h : DataW.Trod enc P W base spare held t (.slice a len cap) d ps) : ∃ zs : List Int, zs.length ≤ cap ∧ len = zs.length ∧ IntsAt W k a zs ∧ (∀ n ∈ zs, (Lit.int k n).wf = true) ∧ (a = none → cap = 0) := by
  obtain ⟨zs, h1, h2, h3, h4, _⟩ := open_intsAt hu he hc h
  refine ⟨zs, h1, h2, h3, h4, fun hn => ?_⟩
  obtain ⟨fuel, hf⟩ := h
  rcases open_ints hu he hc hf with ⟨hcs, _⟩ | ⟨x, l, c, zs', hcs, _⟩
  · simp [Value.cells] at hcs
    exact hcs.2.2
  · simp [Value.cells] at hcs
    rw [hn] at hcs
    cases hcs.1
end Go.Vk
/- Rows of four cells; a slice cut at its head. Over any program. -/
namespace Go.Vk
open Go.RowKit
theorem cells4 {w : World} {g t : Nat} {a0 a1 a2 a3 : Value} (hg : w.heap[g]? = some (.cells #[a0, a1, a2, a3] t (0, 0))) :
    w.cell? ⟨g, 0, none⟩ = some a0 ∧ w.cell? ⟨g, 1, none⟩ = some a1 ∧ w.cell? ⟨g, 2, none⟩ = some a2 ∧ w.cell? ⟨g, 3, none⟩ = some a3 ∧ (∀ o, w.frozen? ⟨g, o, none⟩ = false) ∧ g < w.heap.size := by
  refine ⟨?_, ?_, ?_, ?_, ?_, (Array.getElem?_eq_some_iff.1 hg).1⟩
  all_goals simp [World.cell?, World.frozen?, hg]
theorem set4_eq {w : World} {g t : Nat} {a0 a1 a2 a3 : Value} {fr : Nat × Nat} (hg : w.heap[g]? = some (.cells #[a0, a1, a2, a3] t fr)) (v0 v1 v2 v3 : Value) :
    ((((w.setCell ⟨g, 0, none⟩ v0).setCell ⟨g, 1, none⟩ v1).setCell ⟨g, 2, none⟩ v2).setCell ⟨g, 3, none⟩ v3) = w.setRow g #[v0, v1, v2, v3] := by
  rw [setCell_eq_setRow w g 0 _ t fr v0 hg, setCell_eq_setRow _ g 1 _ t fr v1 (setRow_heap _ _ _ _ _ _ hg), setRow_setRow, setCell_eq_setRow _ g 2 _ t fr v2 (setRow_heap _ _ _ _ _ _ hg), setRow_setRow, setCell_eq_setRow _ g 3 _ t fr v3 (setRow_heap _ _ _ _ _ _ hg), setRow_setRow]
  rfl
theorem addr_add_add (y : Addr) (a b : Nat) : (y.add a).add b = y.add (a + b) := by
  unfold Addr.add
  by_cases ha : a = 0
  · subst ha; simp
  · by_cases hb : b = 0
    · subst hb; simp [ha]
    · simp [ha, hb]; omega
theorem ints_drop {w : World} {k : IntKind} {y : Addr} {zs : List Int} (h : IntsAt w k (some y) zs) (q : Nat) : IntsAt w k (some (y.add q)) (zs.drop q) := fun i hi => by
  simp only [List.length_drop] at hi
  obtain ⟨x, hx, hc⟩ := h (q + i) (by omega)
  cases hx
  refine ⟨y.add q, rfl, ?_⟩
  rw [addr_add_add, hc]
  simp [List.getD_eq_getElem?_getD]
theorem ints_take {w : World} {k : IntKind} {A : Option Addr} {zs : List Int} (h : IntsAt w k A zs) (q : Nat) : IntsAt w k A (zs.take q) := fun i hi => by
  simp only [List.length_take] at hi
  obtain ⟨x, hx, hc⟩ := h i (by omega)
  refine ⟨x, hx, ?_⟩
  rw [hc, List.getD_eq_getElem?_getD, List.getD_eq_getElem?_getD, List.getElem?_take, if_pos (by omega)]
theorem ints_nil (w : World) (k : IntKind) (A : Option Addr) : IntsAt w k A [] := fun i hi => by simp at hi
end Go.Vk
/- Regions that draw their order and hold calls that make memory, walked once in the order of the text: inside a range over a function (in a round), and outside. Over any program. -/
namespace Go.Vk
open Go.Sort Go.RowKit
/-- No defer. -/
def noDefer (o : Oper) : Bool := match o.op with | .defer _ => false | _ => true
theorem noDefer_ne {o : Oper} (h : noDefer o = true) (c : Call) : o.op ≠ .defer c := fun e => by
  unfold noDefer at h
  rw [e] at h
  cases h
theorem uponIn_inRound {F : Fence} {n : Nat} {P : Program} {o : Oper} {a : Act} {next : Act → World → Prop} {Q : Exit → Act → World → Prop} (l : Nat) {r : Result Next} (h : o.uponIn F n P a next Q r) : o.uponIn (F.inRound l) n P a next Q r := by
  cases r with
  | ok x w => cases x <;> exact h
  | halt x w => cases x <;> exact h
theorem wpIn_oper_round {F : Fence} {n : Nat} {P : Program} {o : Oper} {a : Act} {w : World} {next : Act → World → Prop} {Q : Exit → Act → World → Prop} (l : Nat) (hd : noDefer o = true) (h : o.wpIn F n P a w next Q) : o.wpIn (F.inRound l) n P a w next Q := by
  unfold Oper.wpIn at *
  refine ⟨h.1, ?_⟩
  have h2 := h.2
  have e1 : Oper.semAt F.round a.eval o = execOp a.eval o := Oper.semAt_eq _ _ _ (noDefer_ne hd)
  have e2 : Oper.semAt (F.inRound l).round a.eval o = execOp a.eval o := Oper.semAt_eq _ _ _ (noDefer_ne hd)
  rw [e1] at h2
  rw [e2]
  exact uponIn_inRound l h2
theorem wpOpIn_round {F : Fence} {n : Nat} {P : Program} {ops : Array Oper} {Q : Exit → Act → World → Prop} {i : Nat} {K K' : Act → World → Prop} {a : Act} {w : World} (l : Nat) (hd : ∀ o, ops[i]? = some o → noDefer o = true) (hK : ∀ a w, K a w → K' a w)
    (h : wpOpIn F n P ops Q i K a w) : wpOpIn (F.inRound l) n P ops Q i K' a w := by
  unfold wpOpIn at *
  split
  · exact hK _ _ (by simpa [*] using h)
  · rename_i o ho
    simp only [ho] at h
    split
    · rename_i hw; simp only [hw, if_true] at h; exact wpIn_oper_round l (hd o ho) (Oper.wpIn_mono hK h)
    · rename_i hw; simp only [hw] at h; exact ⟨h.1, hK _ _ h.2⟩
theorem wpAnyIn_round {F : Fence} {n : Nat} {P : Program} {ops : Array Oper} {md : Region.Mode} {Q : Exit → Act → World → Prop} (l : Nat) (hd : ∀ (i : Nat) o, ops[i]? = some o → noDefer o = true) : ∀ (fuel : Nat) (listed : Array Bool) (a : Act) (w : World),
    wpAnyIn F n P md ops Q fuel listed a w → wpAnyIn (F.inRound l) n P md ops Q fuel listed a w
  | 0, _, _, _, h => h
  | fuel + 1, _, _, _, h => ⟨h.1, fun i hi => wpOpIn_round l (hd i) (fun a' w' => wpAnyIn_round l hd fuel _ a' w') (h.2 i hi)⟩
/-- A region in a round: one walk, in the order of the text; behind it whatever world that keeps what was there. -/
theorem wpIn_region_round {F : Fence} {n : Nat} {P : Program} {id : Nat} {Q : Exit → Act → World → Prop} {a : Act} {w : World} {l : List Oper} {lp : Nat} (hro : F.round = none) (hm : P.follows .mixedOrders = true) (hB : Region.lexB .any l.toArray = true) (hd : l.all noDefer = true)
    (h : wpQuietIn F n P l.toArray (fun w' => ∃ p : Regrown, w' = grow (redrawn w p.d) p.os) (fun a' => ∀ w', (∃ p : Regrown, w' = grow (redrawn w p.d) p.os) → Q .normal a' w') l a) : (Code.region id l.toArray true).wpIn (F.inRound lp) n P Q a w := by
  simp only [Region.lexB, Bool.and_eq_true] at hB
  refine wpIn_region_any hm (wpAnyIn_round lp ?_ _ _ _ _ (wpAnyIn_of_quiet (C := fun w' => ∃ p : Regrown, w' = grow (redrawn w p.d) p.os) (Q := fun a' => ∀ w', (∃ p : Regrown, w' = grow (redrawn w p.d) p.os) → Q .normal a' w') hro (fun _ w' hw' h => h w' hw') _ _ _ _ ⟨⟨w.drawn + 1, #[]⟩, by rw [grow_empty]; rfl⟩ ?_))
  · intro i o hi
    have hm := List.mem_of_getElem? (l := l) (by simpa using hi)
    exact List.all_eq_true.1 hd o hm
  · have := wpAnyQIn_lex (F := F) (n := n) (C := fun w' => ∃ p : Regrown, w' = grow (redrawn w p.d) p.os) (md := .any) hB.1 l 0 (Array.replicate l.toArray.size false) a (by simp) (by simpa using hB.2) h
    simpa using this
/-- A contract that ends in Below, met in a world of the class: fenced. -/
theorem callsIn_grown {r : Nat} {P : Program} {f : FuncId} {args : Array Value} {w : World} {v : Value}
    (h : ∀ w1, Below w.heap.size w w1 → Calls P f args w1 fun e w' => e = .returned v ∧ Below w1.heap.size w1 w') (d : Nat) (os : Array Obj) :
    CallsIn Fence.wide r P f args (grow (redrawn w d) os) fun e w'' => e = .returned v ∧ ∃ p : Regrown, w'' = grow (redrawn w p.d) p.os := CallsIn.regrown_of (callsIn_wide.2 (h _ (below_regrown w d os)))
/-- The same, outside a fence. -/
theorem calls_grown {P : Program} {f : FuncId} {args : Array Value} {w : World} {v : Value}
    (h : ∀ w1, Below w.heap.size w w1 → Calls P f args w1 fun e w' => e = .returned v ∧ Below w1.heap.size w1 w') (d : Nat) (os : Array Obj) :
    Calls P f args (grow (redrawn w d) os) fun e w'' => e = .returned v ∧ ∃ p : Regrown, w'' = grow (redrawn w p.d) p.os := Calls.regrown_of (h _ (below_regrown w d os))
end Go.Vk
/- A range over a function whose iterator tells, of each element that it yields, what holds of it then (rows that it has made): outermost and inside a round. Over any program. -/
namespace Go.Vk
open Go.RowKit
/-- An iterator (each element is yielded with one block of the iterator's own laid last, which the round must keep): Hd must hold whenever it goes on, Fx holds of each element when it is yielded. -/
def SeqF {α : Type} (F : Fence) (n : Nat) (P : Program) (g : Nat) (lb : Array Value) (encs : α → Array Value) (Hd : World → Prop) (Fx : List α → α → World → Prop) (S Sp : List α → Prop) (w : World) : Prop :=
  ∀ (l : Nat) (J Jx : List α → World → Prop) (W : World), Below w.heap.size w W → AbidesFrom W.heap.size J → AbidesFrom W.heap.size Jx → (∀ pre W1, J pre W1 → Hd W1) →
    (∀ pre x W1 o, J pre W1 → Fx pre x W1 → o.isCells = true → YieldAt F (n - 1) P l (encs x) (W1.alloc o) fun e W' =>
      (e = .returned (.bool true) ∧ J (pre ++ [x]) W' ∧ W'.heap[W1.heap.size]? = some o) ∨ (e = .returned (.bool false) ∧ Jx (pre ++ [x]) W')) →
    J [] W →
    CallsIn F n P g (#[.func (.yield l) #[] #[]] ++ lb) W fun e W' => (∃ v, e = .returned v) ∧ ((∃ xs, S xs ∧ J xs W') ∨ (∃ pre, Sp pre ∧ Jx pre W'))
theorem YieldAt.inRound {F : Fence} {m : Nat} {P : Program} {l : Nat} {args : Array Value} {W : World} {R : Ending → World → Prop} (q : Nat) (h : YieldAt F m P l args W R) : YieldAt (F.inRound q) m P l args W R := h
theorem YieldAt.outOfRound {F : Fence} {m : Nat} {P : Program} {l : Nat} {args : Array Value} {W : World} {R : Ending → World → Prop} {q : Nat} (h : YieldAt (F.inRound q) m P l args W R) : YieldAt F m P l args W R := h
theorem SeqF.inRound {α : Type} {F : Fence} {n : Nat} {P : Program} {g : Nat} {lb : Array Value} {encs : α → Array Value} {Hd : World → Prop} {Fx : List α → α → World → Prop} {S Sp : List α → Prop} {w : World} (q : Nat)
    (h : SeqF F n P g lb encs Hd Fx S Sp w) : SeqF (F.inRound q) n P g lb encs Hd Fx S Sp w := fun l J Jx W hW hJ hJx hH hY h0 =>
  CallsIn.inRound q (h l J Jx W hW hJ hJx hH (fun pre x W1 o hj hf ho => YieldAt.outOfRound (hY pre x W1 o hj hf ho)) h0)
/-- The two records of a loop. -/
structure Books (l D : Nat) (r : Loop) (W : World) : Prop where
  loop : W.heap[l]? = some (.loop r)
  defs : W.heap[D]? = some (.deferred (some []))
theorem Books.lt {l D : Nat} {r : Loop} {W : World} (h : Books l D r W) : l < W.heap.size ∧ D < W.heap.size ∧ l ≠ D :=
  ⟨(Array.getElem?_eq_some_iff.1 h.loop).1, (Array.getElem?_eq_some_iff.1 h.defs).1, fun e => by have h1 := h.loop; have h2 := h.defs; rw [e, h2] at h1; cases h1⟩
theorem Books.kept {l D B : Nat} {r : Loop} {W W' : World} (h : Books l D r W) (hl : B ≤ l) (hD : B ≤ D) (hk : KeepsFrom B W W') : Books l D r W' :=
  ⟨hk.same _ _ hl h.loop rfl, hk.same _ _ hD h.defs rfl⟩
theorem Books.grown {l D B : Nat} {r : Loop} {A A' : World} {row : Option Nat} (h : Books l D r A) (hl : l < B) (hD : D < B) (hg : A.grownBy A' row) (hr : ∀ k, row = some k → B ≤ k) : Books l D r A' := by
  have hlt := h.lt
  exact ⟨(hg.block l hlt.1 (fun e => by have := hr l e.symm; omega)).trans h.loop, (hg.block D hlt.2.1 (fun e => by have := hr D e.symm; omega)).trans h.defs⟩
theorem Books.put {l D : Nat} {r : Loop} {W : World} (h : Books l D r W) (r' : Loop) : Books l D r' (W.putObj l (.loop r')) :=
  ⟨World.putObj_heap_same h.lt.1, (World.putObj_heap_other (fun e => h.lt.2.2 e.symm)).trans h.defs⟩
/-- How the body of a round may be left: block r stays where the loop goes on. -/
def postF {α : Type} (B r : Nat) (o : Obj) (I : List α → World → Prop) (Ix : Code → List α → World → Prop) (xs : List α) (W : World) : Exit → Act → World → Prop
  | .normal, _, W' => KeepsFrom B W W' ∧ I xs W' ∧ W'.heap[r]? = some o
  | .ret, _, W' => KeepsFrom B W W' ∧ Ix .ret xs W'
  | .exit id, _, W' => KeepsFrom B W W' ∧ Ix (.exit id) xs W'
  | .goto t, _, W' => KeepsFrom B W W' ∧ Ix (.goto t) xs W'
  | .panic _, _, _ => False
  | .outgrown, _, _ => False
theorem putObj_apart {W : World} {l r : Nat} {o : Obj} {q : Loop} (hr : W.heap[r]? = some o) (ho : o.isCells = true) (hl : W.heap[l]? = some (.loop q)) (o' : Obj) : (W.putObj l o').heap[r]? = some o :=
  (World.putObj_heap_other (fun e => by rw [e, hl] at hr; cases hr; cases ho)).trans hr
section
variable {α : Type} {F : Fence} {n : Nat} {P : Program} {assign body : Code} {w0 W1 : World} {gf : Nat} {lb : Array Value} {encs : α → Array Value} {Hd : World → Prop} {Fx : List α → α → World → Prop} {S Sp : List α → Prop}
/-- The iterator called with the loop's yield. -/
theorem range_runs {fn : FuncId} {tmps : Array Value} {ps : Array Tmp} {B l D : Nat} (hfn : F.fn fn) (hseq : SeqF F (n - 1) P gf lb encs Hd Fx S Sp w0) (hb : Below w0.heap.size w0 W1) (hps : ∀ x, (encs x).size = ps.size)
    (hBl : B ≤ l) (hBD : B ≤ D) (hbk : Books l D { state := .ready, pending := none, fn, tmps, params := ps, assign, body, defers := D } W1) (_hBw : B ≤ W1.heap.size)
    (I : List α → World → Prop) (Ix : Code → List α → World → Prop) (hI : OwnFrom B I) (hIx : ∀ c, OwnFrom B (Ix c)) (h0 : I [] W1) (hH : ∀ pre W, I pre W → Hd W)
    (Ax : List α → α → Nat → Act → World → Prop) (hAx : ∀ pre x r a', OwnFrom B (fun (_ : Unit) W => Ax pre x r a' W))
    (hassign : ∀ (pre : List α) (x : α) (W : World) (o : Obj) (K : Act → World → Prop), I pre W → Fx pre x W → o.isCells = true → (∀ a' W', KeepsFrom B (W.alloc o) W' → I pre W' → Ax pre x W.heap.size a' W' → W'.heap[W.heap.size]? = some o → K a' W') →
      assign.wpIn (F.inRound l) (n - 1 - 1) P (Exit.then K (fun _ _ _ => False)) { tmps := (ps.zip (encs x)).foldl (fun t (p, v) => t.setIfInBounds p v) tmps, defers := [] } (W.alloc o))
    (hbody : ∀ (pre : List α) (x : α) (r : Nat) (o : Obj) (a' : Act) (W : World), (∃ q, W.heap[l]? = some (.loop q)) → I pre W → Ax pre x r a' W → W.heap[r]? = some o → o.isCells = true → body.wpIn (F.inRound l) (n - 1 - 1) P (postF B r o I Ix (pre ++ [x]) W) a' W)
    (R : Ending → World → Prop)
    (hdone : ∀ (xs : List α) (W : World) (v : Value), S xs → I xs W → Books l D { state := .ready, pending := none, fn, tmps, params := ps, assign, body, defers := D } W → R (.returned v) W)
    (hstop : ∀ (c : Code) (pre : List α) (W : World) (v : Value), Sp pre → Ix c pre W → Books l D { state := .done, pending := some c, fn, tmps, params := ps, assign, body, defers := D } W → R (.returned v) W) :
    CallsIn F (n - 1) P gf (#[.func (.yield l) #[] #[]] ++ lb) W1 R := by
  have hlt := hbk.lt
  have hup : ∀ {A A' : World} {row : Option Nat}, (∀ r, row = some r → W1.heap.size ≤ r ∧ ∃ o : Obj, A.heap[r]? = some o ∧ o.isWalk = true) → (∀ r, row = some r → B ≤ r ∧ ∃ o : Obj, A.heap[r]? = some o ∧ o.isCells = false) :=
    fun h r e => by obtain ⟨h1, o, h2, h3⟩ := h r e; exact ⟨by omega, o, h2, Obj.not_cells_of_walk h3⟩
  refine (hseq l (fun pre W => I pre W ∧ Books l D { state := .ready, pending := none, fn, tmps, params := ps, assign, body, defers := D } W)
    (fun pre W => ∃ c, Ix c pre W ∧ Books l D { state := .done, pending := some c, fn, tmps, params := ps, assign, body, defers := D } W) W1 hb
    (fun s A A' row h hg hr => ⟨hI s A A' row h.1 hg (hup (A' := A') hr), h.2.grown (B := W1.heap.size) hlt.1 hlt.2.1 hg (fun k e => (hr k e).1)⟩)
    (fun s A A' row h hg hr => by
      obtain ⟨c, h1, h2⟩ := h
      exact ⟨c, hIx c s A A' row h1 hg (hup (A' := A') hr), h2.grown (B := W1.heap.size) hlt.1 hlt.2.1 hg (fun k e => (hr k e).1)⟩)
    (fun pre W h => hH pre W h.1) ?_ ⟨h0, hbk⟩).mono ?_
  · rintro pre x W o ⟨hi, hk⟩ hf ho
    have hka0 : Books l D { state := .ready, pending := none, fn, tmps, params := ps, assign, body, defers := D } (W.alloc o) := hk.kept hBl hBD ((KeepsOthers.alloc W o).from B)
    refine ⟨_, _, _, _, run_yield hka0.loop (hps x), roundIn_of_wpIn hfn (hassign pre x W o _ hi hf ho ?_)⟩
    intro a' Wa hka hia hxa hoa
    have hk1 := hka0.kept hBl hBD hka
    have hk2 := hk1.put { state := .busy, pending := none, fn, tmps, params := ps, assign, body, defers := D }
    refine ⟨_, run_beginRound hk1.loop rfl, wpIn_mono (hbody pre x W.heap.size o a' _ ⟨_, hk2.loop⟩ (hI.putObj _ hia hBl hk1.loop rfl) ((hAx pre x _ a').putObj (s := ()) _ hxa hBl hk1.loop rfl) (putObj_apart hoa ho hk1.loop _) ho) ?_⟩
    intro e a3 W3 hp
    have key : ∀ jump : Option Code, KeepsFrom B (Wa.putObj l (.loop { state := .busy, pending := none, fn, tmps, params := ps, assign, body, defers := D })) W3 →
        (Instr.endRound l jump).run P W3 = .ok (.bool jump.isNone) (W3.putObj l (.loop { state := if jump.isNone then .ready else .done, pending := jump, fn, tmps, params := ps, assign, body, defers := D })) ∧ Books l D { state := .busy, pending := none, fn, tmps, params := ps, assign, body, defers := D } W3 := fun jump hkf => by
      have hk3 := hk2.kept hBl hBD hkf
      exact ⟨run_endRound jump hk3.loop, hk3⟩
    have leave : ∀ c : Code, KeepsFrom B (Wa.putObj l (.loop { state := .busy, pending := none, fn, tmps, params := ps, assign, body, defers := D })) W3 → Ix c (pre ++ [x]) W3 →
        ∃ v w', (Instr.endRound l (some c)).run P W3 = .ok v w' ∧ ((Ending.returned v = .returned (.bool true) ∧ (I (pre ++ [x]) w' ∧ Books l D { state := .ready, pending := none, fn, tmps, params := ps, assign, body, defers := D } w') ∧ w'.heap[W.heap.size]? = some o) ∨
          (Ending.returned v = .returned (.bool false) ∧ ∃ c, Ix c (pre ++ [x]) w' ∧ Books l D { state := .done, pending := some c, fn, tmps, params := ps, assign, body, defers := D } w')) := fun c hkf hx => by
      obtain ⟨hr, hk3⟩ := key (some c) hkf
      exact ⟨_, _, hr, .inr ⟨rfl, c, (hIx c).putObj _ hx hBl hk3.loop rfl, hk3.put _⟩⟩
    cases e with
    | normal =>
      obtain ⟨hkf, hi3, ho3⟩ := hp
      obtain ⟨hr, hk3⟩ := key none hkf
      exact ⟨_, _, hr, .inl ⟨rfl, ⟨hI.putObj _ hi3 hBl hk3.loop rfl, hk3.put _⟩, putObj_apart ho3 ho hk3.loop _⟩⟩
    | ret => exact leave .ret hp.1 hp.2
    | exit id => exact leave (.exit id) hp.1 hp.2
    | goto t => exact leave (.goto t) hp.1 hp.2
    | panic ch => exact hp.elim
    | outgrown => exact hp.elim
  · rintro e W2 ⟨⟨v, rfl⟩, ⟨xs, hS, hi, hk⟩ | ⟨pre, hSp, c, hi, hk⟩⟩
    · exact hdone xs W2 v hS hi hk
    · exact hstop c pre W2 v hSp hi hk
end
/-- An outermost range over a function. -/
theorem wpIn_rangeF {α : Type} {F : Fence} {n : Nat} {P : Program} {g : Operand} {ps : Array Tmp} {assign body : Code} {Q : Exit → Act → World → Prop} {a : Act} {w w0 : World}
    (hro : F.round = none) (h1 : 1 ≤ n) {gf : Nat} {lb : Array Value} (hg : a.eval g = .func (.func gf) #[] lb) (hFg : F.fn gf) (eg : ∀ args w, (callFunc gf args).run P w = .ok (.enter gf args) w)
    {encs : α → Array Value} {Hd : World → Prop} {Fx : List α → α → World → Prop} {S Sp : List α → Prop} (hseq : SeqF F (n - 1) P gf lb encs Hd Fx S Sp w0) (hb : Below w0.heap.size w0 w) (hps : ∀ x, (encs x).size = ps.size)
    (I : List α → World → Prop) (Ix : Code → List α → World → Prop) (hI : OwnFrom w.heap.size I) (hIx : ∀ c, OwnFrom w.heap.size (Ix c)) (h0 : I [] w) (hH : ∀ pre W, I pre W → Hd W)
    (Ax : List α → α → Nat → Act → World → Prop) (hAx : ∀ pre x r a', OwnFrom w.heap.size (fun (_ : Unit) W => Ax pre x r a' W))
    (hassign : ∀ (l : Nat) (pre : List α) (x : α) (W : World) (o : Obj) (K : Act → World → Prop), I pre W → Fx pre x W → o.isCells = true → (∀ a' W', KeepsFrom w.heap.size (W.alloc o) W' → I pre W' → Ax pre x W.heap.size a' W' → W'.heap[W.heap.size]? = some o → K a' W') →
      assign.wpIn (F.inRound l) (n - 1 - 1) P (Exit.then K (fun _ _ _ => False)) { tmps := (ps.zip (encs x)).foldl (fun t (p, v) => t.setIfInBounds p v) a.tmps, defers := [] } (W.alloc o))
    (hbody : ∀ (l : Nat) (pre : List α) (x : α) (r : Nat) (o : Obj) (a' : Act) (W : World), w.heap.size ≤ l → (∃ q, W.heap[l]? = some (.loop q)) → I pre W → Ax pre x r a' W → W.heap[r]? = some o → o.isCells = true → body.wpIn (F.inRound l) (n - 1 - 1) P (postF w.heap.size r o I Ix (pre ++ [x]) W) a' W)
    (hdone : ∀ (D : Nat) (xs : List α) (W : World), w.heap.size ≤ D → S xs → I xs W → W.heap[D]? = some (.deferred (some [])) → Q .normal { a with defers := { target := .collected D, args := #[] } :: a.defers } W)
    (hstop : ∀ (D : Nat) (c : Code) (pre : List α) (W : World), w.heap.size ≤ D → Sp pre → Ix c pre W → W.heap[D]? = some (.deferred (some [])) → c.wpIn F n P Q { a with defers := { target := .collected D, args := #[] } :: a.defers } W) :
    (Code.rangeFunc g ps assign body).wpIn F n P Q a w := by
  refine wpIn_rangeFunc fun fn hfn => ?_
  rw [hro]
  have hnew : Books (w.heap.size + 1) w.heap.size { state := .ready, pending := none, fn, tmps := a.tmps, params := ps, assign, body, defers := w.heap.size } ((w.alloc (.deferred (some []))).alloc (.loop { state := .ready, pending := none, fn, tmps := a.tmps, params := ps, assign, body, defers := w.heap.size })) :=
    ⟨by have := World.alloc_heap_new (w.alloc (.deferred (some []))) (.loop { state := .ready, pending := none, fn, tmps := a.tmps, params := ps, assign, body, defers := w.heap.size }); rwa [World.size_alloc] at this,
      (Below.heap_alloc _ _ _ (by simp)).trans (World.alloc_heap_new w _)⟩
  have he : (Instr.enterLoop fn a.tmps ps assign body none).run P w = .ok (w.heap.size + 1, [{ target := .collected w.heap.size, args := #[] }]) ((w.alloc (.deferred (some []))).alloc (.loop { state := .ready, pending := none, fn, tmps := a.tmps, params := ps, assign, body, defers := w.heap.size })) := run_enterLoop_outer _ _ _ _ _
  have hb1 : Below w0.heap.size w0 ((w.alloc (.deferred (some []))).alloc (.loop { state := .ready, pending := none, fn, tmps := a.tmps, params := ps, assign, body, defers := w.heap.size })) := hb.trans ((((Below.refl _ w).alloc (Nat.le_refl _) _).alloc (by simp) _).mono hb.size)
  have hI1 : I [] ((w.alloc (.deferred (some []))).alloc (.loop { state := .ready, pending := none, fn, tmps := a.tmps, params := ps, assign, body, defers := w.heap.size })) := hI.alloc _ (hI.alloc _ h0)
  have hz : w.heap.size ≤ ((w.alloc (.deferred (some []))).alloc (.loop { state := .ready, pending := none, fn, tmps := a.tmps, params := ps, assign, body, defers := w.heap.size })).heap.size := by simp; omega
  generalize ((w.alloc (.deferred (some []))).alloc (.loop { state := .ready, pending := none, fn, tmps := a.tmps, params := ps, assign, body, defers := w.heap.size })) = W1 at hnew he hb1 hI1 hz
  refine ⟨_, _, W1, { target := .fn (.func gf) lb, args := #[.func (.yield (w.heap.size + 1)) #[] #[]] }, W1, gf, #[.func (.yield (w.heap.size + 1)) #[] #[]] ++ lb, W1, he, ?_, ?_, ?_, fun _ => h1, ?_⟩
  · simp only [resolve, hg]
    simp [go_sem]
  · intro f' hf'
    simp [Target.leads] at hf'
    subst hf'
    exact hFg
  · simp [invoke, go_sem, eg]
  refine range_runs (B := w.heap.size) (D := w.heap.size) hfn hseq hb1 hps (by omega) (Nat.le_refl _) hnew hz I Ix hI hIx hI1 hH Ax hAx
    (hassign _) (fun pre x r o a' W hl => hbody _ pre x r o a' W (by omega) hl) _ ?_ ?_
  · intro xs W v hS hi hk
    exact ⟨none, _, run_endLoop hk.loop (by simp), hdone _ xs _ (Nat.le_refl _) hS (hI.putObj _ hi (by omega) hk.loop rfl) (hk.put _).defs⟩
  · intro c pre W v hSp hi hk
    exact ⟨some c, _, run_endLoop hk.loop (by simp), hstop _ c pre _ (Nat.le_refl _) hSp ((hIx c).putObj _ hi (by omega) hk.loop rfl) (hk.put _).defs⟩
end Go.Vk
/- A range over a function inside a round (SeqF): the law for an inner loop. Over any program. -/
namespace Go.Vk
open Go.RowKit
/-- The record of a loop. -/
def Book1 (l : Nat) (r : Loop) (W : World) : Prop := W.heap[l]? = some (.loop r)
theorem Book1.loop {l : Nat} {r : Loop} {W : World} (h : Book1 l r W) : W.heap[l]? = some (.loop r) := h
theorem Book1.lt1 {l : Nat} {r : Loop} {W : World} (h : Book1 l r W) : l < W.heap.size := (Array.getElem?_eq_some_iff.1 h.loop).1
theorem Book1.kept1 {l B : Nat} {r : Loop} {W W' : World} (h : Book1 l r W) (hl : B ≤ l) (hk : KeepsFrom B W W') : Book1 l r W' := hk.same _ _ hl h.loop rfl
theorem Book1.grown1 {l B : Nat} {r : Loop} {A A' : World} {row : Option Nat} (h : Book1 l r A) (hl : l < B) (hg : A.grownBy A' row) (hr : ∀ k, row = some k → B ≤ k) : Book1 l r A' :=
  (hg.block l h.lt1 (fun e => by have := hr l e.symm; omega)).trans h.loop
theorem Book1.put1 {l : Nat} {r : Loop} {W : World} (h : Book1 l r W) (r' : Loop) : Book1 l r' (W.putObj l (.loop r')) := World.putObj_heap_same h.lt1
section
variable {α : Type} {F : Fence} {n : Nat} {P : Program} {assign body : Code} {w0 W1 : World} {gf : Nat} {lb : Array Value} {encs : α → Array Value} {Hd : World → Prop} {Fx : List α → α → World → Prop} {S Sp : List α → Prop}
/-- The iterator called with the loop's yield: a range inside a round (its defers are the outer loop's). -/
theorem range_runs1 {fn : FuncId} {tmps : Array Value} {ps : Array Tmp} {B l D : Nat} (hfn : F.fn fn) (hseq : SeqF F (n - 1) P gf lb encs Hd Fx S Sp w0) (hb : Below w0.heap.size w0 W1) (hps : ∀ x, (encs x).size = ps.size)
    (hBl : B ≤ l) (hbk : Book1 l { state := .ready, pending := none, fn, tmps, params := ps, assign, body, defers := D } W1) (_hBw : B ≤ W1.heap.size)
    (I : List α → World → Prop) (Ix : Code → List α → World → Prop) (hI : OwnFrom B I) (hIx : ∀ c, OwnFrom B (Ix c)) (h0 : I [] W1) (hH : ∀ pre W, I pre W → Hd W)
    (Ax : List α → α → Nat → Act → World → Prop) (hAx : ∀ pre x r a', OwnFrom B (fun (_ : Unit) W => Ax pre x r a' W))
    (hassign : ∀ (pre : List α) (x : α) (W : World) (o : Obj) (K : Act → World → Prop), I pre W → Fx pre x W → o.isCells = true → (∀ a' W', KeepsFrom B (W.alloc o) W' → I pre W' → Ax pre x W.heap.size a' W' → W'.heap[W.heap.size]? = some o → K a' W') →
      assign.wpIn (F.inRound l) (n - 1 - 1) P (Exit.then K (fun _ _ _ => False)) { tmps := (ps.zip (encs x)).foldl (fun t (p, v) => t.setIfInBounds p v) tmps, defers := [] } (W.alloc o))
    (hbody : ∀ (pre : List α) (x : α) (r : Nat) (o : Obj) (a' : Act) (W : World), (∃ q, W.heap[l]? = some (.loop q)) → I pre W → Ax pre x r a' W → W.heap[r]? = some o → o.isCells = true → body.wpIn (F.inRound l) (n - 1 - 1) P (postF B r o I Ix (pre ++ [x]) W) a' W)
    (R : Ending → World → Prop)
    (hdone : ∀ (xs : List α) (W : World) (v : Value), S xs → I xs W → Book1 l { state := .ready, pending := none, fn, tmps, params := ps, assign, body, defers := D } W → R (.returned v) W)
    (hstop : ∀ (c : Code) (pre : List α) (W : World) (v : Value), Sp pre → Ix c pre W → Book1 l { state := .done, pending := some c, fn, tmps, params := ps, assign, body, defers := D } W → R (.returned v) W) :
    CallsIn F (n - 1) P gf (#[.func (.yield l) #[] #[]] ++ lb) W1 R := by
  have hlt := hbk.lt1
  have hup : ∀ {A A' : World} {row : Option Nat}, (∀ r, row = some r → W1.heap.size ≤ r ∧ ∃ o : Obj, A.heap[r]? = some o ∧ o.isWalk = true) → (∀ r, row = some r → B ≤ r ∧ ∃ o : Obj, A.heap[r]? = some o ∧ o.isCells = false) :=
    fun h r e => by obtain ⟨h1, o, h2, h3⟩ := h r e; exact ⟨by omega, o, h2, Obj.not_cells_of_walk h3⟩
  refine (hseq l (fun pre W => I pre W ∧ Book1 l { state := .ready, pending := none, fn, tmps, params := ps, assign, body, defers := D } W)
    (fun pre W => ∃ c, Ix c pre W ∧ Book1 l { state := .done, pending := some c, fn, tmps, params := ps, assign, body, defers := D } W) W1 hb
    (fun s A A' row h hg hr => ⟨hI s A A' row h.1 hg (hup (A' := A') hr), h.2.grown1 (B := W1.heap.size) hlt hg (fun k e => (hr k e).1)⟩)
    (fun s A A' row h hg hr => by
      obtain ⟨c, h1, h2⟩ := h
      exact ⟨c, hIx c s A A' row h1 hg (hup (A' := A') hr), h2.grown1 (B := W1.heap.size) hlt hg (fun k e => (hr k e).1)⟩)
    (fun pre W h => hH pre W h.1) ?_ ⟨h0, hbk⟩).mono ?_
  · rintro pre x W o ⟨hi, hk⟩ hf ho
    have hka0 : Book1 l { state := .ready, pending := none, fn, tmps, params := ps, assign, body, defers := D } (W.alloc o) := hk.kept1 hBl ((KeepsOthers.alloc W o).from B)
    refine ⟨_, _, _, _, run_yield hka0.loop (hps x), roundIn_of_wpIn hfn (hassign pre x W o _ hi hf ho ?_)⟩
    intro a' Wa hka hia hxa hoa
    have hk1 := hka0.kept1 hBl hka
    have hk2 := hk1.put1 { state := .busy, pending := none, fn, tmps, params := ps, assign, body, defers := D }
    refine ⟨_, run_beginRound hk1.loop rfl, wpIn_mono (hbody pre x W.heap.size o a' _ ⟨_, hk2.loop⟩ (hI.putObj _ hia hBl hk1.loop rfl) ((hAx pre x _ a').putObj (s := ()) _ hxa hBl hk1.loop rfl) (putObj_apart hoa ho hk1.loop _) ho) ?_⟩
    intro e a3 W3 hp
    have key : ∀ jump : Option Code, KeepsFrom B (Wa.putObj l (.loop { state := .busy, pending := none, fn, tmps, params := ps, assign, body, defers := D })) W3 →
        (Instr.endRound l jump).run P W3 = .ok (.bool jump.isNone) (W3.putObj l (.loop { state := if jump.isNone then .ready else .done, pending := jump, fn, tmps, params := ps, assign, body, defers := D })) ∧ Book1 l { state := .busy, pending := none, fn, tmps, params := ps, assign, body, defers := D } W3 := fun jump hkf => by
      have hk3 := hk2.kept1 hBl hkf
      exact ⟨run_endRound jump hk3.loop, hk3⟩
    have leave : ∀ c : Code, KeepsFrom B (Wa.putObj l (.loop { state := .busy, pending := none, fn, tmps, params := ps, assign, body, defers := D })) W3 → Ix c (pre ++ [x]) W3 →
        ∃ v w', (Instr.endRound l (some c)).run P W3 = .ok v w' ∧ ((Ending.returned v = .returned (.bool true) ∧ (I (pre ++ [x]) w' ∧ Book1 l { state := .ready, pending := none, fn, tmps, params := ps, assign, body, defers := D } w') ∧ w'.heap[W.heap.size]? = some o) ∨
          (Ending.returned v = .returned (.bool false) ∧ ∃ c, Ix c (pre ++ [x]) w' ∧ Book1 l { state := .done, pending := some c, fn, tmps, params := ps, assign, body, defers := D } w')) := fun c hkf hx => by
      obtain ⟨hr, hk3⟩ := key (some c) hkf
      exact ⟨_, _, hr, .inr ⟨rfl, c, (hIx c).putObj _ hx hBl hk3.loop rfl, hk3.put1 _⟩⟩
    cases e with
    | normal =>
      obtain ⟨hkf, hi3, ho3⟩ := hp
      obtain ⟨hr, hk3⟩ := key none hkf
      exact ⟨_, _, hr, .inl ⟨rfl, ⟨hI.putObj _ hi3 hBl hk3.loop rfl, hk3.put1 _⟩, putObj_apart ho3 ho hk3.loop _⟩⟩
    | ret => exact leave .ret hp.1 hp.2
    | exit id => exact leave (.exit id) hp.1 hp.2
    | goto t => exact leave (.goto t) hp.1 hp.2
    | panic ch => exact hp.elim
    | outgrown => exact hp.elim
  · rintro e W2 ⟨⟨v, rfl⟩, ⟨xs, hS, hi, hk⟩ | ⟨pre, hSp, c, hi, hk⟩⟩
    · exact hdone xs W2 v hS hi hk
    · exact hstop c pre W2 v hSp hi hk
end
/-- A range over a function inside a round. -/
theorem wpIn_rangeF_inner {α : Type} {F : Fence} {n : Nat} {P : Program} {g : Operand} {ps : Array Tmp} {assign body : Code} {Q : Exit → Act → World → Prop} {a : Act} {w w0 : World} {l₀ : Nat} {r₀ : Loop}
    (hro : F.round = some l₀) (hl₀ : w.heap[l₀]? = some (.loop r₀)) (h1 : 1 ≤ n) {gf : Nat} {lb : Array Value} (hg : a.eval g = .func (.func gf) #[] lb) (hFg : F.fn gf) (eg : ∀ args w, (callFunc gf args).run P w = .ok (.enter gf args) w)
    {encs : α → Array Value} {Hd : World → Prop} {Fx : List α → α → World → Prop} {S Sp : List α → Prop} (hseq : SeqF F (n - 1) P gf lb encs Hd Fx S Sp w0) (hb : Below w0.heap.size w0 w) (hps : ∀ x, (encs x).size = ps.size)
    (I : List α → World → Prop) (Ix : Code → List α → World → Prop) (hI : OwnFrom w.heap.size I) (hIx : ∀ c, OwnFrom w.heap.size (Ix c)) (h0 : I [] w) (hH : ∀ pre W, I pre W → Hd W)
    (Ax : List α → α → Nat → Act → World → Prop) (hAx : ∀ pre x r a', OwnFrom w.heap.size (fun (_ : Unit) W => Ax pre x r a' W))
    (hassign : ∀ (l : Nat) (pre : List α) (x : α) (W : World) (o : Obj) (K : Act → World → Prop), I pre W → Fx pre x W → o.isCells = true → (∀ a' W', KeepsFrom w.heap.size (W.alloc o) W' → I pre W' → Ax pre x W.heap.size a' W' → W'.heap[W.heap.size]? = some o → K a' W') →
      assign.wpIn (F.inRound l) (n - 1 - 1) P (Exit.then K (fun _ _ _ => False)) { tmps := (ps.zip (encs x)).foldl (fun t (p, v) => t.setIfInBounds p v) a.tmps, defers := [] } (W.alloc o))
    (hbody : ∀ (l : Nat) (pre : List α) (x : α) (r : Nat) (o : Obj) (a' : Act) (W : World), w.heap.size ≤ l → (∃ q, W.heap[l]? = some (.loop q)) → I pre W → Ax pre x r a' W → W.heap[r]? = some o → o.isCells = true → body.wpIn (F.inRound l) (n - 1 - 1) P (postF w.heap.size r o I Ix (pre ++ [x]) W) a' W)
    (hdone : ∀ (xs : List α) (W : World), S xs → I xs W → Q .normal a W)
    (hstop : ∀ (c : Code) (pre : List α) (W : World), Sp pre → Ix c pre W → c.wpIn F n P Q a W) :
    (Code.rangeFunc g ps assign body).wpIn F n P Q a w := by
  refine wpIn_rangeFunc fun fn hfn => ?_
  rw [hro]
  have hnew : Book1 w.heap.size { state := .ready, pending := none, fn, tmps := a.tmps, params := ps, assign, body, defers := r₀.defers } (w.alloc (.loop { state := .ready, pending := none, fn, tmps := a.tmps, params := ps, assign, body, defers := r₀.defers })) := World.alloc_heap_new w _
  have he : (Instr.enterLoop fn a.tmps ps assign body (some l₀)).run P w = .ok (w.heap.size, []) (w.alloc (.loop { state := .ready, pending := none, fn, tmps := a.tmps, params := ps, assign, body, defers := r₀.defers })) := run_enterLoop_inner hl₀ _ _ _ _ _
  have hb1 : Below w0.heap.size w0 (w.alloc (.loop { state := .ready, pending := none, fn, tmps := a.tmps, params := ps, assign, body, defers := r₀.defers })) := hb.trans (((Below.refl _ w).alloc (Nat.le_refl _) _).mono hb.size)
  have hI1 : I [] (w.alloc (.loop { state := .ready, pending := none, fn, tmps := a.tmps, params := ps, assign, body, defers := r₀.defers })) := hI.alloc _ h0
  have hz : w.heap.size ≤ (w.alloc (.loop { state := .ready, pending := none, fn, tmps := a.tmps, params := ps, assign, body, defers := r₀.defers })).heap.size := by simp
  generalize (w.alloc (.loop { state := .ready, pending := none, fn, tmps := a.tmps, params := ps, assign, body, defers := r₀.defers })) = W1 at hnew he hb1 hI1 hz
  refine ⟨_, _, W1, { target := .fn (.func gf) lb, args := #[.func (.yield w.heap.size) #[] #[]] }, W1, gf, #[.func (.yield w.heap.size) #[] #[]] ++ lb, W1, he, ?_, ?_, ?_, fun _ => h1, ?_⟩
  · simp only [resolve, hg]
    simp [go_sem]
  · intro f' hf'
    simp [Target.leads] at hf'
    subst hf'
    exact hFg
  · simp [invoke, go_sem, eg]
  refine range_runs1 (B := w.heap.size) hfn hseq hb1 hps (Nat.le_refl _) hnew hz I Ix hI hIx hI1 hH Ax hAx
    (hassign _) (fun pre x r o a' W hl => hbody _ pre x r o a' W (Nat.le_refl _) hl) _ ?_ ?_
  · intro xs W v hS hi hk
    exact ⟨none, _, run_endLoop hk.loop (by simp), hdone xs _ hS (hI.putObj _ hi (Nat.le_refl _) hk.loop rfl)⟩
  · intro c pre W v hSp hx hk
    exact ⟨some c, _, run_endLoop hk.loop (by simp), hstop c pre _ hSp ((hIx c).putObj _ hx (Nat.le_refl _) hk.loop rfl)⟩
end Go.Vk
/- A slice of arrays of two whole numbers that came in, opened. Over any program. -/
namespace Go.Vk
open Go.ChangeShapes Go.WideShapes Go.RowKit Go.Deep
/-- Pairs of numbers that are read. -/
def TurnsAt (w : World) (X : Option Addr) (ts : List (Int × Int)) : Prop := ∀ i (h : i < ts.length), ∃ x, X = some x ∧ w.cell? (x.add (i * 2)) = some (.int .i64 (ts[i]).1) ∧ w.cell? (x.add (i * 2 + 1)) = some (.int .i64 (ts[i]).2) ∧ (Lit.int .i64 (ts[i]).1).wf = true ∧ (Lit.int .i64 (ts[i]).2).wf = true
theorem trod_array2 {H : Type} {enc : TypeId × Value → H} {P : Program} {w : World} {base : Nat} {spare : Nat → Bool} {held : Bool} {t e : TypeId} {fuel : Nat} {c0 c1 : Value} {x : DataW H × List MemPlace} (ht : P.underlying t = some (.array 2 e)) (hce : P.cellsOf e = 1)
    (h : DataW.trod enc P w base spare held fuel t [c0, c1] = some x) : ∃ y0 y1 n, DataW.trod enc P w base spare held n e [c0] = some y0 ∧ DataW.trod enc P w base spare held n e [c1] = some y1 := by
  cases fuel with
  | zero => simp [DataW.trod] at h
  | succ n =>
    unfold DataW.trod at h
    rw [ht] at h
    have r2 : List.range 2 = [0, 1] := rfl
    simp [r2, hce] at h
    obtain ⟨_, h⟩ := h
    cases h0 : DataW.trod enc P w base spare held n e [c0] with
    | none => simp [h0] at h
    | some y0 =>
      cases h1 : DataW.trod enc P w base spare held n e [c1] with
      | none => simp [h0, h1] at h
      | some y1 => exact ⟨y0, y1, n, h0, h1⟩
theorem open_turns {H : Type} {enc : TypeId × Value → H} {P : Program} {W : World} {base : Nat} {spare : Nat → Bool} {held : Bool} {t e b : TypeId} {a : Option Addr} {len cap : Nat} {d : DataW H} {ps : List MemPlace} {ts : List TypeId} {ds : List (DataW H)} {j : Nat}
    (hsz : (DataW.weightsEach P ts ds).all (· ≤ reachBytes) = true) (htj : ts[j]? = some t) (hdj : ds[j]? = some d)
    (hu : P.underlying t = some (.slice e)) (he : P.underlying e = some (.array 2 b)) (ce : P.cellsOf e = 2) (cb : P.cellsOf b = 1) (hb : P.underlying b = some (.int .i64)) (be : 0 < P.bytesOf e)
    (h : DataW.Trod enc P W base spare held t (.slice a len cap) d ps) : ∃ ls : List (Int × Int), len = ls.length ∧ TurnsAt W a ls ∧ ls.length ≤ 140737488351232 := by
  obtain ⟨fuel, hf⟩ := h
  rcases open_slice hu hf with ⟨hcs, _⟩ | ⟨x, l, c, m, n, D, Pl, hcs, _, hl, _, hm, hx, hi⟩
  · simp [Value.cells] at hcs
    obtain ⟨rfl, rfl, rfl⟩ := hcs
    exact ⟨[], rfl, (fun i hi => by simp at hi), by simp⟩
  · simp [Value.cells] at hcs
    obtain ⟨rfl, rfl, rfl⟩ := hcs
    obtain ⟨hd, _⟩ := Prod.mk.inj hx
    have hlm : len ≤ m := by rw [hm]; split <;> omega
    have each : ∀ i, i < len → ∃ p : Int × Int, W.cell? (x.add (i * 2)) = some (.int .i64 p.1) ∧ W.cell? (x.add (i * 2 + 1)) = some (.int .i64 p.2) ∧ (Lit.int .i64 p.1).wf = true ∧ (Lit.int .i64 p.2).wf = true := by
      intro i hil
      obtain ⟨cs, h1, h2⟩ := hi i (by omega)
      rw [ce] at h1
      obtain ⟨_, hlen, hcell⟩ := World.cells?_some h1
      match cs, hlen with
      | [v0, v1], _ =>
        have e0 := hcell 0 (by omega)
        have e1 := hcell 1 (by omega)
        rw [add_add] at e0 e1
        obtain ⟨y0, y1, q, k0, k1⟩ := trod_array2 he cb h2
        obtain ⟨z0, g0, _, w0⟩ := DataW.trod_int hb k0
        obtain ⟨z1, g1, _, w1⟩ := DataW.trod_int hb k1
        simp only [List.cons.injEq, and_true] at g0 g1
        subst g0 g1
        exact ⟨(z0, z1), by simpa using e0, by simpa using e1, w0, w1⟩
    let f : (i : Nat) → Int × Int := fun i => if hil : i < len then (each i hil).choose else (0, 0)
    have hbd := sized_slice hsz htj (hdj.trans (congrArg some hd)) hu
    rw [List.length_map, List.length_range] at hbd
    have hle : len ≤ 140737488351232 := by
      have h1 : len * 1 ≤ (len + ((List.range (m - len)).map fun j => D (len + j)).length) * P.bytesOf e := Nat.mul_le_mul (Nat.le_add_right _ _) be
      unfold reachBytes at hbd
      omega
    refine ⟨(List.range len).map f, by simp, fun i hi => ?_, by simpa using hle⟩
    simp only [List.length_map, List.length_range] at hi
    have e : ((List.range len).map f)[i]'(by simpa using hi) = (each i hi).choose := by
      simp only [List.getElem_map, List.getElem_range]
      exact dif_pos hi
    rw [e]
    exact ⟨x, rfl, (each i hi).choose_spec⟩
end Go.Vk
/- A slice of pairs (a whole number, a slice of bytes) that came in, opened. Over any program. -/
namespace Go.Vk
open Go.ChangeShapes Go.WideShapes Go.RowKit Go.Deep
/-- A pair that came in: a number, bytes, where they lie. -/
structure Pr where
  code : Int
  imm : List Int
  at_ : Option Addr
  cap : Nat
/-- Pairs that are read. -/
def PairsAt (w : World) (X : Option Addr) (ls : List Pr) : Prop := ∀ i (h : i < ls.length), ∃ x, X = some x ∧ w.cell? (x.add (i * 2)) = some (.int .i64 (ls[i]).code) ∧ w.cell? (x.add (i * 2 + 1)) = some (.slice (ls[i]).at_ (ls[i]).imm.length (ls[i]).cap) ∧
  IntsAt w .u8 (ls[i]).at_ (ls[i]).imm ∧ (∀ n ∈ (ls[i]).imm, (Lit.int .u8 n).wf = true) ∧ (ls[i]).imm.length ≤ (ls[i]).cap ∧ ((ls[i]).at_ = none → (ls[i]).cap = 0) ∧ (ls[i]).imm.length ≤ 140737488351232 ∧ (Lit.int .i64 (ls[i]).code).wf = true
theorem sized_elem {H : Type} {P : Program} {ts : List TypeId} {ds : List (DataW H)} {j : Nat} {t e : TypeId} {elems spare : List (DataW H)} {d : DataW H} (h : (DataW.weightsEach P ts ds).all (· ≤ reachBytes) = true) (ht : ts[j]? = some t) (hd : ds[j]? = some (.slice elems spare))
    (hu : P.underlying t = some (.slice e)) (hm : d ∈ elems) : ∀ n ∈ d.weights P e, n ≤ reachBytes := fun n hn => by
  have key : ∀ (l : List (DataW H)), d ∈ l → n ∈ DataW.weightsAll P e l := by
    intro l
    induction l with
    | nil => intro hm; cases hm
    | cons a l ih =>
      intro hm
      rcases List.mem_cons.1 hm with rfl | hm
      · unfold DataW.weightsAll
        exact List.mem_append.2 (.inl hn)
      · unfold DataW.weightsAll
        exact List.mem_append.2 (.inr (ih hm))
  have := List.all_eq_true.1 h n (DataW.weights_mem_each ht hd n (by
    simp only [DataW.weights, hu]
    exact List.mem_cons.2 (.inr (List.mem_append.2 (.inl (key elems hm))))))
  simpa using this
theorem open_pairs {H : Type} {enc : TypeId × Value → H} {P : Program} {W : World} {base : Nat} {spare : Nat → Bool} {held : Bool} {t e b8 : TypeId} {f0 f1 : Field} {a : Option Addr} {len cap : Nat} {d : DataW H} {ps : List MemPlace} {ts : List TypeId} {ds : List (DataW H)} {j : Nat}
    (hsz : (DataW.weightsEach P ts ds).all (· ≤ reachBytes) = true) (htj : ts[j]? = some t) (hdj : ds[j]? = some d)
    (hu : P.underlying t = some (.slice e)) (he : P.underlying e = some (.struct #[f0, f1])) (ce : P.cellsOf e = 2) (o0 : f0.offset = 0) (o1 : f1.offset = 1) (c0 : P.cellsOf f0.type = 1) (c1 : P.cellsOf f1.type = 1)
    (h0 : P.underlying f0.type = some (.int .i64)) (h1 : P.underlying f1.type = some (.slice b8)) (hb : P.underlying b8 = some (.int .u8)) (cb : P.cellsOf b8 = 1) (bb : P.bytesOf b8 = 1) (be : 0 < P.bytesOf e)
    (h : DataW.Trod enc P W base spare held t (.slice a len cap) d ps) : ∃ ls : List Pr, len = ls.length ∧ PairsAt W a ls ∧ ls.length ≤ 140737488351232 := by
  obtain ⟨fuel, hf⟩ := h
  rcases open_slice_pairs hu he ce o0 o1 c0 c1 hf with ⟨hcs, _⟩ | ⟨x, l, c, m, n, V0, V1, D0, D1, P0, P1, hcs, _, hl, _, hm, hx, hi⟩
  · simp [Value.cells] at hcs
    obtain ⟨rfl, rfl, rfl⟩ := hcs
    exact ⟨[], rfl, (fun i hi => by simp at hi), by simp⟩
  · simp [Value.cells] at hcs
    obtain ⟨rfl, rfl, rfl⟩ := hcs
    obtain ⟨hd, _⟩ := Prod.mk.inj hx
    have hlm : len ≤ m := by rw [hm]; split <;> omega
    have each : ∀ i, i < len → ∃ p : Pr, W.cell? (x.add (i * 2)) = some (.int .i64 p.code) ∧ W.cell? (x.add (i * 2 + 1)) = some (.slice p.at_ p.imm.length p.cap) ∧ IntsAt W .u8 p.at_ p.imm ∧ (∀ n ∈ p.imm, (Lit.int .u8 n).wf = true) ∧ p.imm.length ≤ p.cap ∧ (p.at_ = none → p.cap = 0) ∧ p.imm.length ≤ 140737488351232 ∧ (Lit.int .i64 p.code).wf = true := by
      intro i hil
      obtain ⟨g0, g1, k0, k1⟩ := hi i (by omega)
      obtain ⟨z, hz, _, hzw⟩ := DataW.trod_int h0 k0
      simp only [List.cons.injEq, and_true] at hz
      have hwt : ∀ n ∈ (D1 i).weights P f1.type, n ≤ reachBytes := fun n hn => sized_elem hsz htj (hdj.trans (congrArg some hd)) hu (d := .agg [D0 i, D1 i]) (List.mem_map.2 ⟨i, List.mem_range.2 hil, rfl⟩) n (by
        simp only [DataW.weights, he, List.map_cons, List.map_nil, DataW.weightsEach]
        exact List.mem_append.2 (.inr (List.mem_append.2 (.inl hn))))
      rcases open_ints h1 hb cb k1 with ⟨hcs, _⟩ | ⟨y, l', c', zs, hcs, _, hl', _, hzl, hxx, hcell, hwf⟩
      · simp only [List.cons.injEq, and_true] at hcs
        exact ⟨⟨z, [], none, 0⟩, by rw [g0, hz], by rw [g1, hcs]; rfl, fun i hi => by simp at hi, fun n hn => by simp at hn, Nat.le_refl _, fun _ => rfl, by simp, hzw⟩
      · simp only [List.cons.injEq, and_true] at hcs
        have hl2 : l' ≤ zs.length := by
          rw [hzl]
          split
          · exact hl'
          · exact Nat.le_refl _
        obtain ⟨hD, _⟩ := Prod.mk.inj hxx
        have hw := hwt ((l' + (zs.length - l')) * P.bytesOf b8) (by
          rw [hD]
          simp only [DataW.weights, h1]
          refine List.mem_cons.2 (.inl ?_)
          congr 1
          simp [lits]
          omega)
        rw [bb] at hw
        refine ⟨⟨z, zs.take l', some y, c'⟩, by rw [g0, hz], ?_, fun i hi => ?_, fun n hn => hwf n (List.mem_of_mem_take hn), by simp; omega, (fun h => by cases h), ?_, hzw⟩
        · rw [g1, hcs]
          simp
          omega
        · simp only [List.length_take] at hi
          refine ⟨y, rfl, ?_⟩
          rw [hcell i (by omega)]
          simp [List.getD_eq_getElem?_getD, show i < l' by omega]
        · simp only [List.length_take]
          unfold reachBytes at hw
          omega
    let f : (i : Nat) → Pr := fun i => if hil : i < len then (each i hil).choose else ⟨0, [], none, 0⟩
    have hbd := sized_slice hsz htj (hdj.trans (congrArg some hd)) hu
    rw [List.length_map, List.length_range] at hbd
    have hle : len ≤ 140737488351232 := by
      have h1 : len * 1 ≤ (len + ((List.range (m - len)).map fun j => DataW.agg [D0 (len + j), D1 (len + j)]).length) * P.bytesOf e := Nat.mul_le_mul (Nat.le_add_right _ _) be
      unfold reachBytes at hbd
      omega
    refine ⟨(List.range len).map f, by simp, fun i hi => ?_, by simpa using hle⟩
    simp only [List.length_map, List.length_range] at hi
    have e : ((List.range len).map f)[i]'(by simpa using hi) = (each i hi).choose := by
      simp only [List.getElem_map, List.getElem_range]
      exact dif_pos hi
    rw [e]
    exact ⟨x, rfl, (each i hi).choose_spec⟩
end Go.Vk
/- Rows that a loop owns, kept behind what the loop does. Over any program. -/
namespace Go.Vk
open Go.RowKit
theorem blk_stays {B : Nat} {W W' : World} {row : Option Nat} {b t : Nat} {cs : Array Value} (h : W.heap[b]? = some (.cells cs t (0, 0))) (hg : W.grownBy W' row)
    (hr : ∀ r, row = some r → B ≤ r ∧ ∃ o : Obj, W.heap[r]? = some o ∧ o.isCells = false) : W'.heap[b]? = some (.cells cs t (0, 0)) := by
  refine (hg.block b (Array.getElem?_eq_some_iff.1 h).1 ?_).trans h
  intro e
  obtain ⟨_, o, ho, hc⟩ := hr b e.symm
  rw [h] at ho
  cases ho
  cases hc
theorem bel_stays {B : Nat} {w W W' : World} {row : Option Nat} (h : Below w.heap.size w W) (hB : w.heap.size ≤ B) (hg : W.grownBy W' row)
    (hr : ∀ r, row = some r → B ≤ r ∧ ∃ o : Obj, W.heap[r]? = some o ∧ o.isCells = false) : Below w.heap.size w W' :=
  h.grown hg h.size (fun k e => by have := (hr k e).1; omega)
theorem own_stays {B : Nat} {W W' : World} {row : Option Nat} {base e size n : Nat} {v : Value} {xs : List Value} (h : W.ownsRow base e size v n xs) (hg : W.grownBy W' row)
    (hr : ∀ r, row = some r → B ≤ r ∧ ∃ o : Obj, W.heap[r]? = some o ∧ o.isCells = false) : W'.ownsRow base e size v n xs := by
  refine ⟨h.1, ?_⟩
  rcases h.2 with h2 | ⟨g, cap, cur, h3, h4, h5, h6⟩
  · exact .inl h2
  · exact .inr ⟨g, cap, cur, h3, h4, blk_stays h5 hg hr, h6⟩
theorem own_below {W W' : World} {B e size n : Nat} {v : Value} {xs : List Value} (h : W.ownsRow B e size v n xs) (hb : Below W.heap.size W W') : W'.ownsRow B e size v n xs := by
  refine ⟨h.1, ?_⟩
  rcases h.2 with h2 | ⟨g, cap, cur, rfl, hg, hh, r⟩
  · exact .inl h2
  · exact .inr ⟨g, cap, cur, rfl, hg, (hb.block g (Array.getElem?_eq_some_iff.1 hh).1).trans hh, r⟩
theorem own_grow {W W' : World} {B B' e e' size size' n n' : Nat} {v v' : Value} {xs xs' : List Value} (h : W.ownsRow B e size v n xs) (h' : W.ownsRow B' e' size' v' n' xs') (hne : e ≠ e') (hg : W.grownBy W' v'.ownBlock) : W'.ownsRow B e size v n xs := by
  refine ⟨h.1, ?_⟩
  rcases h.2 with h2 | ⟨g, cap, cur, rfl, hB, hh, r⟩
  · exact .inl h2
  · refine .inr ⟨g, cap, cur, rfl, hB, (hg.block g (Array.getElem?_eq_some_iff.1 hh).1 ?_).trans hh, r⟩
    intro e0
    rcases h'.2 with ⟨rfl, _⟩ | ⟨g', cap', cur', rfl, hB', hh', r'⟩
    · cases e0
    · cases e0
      rw [hh] at hh'
      cases hh'
      exact hne rfl
theorem bel_own {w W W' : World} {B e size n : Nat} {v : Value} {xs : List Value} (h : Below w.heap.size w W) (ho : W.ownsRow B e size v n xs) (hB : w.heap.size ≤ B) (hg : W.grownBy W' v.ownBlock) : Below w.heap.size w W' := by
  refine h.grown hg h.size (fun k e => ?_)
  have := (ho.lt k e).1
  omega
theorem blk_own {W W' : World} {B e size n b t : Nat} {v : Value} {xs : List Value} {cs : Array Value} (h : W.heap[b]? = some (.cells cs t (0, 0))) (_ho : W.ownsRow B e size v n xs) (hne : ∀ g, v.ownBlock = some g → b ≠ g) (hg : W.grownBy W' v.ownBlock) : W'.heap[b]? = some (.cells cs t (0, 0)) :=
  (hg.block b (Array.getElem?_eq_some_iff.1 h).1 (fun e => hne b e.symm rfl)).trans h
theorem cells_fresh (w : World) (cs : Array Value) (t : TypeId) (n : Nat) (hn : n = w.heap.size) : ∀ j u, cs.toList[j]? = some u → (w.alloc (.cells cs t)).cell? ((⟨n, 0, none⟩ : Addr).add j) = some u := by
  subst hn
  intro j u hj
  have e : (⟨w.heap.size, 0, none⟩ : Addr).add j = ⟨w.heap.size, j, none⟩ := by unfold Addr.add; split <;> simp_all
  rw [e, World.cell?_alloc_new]
  simpa using hj
theorem keeps_own {B : Nat} {W W' : World} {B' e size n : Nat} {v : Value} {xs : List Value} (ho : W.ownsRow B' e size v n xs) (hg : W.grownBy W' v.ownBlock) : KeepsFrom B W W' :=
  ⟨hg.size, fun k o _ hk hc => (hg.block k (Array.getElem?_eq_some_iff.1 hk).1 (fun e0 => by
    rcases ho.2 with ⟨rfl, _⟩ | ⟨g, cap, cur, rfl, _, hh, _⟩
    · cases e0
    · cases e0
      rw [hk] at hh
      cases hh
      cases hc)).trans hk⟩
end Go.Vk
/- Stores into cells of rows that the walk owns. Over any program. -/
namespace Go.Vk
open Go.RowKit
def StopO (p : Prop) : Prop := p
theorem stop_o {p : Prop} (h : StopO p) : p := h
theorem own_cell {w : World} {B e g n c : Nat} {xs : List Value} (h : w.ownsRow B e 1 (.slice (some ⟨g, 0, none⟩) n c) n xs) {j : Nat} {v : Value} (hv : xs[j]? = some v) : w.cell? ⟨g, j, none⟩ = some v ∧ w.frozen? ⟨g, j, none⟩ = false := by
  rcases h.2 with ⟨h2, _⟩ | ⟨g', cap, cur, heq, hB, hh, hcap, hm, hsz, ht⟩
  · cases h2
  · cases heq
    refine ⟨?_, by simp [World.frozen?, hh]⟩
    have hj : j < n := by have := (List.getElem?_eq_some_iff.1 hv).1; have := h.1; omega
    have : cur.toList[j]? = some v := by rw [← hv, ← ht, List.getElem?_take, if_pos (by omega)]
    simpa [World.cell?, hh] using this
theorem own_set {w : World} {B e g n c : Nat} {xs : List Value} (h : w.ownsRow B e 1 (.slice (some ⟨g, 0, none⟩) n c) n xs) (j : Nat) (v : Value) : (w.setCell ⟨g, j, none⟩ v).ownsRow B e 1 (.slice (some ⟨g, 0, none⟩) n c) n (xs.set j v) := by
  refine ⟨by simpa using h.1, ?_⟩
  rcases h.2 with ⟨h2, _⟩ | ⟨g', cap, cur, heq, hB, hh, hcap, hm, hsz, ht⟩
  · cases h2
  · cases heq
    rw [setCell_eq_setRow w g j cur e (0, 0) v hh]
    refine .inr ⟨g, c, _, rfl, hB, setRow_heap _ _ _ _ _ _ hh, hcap, hm, by simpa using hsz, ?_⟩
    rw [← ht]
    simp [List.take_set]
theorem own_cut {w : World} {B e g n c : Nat} {xs : List Value} (h : w.ownsRow B e 1 (.slice (some ⟨g, 0, none⟩) n c) n xs) (k : Nat) (hk : k ≤ n) : w.ownsRow B e 1 (.slice (some ⟨g, 0, none⟩) k c) k (xs.take k) := by
  have hl := h.1
  refine ⟨by rw [List.length_take]; omega, ?_⟩
  rcases h.2 with ⟨h2, _⟩ | ⟨g', cap, cur, heq, hB, hh, hcap, hm, hsz, ht⟩
  · cases h2
  · cases heq
    refine .inr ⟨g, c, cur, rfl, hB, hh, by omega, hm, hsz, ?_⟩
    rw [← ht, List.take_take]
    congr 1
    omega
theorem own_keep {w w' : World} {B e size g n c : Nat} {xs : List Value} (h : w.ownsRow B e size (.slice (some ⟨g, 0, none⟩) n c) n xs) (hk : w'.heap[g]? = w.heap[g]?) : w'.ownsRow B e size (.slice (some ⟨g, 0, none⟩) n c) n xs := by
  refine ⟨h.1, ?_⟩
  rcases h.2 with ⟨h2, _⟩ | ⟨g', cap, cur, heq, hB, hh, r⟩
  · cases h2
  · cases heq
    exact .inr ⟨g, c, cur, rfl, hB, hk.trans hh, r⟩
theorem own_setOther {w : World} {B e size n : Nat} {v : Value} {xs : List Value} (h : w.ownsRow B e size v n xs) {a : Addr} (ha : a.block < B) (u : Value) : (w.setCell a u).ownsRow B e size v n xs := by
  refine ⟨h.1, ?_⟩
  rcases h.2 with h2 | ⟨g, cap, cur, heq, hB, hh, r⟩
  · exact .inl h2
  · exact .inr ⟨g, cap, cur, heq, hB, (Below.heap_setCell _ _ _ _ (by omega)).trans hh, r⟩
theorem heap_setOther {w : World} {k : Nat} {a : Addr} {o : Obj} (h : w.heap[k]? = some o) (ha : k ≠ a.block) (u : Value) : (w.setCell a u).heap[k]? = some o := (Below.heap_setCell _ _ _ _ ha).trans h
theorem heap_setKeep (w : World) {k : Nat} {a : Addr} (ha : k ≠ a.block) (u : Value) : (w.setCell a u).heap[k]? = w.heap[k]? := Below.heap_setCell _ _ _ _ ha
theorem owned_max {w : World} {B e size n c : Nat} {X : Option Addr} {xs : List Value} (h : w.ownsRow B e size (.slice X n c) n xs) : n ≤ maxLen := by
  rcases h.2 with ⟨h2, h3⟩ | ⟨g', cap, cur, heq, hB, hh, hcap, hm, r⟩
  · omega
  · omega
theorem wf64 {n : Int} (h0 : -9223372036854775808 ≤ n) (h1 : n ≤ 9223372036854775807) : (Lit.int .i64 n).wf = true := by
  unfold Lit.wf
  simp only [Bool.and_eq_true, decide_eq_true_eq]
  exact ⟨h0, h1⟩
theorem owned_lt {w : World} {B e size n c : Nat} {X : Option Addr} {xs : List Value} (h : w.ownsRow B e size (.slice X n c) n xs) : ∀ q, (Value.slice X n c).ownBlock = some q → q < w.heap.size := fun q hq => (h.lt q hq).2
theorem heap_set1 {w : World} {g t : Nat} {a : Value} {fr : Nat × Nat} (hg : w.heap[g]? = some (.cells #[a] t fr)) (v : Value) : (w.setCell ⟨g, 0, none⟩ v).heap[g]? = some (.cells #[v] t fr) := by
  rw [setCell_eq_setRow w g 0 _ t fr v hg]
  exact setRow_heap _ _ _ _ _ _ hg
theorem cell_of1 {w : World} {g t : Nat} {a : Value} (hg : w.heap[g]? = some (.cells #[a] t (0, 0))) : w.cell? ⟨g, 0, none⟩ = some a ∧ w.frozen? ⟨g, 0, none⟩ = false := by
  constructor
  · simp [World.cell?, hg]
  · simp [World.frozen?, hg]
theorem heap_alloc_at (w : World) (o : Obj) (k : Nat) (hk : k = w.heap.size) : (w.alloc o).heap[k]? = some o := by
  subst hk
  exact heap_alloc_new w o
theorem heap_alloc_before {w : World} {k : Nat} {o : Obj} (h : w.heap[k]? = some o) (o' : Obj) : (w.alloc o').heap[k]? = some o := (Below.heap_alloc w o' k (Array.getElem?_eq_some_iff.1 h).1).trans h
theorem own_lt {w : World} {B e size g n c : Nat} {xs : List Value} (h : w.ownsRow B e size (.slice (some ⟨g, 0, none⟩) n c) n xs) : B ≤ g ∧ g < w.heap.size := h.lt g rfl
theorem heap_set4_2 {w : World} {g t : Nat} {a0 a1 a2 a3 : Value} {fr : Nat × Nat} (hg : w.heap[g]? = some (.cells #[a0, a1, a2, a3] t fr)) (v : Value) : (w.setCell ⟨g, 2, none⟩ v).heap[g]? = some (.cells #[a0, a1, v, a3] t fr) := by
  rw [setCell_eq_setRow w g 2 _ t fr v hg]
  exact setRow_heap _ _ _ _ _ _ hg
end Go.Vk
/- append onto a slice of the call's own: what lay there before reads as it did, the old slice's elements too (they lie behind the new slice where there was no room, and at its head where there was). Over any program. -/
namespace Go.Vk
open Go.RowKit
theorem kept_of2 {W w1 : World} {k : Nat} {o : Obj} (hb : Below W.heap.size W w1) (h : W.heap[k]? = some o) : w1.heap[k]? = some o := (hb.block k (Array.getElem?_eq_some_iff.1 h).1).trans h
section
variable {P : Program} (w : World)
theorem run_append_own_keep (base : Nat) (t ty e : TypeId) (i : TypeInfo) (z : Value) (size bytes : Nat) (ht : P.underlying t = some (.slice e)) (hi : P.info? e = some i) (hz : i.zero = some z)
    (hsize : i.size = size) (hby : i.bytes = bytes) (hzs : z.cells.size = size) (hsz : 0 < size)
    (v : Value) (n : Nat) (xs : List Value) (hown : w.ownsRow base e size v n xs)
    (a : Addr) (m c : Nat) (news : List Value) (hl : news.length = m * size) (hnews : ∀ j u, news[j]? = some u → w.cell? (a.add j) = some u) (h1 : ∀ u ∈ news, u.oneCell' = true)
    (h63 : n + m ≤ maxLen) (hbytes : (n + m) * bytes ≤ 140737488355328) (hbase : base ≤ w.heap.size) :
    ∃ v' w', (Builtin.append_ #[t, t] ty #[v, .slice (some a) m c]).run P w = .ok v' w' ∧ w'.ownsRow base e size v' (n + m) (xs ++ news) ∧ w.grownBy w' v.ownBlock ∧
      (v'.ownBlock = v.ownBlock ∨ v'.ownBlock = some w.heap.size) ∧
      ∀ b o, b < w.heap.size → (v.ownBlock = some b → o < n * size) → w'.cell? ⟨b, o, none⟩ = w.cell? ⟨b, o, none⟩ := by
  obtain ⟨v', w', hr, h2, h3, _, h5⟩ := run_append_own_at (P := P) w base t ty e i z size bytes ht hi hz hsize hby hzs hsz v n xs hown a m c news hl hnews h1 h63 hbytes hbase
  refine ⟨v', w', hr, h2, h3, h5, fun b o hb ho => ?_⟩
  by_cases hv : v.ownBlock = some b
  · have ho' := ho hv
    rcases hown.2 with ⟨rfl, _⟩ | ⟨g, cap, cur, rfl, hbg, hg, hnc, hcm, hcs, htake⟩
    · cases hv
    · cases hv
      rcases h5 with h5 | h5
      · obtain ⟨cap', rfl⟩ : ∃ cap', v' = .slice (some ⟨g, 0, none⟩) (n + m) cap' := by
          rcases h2.2 with ⟨rfl, _⟩ | ⟨g', cap', _, rfl, _⟩
          · cases h5
          · cases h5
            exact ⟨_, rfl⟩
        have hlt : o < (n + m) * size := Nat.lt_of_lt_of_le ho' (Nat.mul_le_mul_right _ (by omega))
        rw [h2.cellAt o hlt, hown.cellAt o ho', List.getElem?_append_left (by rw [hown.1]; exact ho')]
      · by_cases hroom : n + m ≤ cap
        · have hfit : n * i.size + news.length ≤ cur.size := by rw [hl, hcs, hsize, ← Nat.add_mul]; exact Nat.mul_le_mul_right _ hroom
          have hr2 := run_append_room (P := P) w t ty e i ht hi g n cap cur hg a m c news (by rw [hsize]; exact hl) hnews h1 hroom hfit
          rw [hr2] at hr
          cases hr
          cases h5
          exact absurd (Array.getElem?_eq_some_iff.1 hg).1 (Nat.lt_irrefl _)
        · have holds : ∀ j u, xs[j]? = some u → w.cell? ((⟨g, 0, none⟩ : Addr).add j) = some u := hown.cells (g := g) rfl
          have h63' : ((n + m : Nat) : Int) ≤ 9223372036854775807 := by have := h63; unfold maxLen at this; omega
          have hr2 := run_append_grow (P := P) w t ty e i z ht hi hz ⟨g, 0, none⟩ n cap xs (by rw [hsize]; exact hown.1) holds a m c news (by rw [hsize]; exact hl) hnews (by omega) h63' (growslice_fits (by omega) (by rw [hby]; exact hbytes))
          rw [hr2] at hr
          cases hr
          exact World.cell?_of_block (a := ⟨g, o, none⟩) (Below.heap_alloc w.drew _ g (Array.getElem?_eq_some_iff.1 hg).1)
  · exact World.cell?_of_block (a := ⟨b, o, none⟩) (h3.block b hb (fun e => hv e.symm))
theorem wpList_append_own_keep {ops : Array Oper} {rest : List Oper} {o : Oper} {a : Act} {Q : Exit → Act → World → Prop} (hgd : o.guard = none) (s x : Operand) (t : TypeId)
    (ho : o.op = .call { callee := .builtin .append, args := #[s, x], argTypes := #[t, t] })
    (base : Nat) (e : TypeId) (i : TypeInfo) (z : Value) (size bytes : Nat) (ht : P.underlying t = some (.slice e)) (hi : P.info? e = some i) (hz : i.zero = some z)
    (hsize : i.size = size) (hby : i.bytes = bytes) (hzs : z.cells.size = size) (hsz : 0 < size)
    (v : Value) (n : Nat) (xs : List Value) (hs : a.eval s = v) (hown : w.ownsRow base e size v n xs)
    (ad : Addr) (m c : Nat) (news : List Value) (hx : a.eval x = .slice (some ad) m c) (hl : news.length = m * size) (hnews : ∀ j u, news[j]? = some u → w.cell? (ad.add j) = some u) (h1 : ∀ u ∈ news, u.oneCell' = true)
    (h63 : n + m ≤ maxLen) (hbytes : (n + m) * bytes ≤ 140737488355328) (hbase : base ≤ w.heap.size)
    (h : ∀ v' w', w'.ownsRow base e size v' (n + m) (xs ++ news) → w.grownBy w' v.ownBlock → (v'.ownBlock = v.ownBlock ∨ v'.ownBlock = some w.heap.size) →
      (∀ b o, b < w.heap.size → (v.ownBlock = some b → o < n * size) → w'.cell? ⟨b, o, none⟩ = w.cell? ⟨b, o, none⟩) → wpList P ops Q rest (a.put o.dst v') w') :
    wpList P ops Q (o :: rest) a w := by
  refine wpList_plain hgd fun K hK => ?_
  obtain ⟨v', w', hr, h2, h3, h4, h5⟩ := run_append_own_keep (P := P) w base t o.type e i z size bytes ht hi hz hsize hby hzs hsz v n xs hown ad m c news hl hnews h1 h63 hbytes hbase
  unfold Oper.wp execOp
  simp only [ho, resolve, invoke, builtin, Sem.run_bind, Sem.run_pure, Result.andThen_ok, List.map_toArray, List.map_cons, List.map_nil, hs, hx, hr]
  exact hK _ _ (h v' w' h2 h3 h4 h5)
end
end Go.Vk
/- A range whose rounds turn one variable of the function's: all else below is as it was. -/
namespace Go.Vk
open Go.RowKit
/-- One cell counts (or holds), all else that was there at W0 is as it was. -/
def OneInv (w W0 : World) (b t : Nat) (v : Value) (W : World) : Prop :=
  Below w.heap.size w W ∧ W0.heap.size ≤ W.heap.size ∧ (∀ j, j < W0.heap.size → j ≠ b → W.heap[j]? = W0.heap[j]?) ∧ W.heap[b]? = some (.cells #[v] t (0, 0))
theorem one_kept {w W0 W W' : World} {b t : Nat} {v : Value} {row : Option Nat} (hw : w.heap.size ≤ W0.heap.size) (h : OneInv w W0 b t v W) (hg : W.grownBy W' row) (hr : ∀ r, row = some r → W0.heap.size ≤ r ∧ ∃ o : Obj, W.heap[r]? = some o ∧ o.isCells = false) : OneInv w W0 b t v W' := by
  obtain ⟨h1, h2, h3, h4⟩ := h
  exact ⟨bel_stays h1 hw hg hr, Nat.le_trans h2 hg.size, fun j hj hb => (hg.block j (by omega) (fun e => by have := (hr j e.symm).1; omega)).trans (h3 j hj hb), blk_stays h4 hg hr⟩
theorem one_set {w W0 W W1 : World} {b t : Nat} {v : Value} (hb : w.heap.size ≤ b) (_hb0 : b < W0.heap.size) (h : OneInv w W0 b t v W) (hB : Below W.heap.size W W1) (v' : Value) : OneInv w W0 b t v' (W1.setCell ⟨b, 0, none⟩ v') := by
  obtain ⟨h1, h2, h3, h4⟩ := h
  exact ⟨(h1.trans (hB.mono h1.size)).setCell (p := ⟨b, 0, none⟩) hb _, by have := hB.size; simp; omega, fun j hj hjb => (Below.heap_setCell _ _ _ _ (by dsimp only; omega)).trans ((hB.block j (by omega)).trans (h3 j hj hjb)), heap_set1 ((hB.block b (Array.getElem?_eq_some_iff.1 h4).1).trans h4) _⟩
theorem one_trans {w W0 W3 W : World} {b bk t t' : Nat} {v v' : Value} (hb : b < bk) (h : OneInv w W0 b t v W3) (h' : OneInv w W3 bk t' v' W) (hbk : W0.heap.size ≤ bk) (hbk3 : bk < W3.heap.size) : OneInv w W0 b t v W := by
  obtain ⟨h1, h2, h3, h4⟩ := h
  obtain ⟨g1, g2, g3, g4⟩ := h'
  exact ⟨g1, Nat.le_trans h2 g2, fun j hj hjb => (g3 j (by omega) (by omega)).trans (h3 j hj hjb), (g3 b (by omega) (by omega)).trans h4⟩
theorem one_keeps {w W3 W : World} {B bk t' : Nat} {v' : Value} {t : Nat} {cs : Array Value} (h' : OneInv w W3 bk t' v' W) (hc : W3.heap[bk]? = some (.cells cs t (0, 0))) : KeepsFrom B W3 W :=
  ⟨h'.2.1, fun j o _ hj ho => (h'.2.2.1 j (Array.getElem?_eq_some_iff.1 hj).1 (fun e => by rw [e, hc] at hj; cases hj; cases ho)).trans hj⟩
/-- A row of the caller's own, of another type than the variable, is as it was. -/
theorem one_own {w W0 W : World} {b t B e size n : Nat} {v v0 : Value} {c : Array Value} {xs : List Value} (h : OneInv w W0 b t v0 W) (hc : W0.heap[b]? = some (.cells c t (0, 0))) (ho : W0.ownsRow B e size v n xs) (hne : t ≠ e) : W.ownsRow B e size v n xs := by
  refine ⟨ho.1, ?_⟩
  rcases ho.2 with h2 | ⟨q, cap, cur, rfl, hB, hh, r⟩
  · exact .inl h2
  · refine .inr ⟨q, cap, cur, rfl, hB, (h.2.2.1 q (Array.getElem?_eq_some_iff.1 hh).1 (fun e0 => ?_)).trans hh, r⟩
    rw [e0, hc] at hh
    cases hh
    exact hne rfl
end Go.Vk
/- The open records of ranges over functions, however many rounds laid one, run at the function's end. Over any program. -/
namespace Go.Vk
open Go.RowKit
/-- The defers that the rounds have laid: each round's record lies behind the ones before. -/
def DefsL (B : Nat) : List Deferred → World → Prop
  | [], _ => True
  | d :: ds, W => (∃ D, d = { target := .collected D, args := #[] } ∧ B ≤ D ∧ W.heap[D]? = some (.deferred (some [])) ∧ ∀ d' ∈ ds, ∀ D', d'.target = .collected D' → D' < D) ∧ DefsL B ds W
theorem defsl_keep {B : Nat} {W W' : World} : ∀ {ds : List Deferred}, DefsL B ds W → (∀ (k : Nat) (o : Obj), W.heap[k]? = some o → o.isCells = false → W'.heap[k]? = some o) → DefsL B ds W'
  | [], _, _ => trivial
  | _ :: _, ⟨⟨D, h1, h2, h3, h4⟩, h5⟩, hk => ⟨⟨D, h1, h2, hk D _ h3 rfl, h4⟩, defsl_keep h5 hk⟩
theorem defsl_below {B : Nat} {W W' : World} {ds : List Deferred} (h : DefsL B ds W) (hb : Below W.heap.size W W') : DefsL B ds W' := defsl_keep h fun _ _ hk _ => kept_of2 hb hk
theorem defsl_lt {B : Nat} {W : World} : ∀ {ds : List Deferred}, DefsL B ds W → ∀ d ∈ ds, ∀ D, d.target = .collected D → D < W.heap.size
  | _ :: _, ⟨⟨D, h1, _, h3, _⟩, h5⟩, d, hd, D', he => by
    rcases List.mem_cons.1 hd with rfl | hd
    · subst h1
      cases he
      exact (Array.getElem?_eq_some_iff.1 h3).1
    · exact defsl_lt h5 d hd D' he
/-- One record more. -/
theorem defsl_cons {B D : Nat} {W W' : World} {ds : List Deferred} (h : DefsL B ds W) (hk : ∀ (k : Nat) (o : Obj), k < W.heap.size → W.heap[k]? = some o → o.isCells = false → W'.heap[k]? = some o) (hB : B ≤ D) (hD : W.heap.size ≤ D) (hd : W'.heap[D]? = some (.deferred (some []))) : DefsL B ({ target := .collected D, args := #[] } :: ds) W' :=
  ⟨⟨D, rfl, hB, hd, fun d' hd' D' he => Nat.lt_of_lt_of_le (defsl_lt h d' hd' D' he) hD⟩, defsl_keep h fun k o hk' hc => hk k o (Array.getElem?_eq_some_iff.1 hk').1 hk' hc⟩
theorem defsl_put {B D : Nat} {W : World} (o : Obj) : ∀ {ds : List Deferred}, DefsL B ds W → (∀ d ∈ ds, ∀ D', d.target = .collected D' → D' < D) → DefsL B ds (W.putObj D o)
  | [], _, _ => trivial
  | _ :: _, ⟨⟨D', h1, h2, h3, h4⟩, h5⟩, hl => ⟨⟨D', h1, h2, (World.putObj_heap_other (by have := hl _ (List.mem_cons_self ..) D' (by rw [h1]); omega)).trans h3, h4⟩, defsl_put o h5 fun d hd => hl d (List.mem_cons_of_mem _ hd)⟩
/-- All of them are run: no cell is touched. -/
theorem leaves_defs {F : Fence} {n : Nat} {P : Program} {fn : Func} {tmps : Array Value} {R : Ending → World → Prop} {B : Nat} : ∀ (ds : List Deferred) (W : World), DefsL B ds W →
    (∀ W', Below B W W' → (∀ (k : Nat) (o : Obj), W.heap[k]? = some o → o.isCells = true → W'.heap[k]? = some o) → LeavesInM F n P fn tmps R [] .returning W') → LeavesInM F n P fn tmps R ds .returning W
  | [], W, _, h => h W (Below.refl _ _) fun _ _ hk _ => hk
  | d :: ds, W, ⟨⟨D, h1, h2, h3, h4⟩, h5⟩, h => by
    subst h1
    refine ⟨by simp, .inl ⟨D, _, rfl, run_takeDeferred h3, ?_⟩⟩
    refine leaves_defs ds _ (defsl_put _ h5 h4) fun W' hb hk => h W' ?_ fun k o ho hc => hk k o ((World.putObj_heap_other (fun e => by rw [e, h3] at ho; cases ho; cases hc)).trans ho) hc
    have hb0 : Below B W (W.putObj D (.deferred none)) := (Below.refl B W).grown (grownBy_putObj' W D (.deferred none)) (Nat.le_of_lt (Nat.lt_of_le_of_lt h2 (Array.getElem?_eq_some_iff.1 h3).1)) (fun k e => by cases e; exact h2)
    exact hb0.trans hb
end Go.Vk
/- A frame whose slots are mostly of no matter: its size and the slots that matter are said; to walk on it is written out, one letter with a number for each slot. Over any program. -/
namespace Go.Vk
theorem frame_open {a : Act} {n : Nat} (h : a.tmps.size = n) : ∃ u : Nat → Value, (∀ k, a.tmps.getD k undef = u k) ∧ a = { tmps := ((List.range n).map u).toArray, defers := a.defers } := by
  refine ⟨fun k => a.tmps.getD k undef, fun _ => rfl, ?_⟩
  obtain ⟨⟨l⟩, ds⟩ := a
  simp only [List.size_toArray] at h
  subst h
  congr
  refine List.ext_getElem (by simp) fun i h1 h2 => ?_
  simp [List.getElem?_eq_getElem h1]
end Go.Vk
/- Rows of triples of whole numbers (structs of three), read and owned. Over any program. -/
namespace Go.Vk
open Go.RowKit
abbrev Tri := Int × Int × Int
def zeroTri : Tri := (0, 0, 0)
def trCells (ls : List Tri) : List Value := ls.flatMap fun t => [.int .i64 t.1, .int .i64 t.2.1, .int .i64 t.2.2]
def triV (t : Tri) : Value := .agg #[.int .i64 t.1, .int .i64 t.2.1, .int .i64 t.2.2]
theorem trCells_cons (t : Tri) (r : List Tri) : trCells (t :: r) = .int .i64 t.1 :: .int .i64 t.2.1 :: .int .i64 t.2.2 :: trCells r := rfl
theorem trCells_append (a b : List Tri) : trCells (a ++ b) = trCells a ++ trCells b := by simp [trCells]
theorem trCells_length (ls : List Tri) : (trCells ls).length = ls.length * 3 := by
  induction ls with
  | nil => rfl
  | cons t r ih => rw [trCells_cons]; simp only [List.length_cons, ih]; omega
theorem trCells_at : ∀ {ls : List Tri} {k : Nat}, k < ls.length → (trCells ls)[k * 3]? = some (.int .i64 (ls.getD k zeroTri).1) ∧ (trCells ls)[k * 3 + 1]? = some (.int .i64 (ls.getD k zeroTri).2.1) ∧ (trCells ls)[k * 3 + 2]? = some (.int .i64 (ls.getD k zeroTri).2.2)
  | t :: r, 0, _ => ⟨rfl, rfl, rfl⟩
  | t :: r, k + 1, h => by
    obtain ⟨h0, h1, h2⟩ := trCells_at (ls := r) (k := k) (by simpa using h)
    rw [trCells_cons, List.getD_cons_succ]
    have e0 : (k + 1) * 3 = k * 3 + 1 + 1 + 1 := by omega
    have e1 : (k + 1) * 3 + 1 = k * 3 + 1 + 1 + 1 + 1 := by omega
    have e2 : (k + 1) * 3 + 2 = k * 3 + 2 + 1 + 1 + 1 := by omega
    rw [e1, e2, e0]
    simp only [List.getElem?_cons_succ]
    exact ⟨h0, h1, h2⟩
theorem trCells_one {ls : List Tri} : ∀ v ∈ trCells ls, v.oneCell' = true := by
  intro v hv
  obtain ⟨t, _, ht⟩ := List.mem_flatMap.1 hv
  simp only [List.mem_cons, List.not_mem_nil, or_false] at ht
  rcases ht with rfl | rfl | rfl <;> rfl
/-- Triples that are read. -/
def TriAt (w : World) (A : Option Addr) (ls : List Tri) : Prop := ∀ i, i < ls.length → ∃ x, A = some x ∧ w.cell? (x.add (i * 3)) = some (.int .i64 (ls.getD i zeroTri).1) ∧ w.cell? ⟨(x.add (i * 3)).block, (x.add (i * 3)).off + 1, none⟩ = some (.int .i64 (ls.getD i zeroTri).2.1) ∧ w.cell? ⟨(x.add (i * 3)).block, (x.add (i * 3)).off + 2, none⟩ = some (.int .i64 (ls.getD i zeroTri).2.2)
theorem add_block (x : Addr) (j : Nat) : (x.add j).block = x.block ∧ (x.add j).off = x.off + j := by
  unfold Addr.add
  split
  · rename_i h; exact ⟨rfl, by omega⟩
  · exact ⟨rfl, rfl⟩
theorem add_flat (x : Addr) (j k : Nat) (h : k ≠ 0) : x.add (j + k) = ⟨(x.add j).block, (x.add j).off + k, none⟩ := by
  obtain ⟨h1, h2⟩ := add_block x j
  rw [h1, h2]
  unfold Addr.add
  rw [if_neg (by omega)]
  congr 1
  omega
theorem tri_later {w w' : World} {A : Option Addr} {ls : List Tri} (h : TriAt w A ls) (hc : ∀ a v, w.cell? a = some v → w'.cell? a = some v) : TriAt w' A ls := fun i hi => by
  obtain ⟨x, h1, h2, h3, h4⟩ := h i hi
  exact ⟨x, h1, hc _ _ h2, hc _ _ h3, hc _ _ h4⟩
theorem tri_src {w : World} {y : Addr} {ls : List Tri} (h : TriAt w (some y) ls) : ∀ j u, (trCells ls)[j]? = some u → w.cell? (y.add j) = some u := fun j u hu => by
  have hj : j < ls.length * 3 := by have := (List.getElem?_eq_some_iff.1 hu).1; rwa [trCells_length] at this
  obtain ⟨x, hx, c0, c1, c2⟩ := h (j / 3) (by omega)
  cases hx
  obtain ⟨e0, e1, e2⟩ := trCells_at (ls := ls) (k := j / 3) (by omega)
  rcases (show j = j / 3 * 3 ∨ j = j / 3 * 3 + 1 ∨ j = j / 3 * 3 + 2 by omega) with e | e | e
  · rw [e] at hu ⊢
    rw [c0, ← e0]
    exact hu
  · rw [e] at hu ⊢
    rw [add_flat _ _ _ (by decide), c1, ← e1]
    exact hu
  · rw [e] at hu ⊢
    rw [add_flat _ _ _ (by decide), c2, ← e2]
    exact hu
theorem tri_owned {w : World} {B e c : Nat} {X : Option Addr} {ls : List Tri} (h : w.ownsRow B e 3 (.slice X ls.length c) ls.length (trCells ls)) : TriAt w X ls := fun i hi => by
  rcases h.2 with ⟨h1, h2⟩ | ⟨g, cap, cur, heq, r⟩
  · omega
  · obtain ⟨rfl, _, rfl⟩ := Value.slice.inj heq
    obtain ⟨e0, e1, e2⟩ := trCells_at hi
    have k0 := (h.cellAt (i * 3) (by omega)).trans e0
    have k1 := (h.cellAt (i * 3 + 1) (by omega)).trans e1
    have k2 := (h.cellAt (i * 3 + 2) (by omega)).trans e2
    have hz : ∀ j, (⟨g, 0, none⟩ : Addr).add j = ⟨g, j, none⟩ := fun j => by unfold Addr.add; split <;> simp_all
    refine ⟨⟨g, 0, none⟩, rfl, ?_⟩
    rw [hz]
    exact ⟨k0, k1, k2⟩
theorem tri_lit {w : World} {g t : Nat} {ls : List Tri} (h : w.heap[g]? = some (.cells (trCells ls).toArray t (0, 0))) : TriAt w (some ⟨g, 0, none⟩) ls := fun i hi => by
  obtain ⟨e0, e1, e2⟩ := trCells_at hi
  have hz : ∀ j, (⟨g, 0, none⟩ : Addr).add j = ⟨g, j, none⟩ := fun j => by unfold Addr.add; split <;> simp_all
  refine ⟨⟨g, 0, none⟩, rfl, ?_⟩
  rw [hz]
  have hc : ∀ o, w.cell? ⟨g, o, none⟩ = (trCells ls)[o]? := fun o => by simp [World.cell?, h]
  exact ⟨(hc _).trans e0, (hc _).trans e1, (hc _).trans e2⟩
/-- append of what came in, whether it is nil or not. -/
theorem wpList_append_src {P : Program} (w : World) {ops : Array Oper} {rest : List Oper} {o : Oper} {a : Act} {Q : Exit → Act → World → Prop} (hgd : o.guard = none) (s x : Operand) (t : TypeId)
    (ho : o.op = .call { callee := .builtin .append, args := #[s, x], argTypes := #[t, t] })
    (base : Nat) (e : TypeId) (i : TypeInfo) (z : Value) (size bytes : Nat) (ht : P.underlying t = some (.slice e)) (hi : P.info? e = some i) (hz : i.zero = some z)
    (hsize : i.size = size) (hby : i.bytes = bytes) (hzs : z.cells.size = size) (hsz : 0 < size)
    (v : Value) (n : Nat) (xs : List Value) (hs : a.eval s = v) (hown : w.ownsRow base e size v n xs)
    (A : Option Addr) (m c : Nat) (news : List Value) (hx : a.eval x = .slice A m c) (hA : A = none → m = 0 ∧ c = 0) (hl : news.length = m * size) (hnews : ∀ y, A = some y → ∀ j u, news[j]? = some u → w.cell? (y.add j) = some u) (h1 : ∀ u ∈ news, u.oneCell' = true)
    (h63 : n + m ≤ maxLen) (hbytes : (n + m) * bytes ≤ 140737488355328) (hbase : base ≤ w.heap.size)
    (h : ∀ v' w', w'.ownsRow base e size v' (n + m) (xs ++ news) → w.grownBy w' v.ownBlock → wpList P ops Q rest (a.put o.dst v') w') : wpList P ops Q (o :: rest) a w := by
  cases A with
  | some y => exact wpList_append_own w hgd s x t ho base e i z size bytes ht hi hz hsize hby hzs hsz v n xs hs hown y m c news hx hl (hnews y rfl) h1 h63 hbytes hbase fun v' w' h2 h3 _ => h v' w' h2 h3
  | none =>
    obtain ⟨rfl, rfl⟩ := hA rfl
    have hnil : news = [] := List.eq_nil_of_length_eq_zero (by omega)
    subst hnil
    refine wpList_append_own_none hgd s x t ho base e i size ht hi v n xs hs hown hx ?_
    exact h v w (by simpa using hown) (World.grownBy.refl _ _)
/-- An operation whose guard holds, without its guard. -/
theorem wpList_unguard {P : Program} {ops : Array Oper} {Q : Exit → Act → World → Prop} {rest : List Oper} {o : Oper} {a : Act} {w : World} (hw : Region.wanted o (yielded ops a.tmps) = true) (h : wpList P ops Q ({ o with guard := none } :: rest) a w) : wpList P ops Q (o :: rest) a w := by
  unfold wpList at h ⊢
  rw [if_pos (by simp [Region.wanted])] at h
  rw [if_pos hw]
  exact h
theorem tri_none {w : World} {A : Option Addr} {ls : List Tri} {cap : Nat} (h : TriAt w A ls) (h0 : A = none → cap = 0) : A = none → ls.length = 0 ∧ cap = 0 := fun e => by
  refine ⟨?_, h0 e⟩
  cases hb : ls with
  | nil => rfl
  | cons a r =>
    obtain ⟨x, hx, _⟩ := h 0 (by rw [hb]; simp)
    rw [e] at hx
    cases hx
theorem tri_take {w : World} {A : Option Addr} {ls : List Tri} {r : List Tri} (h : TriAt w A (ls ++ r)) : TriAt w A ls := fun i hi => by
  obtain ⟨x, h1, h2, h3, h4⟩ := h i (by rw [List.length_append]; omega)
  have e : (ls ++ r).getD i zeroTri = ls.getD i zeroTri := by rw [List.getD_eq_getElem?_getD, List.getElem?_append_left hi, List.getD_eq_getElem?_getD]
  rw [e] at h2 h3 h4
  exact ⟨x, h1, h2, h3, h4⟩
theorem own_setN {w : World} {B e size g n c : Nat} {xs : List Value} (h : w.ownsRow B e size (.slice (some ⟨g, 0, none⟩) n c) n xs) (j : Nat) (v : Value) : (w.setCell ⟨g, j, none⟩ v).ownsRow B e size (.slice (some ⟨g, 0, none⟩) n c) n (xs.set j v) := by
  refine ⟨by simpa using h.1, ?_⟩
  rcases h.2 with ⟨h2, _⟩ | ⟨g', cap, cur, heq, hB, hh, hcap, hm, hsz, ht⟩
  · cases h2
  · cases heq
    rw [setCell_eq_setRow w g j cur e (0, 0) v hh]
    refine .inr ⟨g, c, _, rfl, hB, setRow_heap _ _ _ _ _ _ hh, hcap, hm, by simpa using hsz, ?_⟩
    rw [← ht]
    simp [List.take_set]
theorem below_own_set {w0 w : World} {B e size g n c : Nat} {xs : List Value} (hb : Below w0.heap.size w0 w) (h : w.ownsRow B e size (.slice (some ⟨g, 0, none⟩) n c) n xs) (hB : w0.heap.size ≤ B) (j : Nat) (v : Value) : Below w0.heap.size w0 (w.setCell ⟨g, j, none⟩ v) := by
  rcases h.2 with ⟨h2, _⟩ | ⟨g', cap, cur, heq, hg, hh, _⟩
  · cases h2
  · cases heq
    rw [setCell_eq_setRow w g j cur e (0, 0) v hh]
    exact below_setRow hb (by omega) _
theorem trCells_set2 : ∀ {ls : List Tri} {k : Nat} (z : Int), k < ls.length → (trCells ls).set (k * 3 + 2) (.int .i64 z) = trCells (ls.set k ((ls.getD k zeroTri).1, (ls.getD k zeroTri).2.1, z))
  | t :: r, 0, z, _ => rfl
  | t :: r, k + 1, z, h => by
    have ih := trCells_set2 (ls := r) (k := k) z (by simpa using h)
    have e2 : (k + 1) * 3 + 2 = k * 3 + 2 + 1 + 1 + 1 := by omega
    rw [trCells_cons, List.getD_cons_succ, e2, List.set_cons_succ, List.set_cons_succ, List.set_cons_succ, ih]
    rfl
end Go.Vk
/- A slice of structs of three whole numbers that came in, opened. Over any program. -/
namespace Go.Vk
open Go.ChangeShapes Go.WideShapes Go.RowKit Go.Deep
theorem trod_struct3i {H : Type} {enc : TypeId × Value → H} {P : Program} {w : World} {base : Nat} {spare : Nat → Bool} {held : Bool} {t : TypeId} {f0 f1 f2 : Field} {fuel : Nat} {c0 c1 c2 : Value} {x : DataW H × List MemPlace} (ht : P.underlying t = some (.struct #[f0, f1, f2]))
    (o0 : f0.offset = 0) (o1 : f1.offset = 1) (o2 : f2.offset = 2) (k0 : P.cellsOf f0.type = 1) (k1 : P.cellsOf f1.type = 1) (k2 : P.cellsOf f2.type = 1)
    (h0 : P.underlying f0.type = some (.int .i64)) (h1 : P.underlying f1.type = some (.int .i64)) (h2 : P.underlying f2.type = some (.int .i64))
    (h : DataW.trod enc P w base spare held fuel t [c0, c1, c2] = some x) : ∃ z0 z1 z2, c0 = .int .i64 z0 ∧ c1 = .int .i64 z1 ∧ c2 = .int .i64 z2 ∧ (Lit.int .i64 z0).wf = true ∧ (Lit.int .i64 z1).wf = true ∧ (Lit.int .i64 z2).wf = true := by
  obtain ⟨xs, k, _, hxy, _, hxl, hf⟩ := DataW.trod_struct ht h
  match xs, hxl with
  | [y0, y1, y2], _ =>
    have g0 := hf 0 f0 rfl
    have g1 := hf 1 f1 rfl
    have g2 := hf 2 f2 rfl
    simp [o0, o1, o2, k0, k1, k2] at g0 g1 g2
    obtain ⟨z0, e0, _, w0⟩ := DataW.trod_int h0 g0
    obtain ⟨z1, e1, _, w1⟩ := DataW.trod_int h1 g1
    obtain ⟨z2, e2, _, w2⟩ := DataW.trod_int h2 g2
    simp only [List.cons.injEq, and_true] at e0 e1 e2
    exact ⟨z0, z1, z2, e0, e1, e2, w0, w1, w2⟩
theorem open_trips {H : Type} {enc : TypeId × Value → H} {P : Program} {W : World} {base : Nat} {spare : Nat → Bool} {held : Bool} {t e : TypeId} {f0 f1 f2 : Field} {a : Option Addr} {len cap : Nat} {d : DataW H} {ps : List MemPlace} {ts : List TypeId} {ds : List (DataW H)} {j : Nat}
    (hsz : (DataW.weightsEach P ts ds).all (· ≤ reachBytes) = true) (htj : ts[j]? = some t) (hdj : ds[j]? = some d)
    (hu : P.underlying t = some (.slice e)) (he : P.underlying e = some (.struct #[f0, f1, f2])) (ce : P.cellsOf e = 3) (o0 : f0.offset = 0) (o1 : f1.offset = 1) (o2 : f2.offset = 2) (k0 : P.cellsOf f0.type = 1) (k1 : P.cellsOf f1.type = 1) (k2 : P.cellsOf f2.type = 1)
    (h0 : P.underlying f0.type = some (.int .i64)) (h1 : P.underlying f1.type = some (.int .i64)) (h2 : P.underlying f2.type = some (.int .i64)) (be : 0 < P.bytesOf e)
    (h : DataW.Trod enc P W base spare held t (.slice a len cap) d ps) : ∃ ls : List Tri, len = ls.length ∧ TriAt W a ls ∧ (∀ t ∈ ls, (Lit.int .i64 t.1).wf = true ∧ (Lit.int .i64 t.2.1).wf = true ∧ (Lit.int .i64 t.2.2).wf = true) ∧ (a = none → cap = 0) ∧ ls.length ≤ 140737488351232 := by
  obtain ⟨fuel, hf⟩ := h
  rcases open_slice hu hf with ⟨hcs, _⟩ | ⟨x, l, c, m, n, D, Pl, hcs, _, hl, _, hm, hx, hi⟩
  · simp [Value.cells] at hcs
    obtain ⟨rfl, rfl, rfl⟩ := hcs
    exact ⟨[], rfl, (fun i hi => by simp at hi), (fun t ht => by cases ht), fun _ => rfl, by simp⟩
  · simp [Value.cells] at hcs
    obtain ⟨rfl, rfl, rfl⟩ := hcs
    obtain ⟨hd, _⟩ := Prod.mk.inj hx
    have hlm : len ≤ m := by rw [hm]; split <;> omega
    have each : ∀ i, i < len → ∃ p : Tri, W.cell? (x.add (i * 3)) = some (.int .i64 p.1) ∧ W.cell? (x.add (i * 3 + 1)) = some (.int .i64 p.2.1) ∧ W.cell? (x.add (i * 3 + 2)) = some (.int .i64 p.2.2) ∧ (Lit.int .i64 p.1).wf = true ∧ (Lit.int .i64 p.2.1).wf = true ∧ (Lit.int .i64 p.2.2).wf = true := by
      intro i hil
      obtain ⟨cs, g1, g2⟩ := hi i (by omega)
      rw [ce] at g1
      obtain ⟨_, hlen, hcell⟩ := World.cells?_some g1
      match cs, hlen with
      | [v0, v1, v2], _ =>
        have e0 := hcell 0 (by omega)
        have e1 := hcell 1 (by omega)
        have e2 := hcell 2 (by omega)
        rw [add_add] at e0 e1 e2
        obtain ⟨z0, z1, z2, rfl, rfl, rfl, w0, w1, w2⟩ := trod_struct3i he o0 o1 o2 k0 k1 k2 h0 h1 h2 g2
        exact ⟨(z0, z1, z2), by simpa using e0, by simpa using e1, by simpa using e2, w0, w1, w2⟩
    let f : (i : Nat) → Tri := fun i => if hil : i < len then (each i hil).choose else zeroTri
    have hbd := sized_slice hsz htj (hdj.trans (congrArg some hd)) hu
    rw [List.length_map, List.length_range] at hbd
    have hle : len ≤ 140737488351232 := by
      have h1 : len * 1 ≤ (len + ((List.range (m - len)).map fun j => D (len + j)).length) * P.bytesOf e := Nat.mul_le_mul (Nat.le_add_right _ _) be
      unfold reachBytes at hbd
      omega
    have hsp : ∀ i (h : i < len), f i = (each i h).choose := fun i h => dif_pos h
    refine ⟨(List.range len).map f, by simp, fun i hi => ?_, fun t ht => ?_, (fun h => by cases h), by simpa using hle⟩
    · simp only [List.length_map, List.length_range] at hi
      have e : ((List.range len).map f).getD i zeroTri = (each i hi).choose := by
        rw [List.getD_eq_getElem?_getD, List.getElem?_map, List.getElem?_range hi]
        exact hsp i hi
      rw [e]
      obtain ⟨c0, c1, c2, _⟩ := (each i hi).choose_spec
      refine ⟨x, rfl, c0, ?_, ?_⟩
      · rw [← add_flat _ _ _ (by decide)]
        exact c1
      · rw [← add_flat _ _ _ (by decide)]
        exact c2
    · obtain ⟨i, hi, rfl⟩ := List.mem_map.1 ht
      have hi' := List.mem_range.1 hi
      rw [hsp i hi']
      obtain ⟨_, _, _, w0, w1, w2⟩ := (each i hi').choose_spec
      exact ⟨w0, w1, w2⟩
end Go.Vk
/- A slice of truth values that came in, opened. Over any program. -/
namespace Go.Vk
open Go.ChangeShapes Go.WideShapes Go.RowKit Go.Deep
/-- Truth values that are read. -/
def BoolsAt (w : World) (X : Option Addr) (us : List Bool) : Prop := ∀ i, i < us.length → ∃ x, X = some x ∧ w.cell? (x.add i) = some (.bool (us.getD i false))
theorem open_bools {H : Type} {enc : TypeId × Value → H} {P : Program} {W : World} {base : Nat} {spare : Nat → Bool} {held : Bool} {t e : TypeId} {a : Option Addr} {len cap : Nat} {d : DataW H} {ps : List MemPlace} {ts : List TypeId} {ds : List (DataW H)} {j : Nat}
    (hsz : (DataW.weightsEach P ts ds).all (· ≤ reachBytes) = true) (htj : ts[j]? = some t) (hdj : ds[j]? = some d)
    (hu : P.underlying t = some (.slice e)) (he : P.underlying e = some .bool) (ce : P.cellsOf e = 1) (be : 0 < P.bytesOf e)
    (h : DataW.Trod enc P W base spare held t (.slice a len cap) d ps) : ∃ us : List Bool, len = us.length ∧ BoolsAt W a us ∧ (a = none → cap = 0) ∧ us.length ≤ 140737488351232 := by
  obtain ⟨fuel, hf⟩ := h
  rcases open_slice hu hf with ⟨hcs, _⟩ | ⟨x, l, c, m, n, D, Pl, hcs, _, hl, _, hm, hx, hi⟩
  · simp [Value.cells] at hcs
    obtain ⟨rfl, rfl, rfl⟩ := hcs
    exact ⟨[], rfl, (fun i hi => by simp at hi), fun _ => rfl, by simp⟩
  · simp [Value.cells] at hcs
    obtain ⟨rfl, rfl, rfl⟩ := hcs
    obtain ⟨hd, _⟩ := Prod.mk.inj hx
    have hlm : len ≤ m := by rw [hm]; split <;> omega
    have each : ∀ i, i < len → ∃ b : Bool, W.cell? (x.add i) = some (.bool b) := by
      intro i hil
      obtain ⟨cs, g1, g2⟩ := hi i (by omega)
      rw [ce] at g1
      obtain ⟨_, hlen, hcell⟩ := World.cells?_some g1
      match cs, hlen with
      | [v0], _ =>
        have e0 := hcell 0 (by omega)
        rw [add_add] at e0
        obtain ⟨b, hb, _⟩ := DataW.trod_bool he g2
        simp only [List.cons.injEq, and_true] at hb
        subst hb
        exact ⟨b, by simpa using e0⟩
    let f : (i : Nat) → Bool := fun i => if hil : i < len then (each i hil).choose else false
    have hbd := sized_slice hsz htj (hdj.trans (congrArg some hd)) hu
    rw [List.length_map, List.length_range] at hbd
    have hle : len ≤ 140737488351232 := by
      have h1 : len * 1 ≤ (len + ((List.range (m - len)).map fun j => D (len + j)).length) * P.bytesOf e := Nat.mul_le_mul (Nat.le_add_right _ _) be
      unfold reachBytes at hbd
      omega
    refine ⟨(List.range len).map f, by simp, fun i hi => ?_, (fun h => by cases h), by simpa using hle⟩
    simp only [List.length_map, List.length_range] at hi
    have e : ((List.range len).map f).getD i false = (each i hi).choose := by
      rw [List.getD_eq_getElem?_getD, List.getElem?_map, List.getElem?_range hi]
      exact dif_pos hi
    rw [e]
    exact ⟨x, rfl, (each i hi).choose_spec⟩
end Go.Vk
/- A region that draws its order, inside a round or outside, by what holds of the operations that are done: each operation is looked at once, whatever order is drawn. Over any program. -/
namespace Go.Vk
open Go.Sort Go.RowKit
/-- Slots and worlds while a region's operations are done one by one. -/
structure Jt (l : List Oper) (vals : Nat → Value) (a0 : Act) (listed : Array Bool) (a : Act) : Prop where
  size : a.tmps.size = a0.tmps.size
  defers : a.defers = a0.defers
  done : ∀ (j : Nat) (o : Oper) (d : Tmp), l[j]? = some o → listed.getD j true = true → j < listed.size → o.dst = some d → a.eval (.tmp d) = vals j
  rest : ∀ (d : Tmp), (∀ (j : Nat) (o : Oper), l[j]? = some o → o.dst ≠ some d) → a.eval (.tmp d) = a0.eval (.tmp d)
  clos : ∀ (j : Nat) (o : Oper), l[j]? = some o → listed.getD j true = true → ∀ e ∈ o.after, Region.binds .any e = true → listed.getD e.on false = true
theorem getD_setIf {listed : Array Bool} {i j : Nat} (h : (listed.setIfInBounds i true).getD j true = true) (hne : i ≠ j) : listed.getD j true = true := by
  rwa [getD_set_ne true hne] at h
theorem getD_set_more {listed : Array Bool} {i j : Nat} (h : listed.getD j false = true) : (listed.setIfInBounds i true).getD j false = true := by
  by_cases hj : j < listed.size
  · by_cases e : i = j
    · subst e
      simp [hj]
    · simp [hj, e] at h ⊢
      exact h
  · simp [hj] at h
theorem jt_start (l : List Oper) (vals : Nat → Value) (a0 : Act) (n : Nat) (hn : l.length ≤ n) : Jt l vals a0 (Array.replicate n false) a0 := ⟨rfl, rfl, fun j o d _ h hj _ => by
  simp at hj
  simp [hj] at h, fun _ _ => rfl, fun j o hj h => by
  have hjl := (List.getElem?_eq_some_iff.1 hj).1
  rw [Array.getD_eq_getD_getElem?, Array.getElem?_replicate, if_pos (by omega)] at h
  cases h⟩
theorem jt_step {l : List Oper} {vals : Nat → Value} {a0 : Act} {listed : Array Bool} {a : Act} {i : Nat} {o : Oper} (h : Jt l vals a0 listed a) (ho : l[i]? = some o) (hd : ∀ (j : Nat) (o' : Oper) (d : Tmp), l[j]? = some o' → o.dst = some d → o'.dst = some d → j = i) (hlt : ∀ d, o.dst = some d → d < a0.tmps.size) (hdep : ∀ e ∈ o.after, Region.binds .any e = true → listed.getD e.on false = true) :
    Jt l vals a0 (listed.setIfInBounds i true) (a.put o.dst (vals i)) := by
  refine ⟨?_, ?_, fun j o' d hj hl hjs hod => ?_, fun d hdn => ?_, fun j o' hj hl e he hb => ?_⟩
  · rw [← h.size]
    cases o.dst with
    | none => rfl
    | some d => simp [Act.put]
  · rw [← h.defers]
    cases o.dst <;> rfl
  · by_cases e : j = i
    · subst e
      have : o' = o := by rw [ho] at hj; exact (Option.some.inj hj).symm
      subst this
      rw [hod]
      have := hlt d hod
      rw [← h.size] at this
      simp [Act.put, Act.eval, this]
    · rw [Act.eval_put fun d' hd' he => ?_]
      · exact h.done j o' d hj (getD_setIf hl (fun e' => e e'.symm)) (by simpa using hjs) hod
      · cases he
        exact e (hd j o' d hj hd' hod)
  · rw [Act.eval_put fun d' hd' he => ?_]
    · exact h.rest d hdn
    · cases he
      exact hdn i o ho hd'
  · refine getD_set_more ?_
    by_cases e' : j = i
    · subst e'
      have : o' = o := by rw [ho] at hj; exact (Option.some.inj hj).symm
      subst this
      exact hdep e he hb
    · exact h.clos j o' hj (getD_setIf hl (fun h => e' h.symm)) e he hb
theorem listed_all {listed : Array Bool} {l : List Oper} (_hs : listed.size = l.length) (hr : ∀ i, i < l.length → listed.getD i true = true) : Region.ready .any l.toArray listed = [] := by
  refine List.eq_nil_iff_forall_not_mem.2 fun j hj => ?_
  obtain ⟨h1, o, ho, _⟩ := mem_ready.1 hj
  have hjl : j < l.length := by
    have := (Array.getElem?_eq_some_iff.1 ho).1
    simpa using this
  rw [hr j hjl] at h1
  cases h1
/-- How many are still to be done. -/
def left (listed : Array Bool) : Nat := (listed.toList.filter fun b => !b).length
theorem left_set {listed : Array Bool} {i : Nat} (h : listed.getD i true = false) : left listed = left (listed.setIfInBounds i true) + 1 := by
  have hi : i < listed.size := by
    refine Nat.lt_of_not_le fun hle => ?_
    simp [Array.getD_eq_getD_getElem?, Array.getElem?_eq_none hle] at h
  have hg : listed.toList[i]? = some false := by
    have : listed[i]'hi = false := by simpa [hi] using h
    simp [hi, this]
  obtain ⟨p, q, hpq, hp⟩ : ∃ p q, listed.toList = p ++ false :: q ∧ p.length = i := by
    refine ⟨listed.toList.take i, listed.toList.drop (i + 1), ?_, by simp; omega⟩
    have hi' : i < listed.toList.length := by simpa using hi
    have e := (List.take_append_drop i listed.toList).symm
    rw [List.drop_eq_getElem_cons hi'] at e
    have e2 : listed.toList[i] = false := by
      have := List.getElem?_eq_getElem hi'
      rw [hg] at this
      exact (Option.some.inj this).symm
    rw [e2] at e
    exact e
  unfold left
  rw [Array.toList_setIfInBounds, hpq, ← hp]
  simp
  omega
/-- The law: J holds at the start; each operation that may come up keeps it; all done, the post holds. -/
theorem wpAnyIn_inv {F : Fence} {n : Nat} {P : Program} {l : List Oper} {Q : Exit → Act → World → Prop} (J : Array Bool → Act → World → Prop) (hg : ∀ o ∈ l, o.guard = none)
    (hstep : ∀ i o, l[i]? = some o → ∀ (listed : Array Bool) a w, listed.size = l.length → J listed a w → listed.getD i true = false → (∀ e ∈ o.after, Region.binds .any e = true → listed.getD e.on false = true) → o.wpIn F n P a w (fun a' w' => J (listed.setIfInBounds i true) a' w') Q)
    (hend : ∀ (listed : Array Bool) a w, listed.size = l.length → J listed a w → (∀ i, i < l.length → listed.getD i true = true) → Q .normal a w) (hsome : ∀ (listed : Array Bool), listed.size = l.length → Region.ready .any l.toArray listed = [] → ∀ i, i < l.length → listed.getD i true = true) :
    ∀ (fuel : Nat) (listed : Array Bool) a w, listed.size = l.length → left listed ≤ fuel → J listed a w → wpAnyIn F n P .any l.toArray Q fuel listed a w
  | 0, listed, a, w, hs, hl, hJ => by
    have hall : ∀ i, i < l.length → listed.getD i true = true := fun i hi => by
      cases h : listed.getD i true with
      | true => rfl
      | false => have := left_set h; omega
    exact ⟨listed_all hs hall, hend listed a w hs hJ hall⟩
  | fuel + 1, listed, a, w, hs, hl, hJ => by
    refine ⟨fun h => hend listed a w hs hJ (hsome listed hs h), fun i hi => ?_⟩
    obtain ⟨h1, o, ho, h2⟩ := mem_ready.1 hi
    have hol : l[i]? = some o := by simpa using ho
    have hgo := hg o (List.mem_of_getElem? hol)
    unfold wpOpIn
    rw [ho]
    have hw : Region.wanted o (yielded l.toArray a.tmps) = true := by simp [Region.wanted, hgo]
    simp only [hw, if_true]
    refine Oper.wpIn_mono (fun a' w' hJ' => ?_) (hstep i o hol listed a w hs hJ h1 h2)
    exact wpAnyIn_inv J hg hstep hend hsome fuel _ a' w' (by simpa using hs) (by have := left_set h1; omega) hJ'
theorem left_start (n : Nat) : left (Array.replicate n false) = n := by
  unfold left
  simp
theorem wpIn_region_inv {F : Fence} {n : Nat} {P : Program} {id : Nat} {l : List Oper} {Q : Exit → Act → World → Prop} {a : Act} {w : World} (J : Array Bool → Act → World → Prop) (hm : P.follows .mixedOrders = true) (hg : ∀ o ∈ l, o.guard = none)
    (hsome : ∀ (listed : Array Bool), listed.size = l.length → Region.ready .any l.toArray listed = [] → ∀ i, i < l.length → listed.getD i true = true)
    (h0 : J (Array.replicate l.length false) a w.drew)
    (hstep : ∀ i o, l[i]? = some o → ∀ (listed : Array Bool) a w, listed.size = l.length → J listed a w → listed.getD i true = false → (∀ e ∈ o.after, Region.binds .any e = true → listed.getD e.on false = true) → o.wpIn F n P a w (fun a' w' => J (listed.setIfInBounds i true) a' w') Q)
    (hend : ∀ (listed : Array Bool) a w, listed.size = l.length → J listed a w → (∀ i, i < l.length → listed.getD i true = true) → Q .normal a w) : (Code.region id l.toArray true).wpIn F n P Q a w := by
  refine wpIn_region_any hm ?_
  have := wpAnyIn_inv (F := F) (n := n) (P := P) (Q := Q) J hg hstep hend hsome l.length (Array.replicate l.length false) a w.drew (by simp) (by rw [left_start]; exact Nat.le_refl _) h0
  simpa using this
/-- Where each operation waits for earlier ones alone, some one may come up while one is left. -/
theorem some_ready {l : List Oper} (hb : (List.range l.length).all (fun i => match l[i]? with | some o => o.after.all (fun e => !Region.binds .any e || decide (e.on < i)) | none => true) = true) (listed : Array Bool) (hs : listed.size = l.length) (hr : Region.ready .any l.toArray listed = []) : ∀ i, i < l.length → listed.getD i true = true := by
  intro i
  induction i using Nat.strongRecOn with
  | ind i ih =>
    intro hi
    cases h : listed.getD i true with
    | true => rfl
    | false =>
      exfalso
      have hmem : i ∈ Region.ready .any l.toArray listed := by
        refine mem_ready.2 ⟨h, l[i], by simp [hi], fun e he hbe => ?_⟩
        have h1 := List.all_eq_true.1 hb i (List.mem_range.2 hi)
        rw [List.getElem?_eq_getElem hi] at h1
        have h2 := Array.all_eq_true'.1 h1 e he
        have h3 : e.on < i := by rw [hbe] at h2; simpa using h2
        have h4 := ih e.on h3 (by omega)
        have h5 : e.on < listed.size := by omega
        simp [h5] at h4 ⊢
        exact h4
      rw [hr] at hmem
      cases hmem
/-- An operation that runs to a value, in a round or not. -/
theorem wpIn_oper_value {F : Fence} {n : Nat} {P : Program} {o : Oper} {a : Act} {w w' : World} {v : Value} {K : Act → World → Prop} {Q : Exit → Act → World → Prop} (hd : noDefer o = true) (hab : o.about P w a.eval = none)
    (hr : (execOp a.eval o).run P w = .ok (.value v) w') (hK : K (a.put o.dst v) w') : o.wpIn F n P a w K Q := by
  unfold Oper.wpIn
  refine ⟨(fun f hf => by rw [hab] at hf; cases hf), ?_⟩
  rw [Oper.semAt_eq _ _ _ (noDefer_ne hd), hr]
  exact hK
/-- An operation's run: what it yields, and the world behind it. -/
def Yld (P : Program) (ρ : Operand → Value) (o : Oper) (w : World) (v : Value) (w' : World) : Prop :=
  o.about P w ρ = none ∧ ((execOp ρ o).run P w = .ok (.value v) w' ∨ (execOp ρ o).run P w = .ok .skip w' ∧ v = undef)
theorem wpIn_oper_yld {F : Fence} {n : Nat} {P : Program} {o : Oper} {a : Act} {w w' : World} {v : Value} {K : Act → World → Prop} {Q : Exit → Act → World → Prop} (hd : noDefer o = true) (hy : Yld P a.eval o w v w') (hK : K (a.put o.dst v) w') : o.wpIn F n P a w K Q := by
  unfold Oper.wpIn
  refine ⟨(fun f hf => by rw [hy.1] at hf; cases hf), ?_⟩
  rw [Oper.semAt_eq _ _ _ (noDefer_ne hd)]
  rcases hy.2 with h | ⟨h, rfl⟩
  · rw [h]; exact hK
  · rw [h]; exact hK
theorem getD_false_true {listed : Array Bool} {j : Nat} (h : listed.getD j false = true) : listed.getD j true = true ∧ j < listed.size := by
  by_cases hj : j < listed.size
  · simp [hj] at h ⊢
    exact h
  · simp [hj] at h
/-- The law for operations whose values are known ahead: what slots hold follows; the world goes its own way. -/
theorem wpIn_region_vals {F : Fence} {n : Nat} {P : Program} {id : Nat} {l : List Oper} {Q : Exit → Act → World → Prop} {a0 : Act} {w0 : World} (vals : Nat → Value) (Wd : Array Bool → World → Prop) (hm : P.follows .mixedOrders = true)
    (hg : (l.all fun o => o.guard.isNone && noDefer o) = true) (hb : (List.range l.length).all (fun i => match l[i]? with | some o => o.after.all (fun e => !Region.binds .any e || decide (e.on < i)) | none => true) = true)
    (hd : (List.range l.length).all (fun i => (List.range l.length).all fun j => i == j || (match l[i]?, l[j]? with | some o, some o' => (match o.dst, o'.dst with | some d, some d' => d != d' | _, _ => true) | _, _ => true)) = true)
    (hlt : (l.all fun o => match o.dst with | some d => decide (d < a0.tmps.size) | none => true) = true)
    (h0 : Wd (Array.replicate l.length false) w0.drew)
    (hstep : ∀ i o, l[i]? = some o → ∀ (listed : Array Bool) (ρ : Operand → Value) w, listed.size = l.length → (∀ e ∈ o.after, Region.binds .any e = true → ∀ (o' : Oper) (d : Tmp), l[e.on]? = some o' → o'.dst = some d → ρ (.tmp d) = vals e.on) → (∀ (d : Tmp), (∀ (j : Nat) (o : Oper), l[j]? = some o → o.dst ≠ some d) → ρ (.tmp d) = a0.eval (.tmp d)) → (∀ c, ρ (.const c) = c) →
      Wd listed w → listed.getD i true = false → (∀ e ∈ o.after, Region.binds .any e = true → listed.getD e.on false = true) → (∀ (j : Nat) (o : Oper), l[j]? = some o → listed.getD j true = true → ∀ e ∈ o.after, Region.binds .any e = true → listed.getD e.on false = true) → ∃ w', Yld P ρ o w (vals i) w' ∧ Wd (listed.setIfInBounds i true) w')
    (hend : ∀ (listed : Array Bool) a w, Jt l vals a0 listed a → Wd listed w → listed.size = l.length → (∀ i, i < l.length → listed.getD i true = true) → Q .normal a w) : (Code.region id l.toArray true).wpIn F n P Q a0 w0 := by
  have hgd : ∀ o ∈ l, o.guard = none ∧ noDefer o = true := fun o ho => by
    have := List.all_eq_true.1 hg o ho
    simpa using this
  refine wpIn_region_inv (fun listed a w => Jt l vals a0 listed a ∧ Wd listed w) hm (fun o ho => (hgd o ho).1) (some_ready hb) ⟨jt_start _ _ _ _ (Nat.le_refl _), h0⟩ (fun i o ho listed a w hs hJ hf hdep => ?_) (fun listed a w hs hJ hall => hend listed a w hJ.1 hJ.2 hs hall)
  obtain ⟨w', hy, hW⟩ := hstep i o ho listed a.eval w hs (fun e he hbi o' d h1 h2 => by
    have h3 := getD_false_true (hdep e he hbi)
    exact hJ.1.done e.on o' d h1 h3.1 h3.2 h2) (fun d hdn => hJ.1.rest d hdn) (fun c => rfl) hJ.2 hf hdep hJ.1.clos
  refine wpIn_oper_yld (hgd o (List.mem_of_getElem? ho)).2 hy ⟨jt_step hJ.1 ho (fun j o' d h1 h2 h3 => ?_) (fun d h1 => ?_) hdep, hW⟩
  · have hil : i < l.length := (List.getElem?_eq_some_iff.1 ho).1
    have hjl : j < l.length := (List.getElem?_eq_some_iff.1 h1).1
    have h4 := List.all_eq_true.1 (List.all_eq_true.1 hd j (List.mem_range.2 hjl)) i (List.mem_range.2 hil)
    rw [h1, ho] at h4
    simp only [h2, h3, bne_self_eq_false, Bool.or_false, beq_iff_eq] at h4
    exact h4
  · have h4 := List.all_eq_true.1 hlt o (List.mem_of_getElem? ho)
    rw [h1] at h4
    simpa using h4
theorem rest_of {l : List Oper} {d : Tmp} (h : (l.all fun o => o.dst != some d) = true) : ∀ (j : Nat) (o : Oper), l[j]? = some o → o.dst ≠ some d := fun j o hj => by
  have := List.all_eq_true.1 h o (List.mem_of_getElem? hj)
  simpa using this
/-- What is known of the slots that an operation looks at. -/
structure Rho (l : List Oper) (vals : Nat → Value) (a0 : Act) (o : Oper) (ρ : Operand → Value) : Prop where
  deps : ∀ e ∈ o.after, Region.binds .any e = true → ∀ (o' : Oper) (d : Tmp), l[e.on]? = some o' → o'.dst = some d → ρ (.tmp d) = vals e.on
  rest : ∀ (d : Tmp), (l.all fun o => o.dst != some d) = true → ρ (.tmp d) = a0.eval (.tmp d)
  const : ∀ c, ρ (.const c) = c
/-- Operations that only read, and a last one that waits for all others. -/
theorem wpIn_region_last {F : Fence} {n : Nat} {P : Program} {id : Nat} {l : List Oper} {Q : Exit → Act → World → Prop} {a0 : Act} {w0 wB : World} (vals : Nat → Value) (m : Nat) (hm : P.follows .mixedOrders = true)
    (hg : (l.all fun o => o.guard.isNone && noDefer o) = true) (hb : (List.range l.length).all (fun i => match l[i]? with | some o => o.after.all (fun e => !Region.binds .any e || decide (e.on < i)) | none => true) = true)
    (hd : (List.range l.length).all (fun i => (List.range l.length).all fun j => i == j || (match l[i]?, l[j]? with | some o, some o' => (match o.dst, o'.dst with | some d, some d' => d != d' | _, _ => true) | _, _ => true)) = true)
    (hlt : (l.all fun o => match o.dst with | some d => decide (d < a0.tmps.size) | none => true) = true) (hl : l.length = m + 1)
    (hw : (match l[m]? with | some o => (List.range m).all (fun j => o.after.any fun e => e.on == j && Region.binds .any e) | none => true) = true)
    (hq : ∀ i o, i < m → l[i]? = some o → ∀ ρ, Rho l vals a0 o ρ → Yld P ρ o w0.drew (vals i) w0.drew) (hlast : ∀ o, l[m]? = some o → ∀ ρ, Rho l vals a0 o ρ → Yld P ρ o w0.drew (vals m) wB)
    (hend : ∀ (listed : Array Bool) a, (∀ i, i < l.length → listed.getD i true = true ∧ i < listed.size) → Jt l vals a0 listed a → Q .normal a wB) : (Code.region id l.toArray true).wpIn F n P Q a0 w0 := by
  refine wpIn_region_vals vals (fun listed w => (listed.getD m true = false ∧ w = w0.drew) ∨ ((∀ i, i < l.length → listed.getD i true = true) ∧ w = wB)) hm hg hb hd hlt (.inl ⟨by simp [hl], rfl⟩) (fun i o ho listed ρ w hs h1 h2 h3 hW hf hdep hcl => ?_) (fun listed a w hJ hW hs hall => ?_)
  · have hil : i < l.length := (List.getElem?_eq_some_iff.1 ho).1
    have hr : Rho l vals a0 o ρ := ⟨h1, fun d hdn => h2 d (rest_of hdn), h3⟩
    rcases hW with ⟨hfm, rfl⟩ | ⟨hall, _⟩
    · by_cases e : i = m
      · subst e
        refine ⟨wB, hlast o ho ρ hr, .inr ⟨fun j hj => ?_, rfl⟩⟩
        by_cases ej : i = j
        · subst ej
          have : i < listed.size := by omega
          simp [this]
        · rw [getD_set_ne true ej]
          rw [ho] at hw
          have h4 := List.all_eq_true.1 hw j (List.mem_range.2 (by omega))
          obtain ⟨x, hx1, hx2⟩ := Array.any_eq_true'.1 h4
          simp only [Bool.and_eq_true, beq_iff_eq] at hx2
          have h5 := hdep x hx1 hx2.2
          rw [hx2.1] at h5
          exact (getD_false_true h5).1
      · refine ⟨w0.drew, hq i o (by omega) ho ρ hr, .inl ⟨?_, rfl⟩⟩
        rw [getD_set_ne true e]
        exact hfm
    · rw [hall i hil] at hf
      cases hf
  · rcases hW with ⟨hfm, _⟩ | ⟨_, rfl⟩
    · rw [hall m (by omega)] at hfm
      cases hfm
    · exact hend listed a (fun i hi => ⟨hall i hi, by omega⟩) hJ
/-- Operations that only read, and some that turn the world one behind the other, the last of which waits for all. -/
theorem wpIn_region_chain {F : Fence} {n : Nat} {P : Program} {id : Nat} {l : List Oper} {Q : Exit → Act → World → Prop} {a0 : Act} {w0 : World} (vals : Nat → Value) (ws : Nat → World) (E : List Nat) (K : Nat) (hm : P.follows .mixedOrders = true)
    (hg : (l.all fun o => o.guard.isNone && noDefer o) = true) (hb : (List.range l.length).all (fun i => match l[i]? with | some o => o.after.all (fun e => !Region.binds .any e || decide (e.on < i)) | none => true) = true)
    (hd : (List.range l.length).all (fun i => (List.range l.length).all fun j => i == j || (match l[i]?, l[j]? with | some o, some o' => (match o.dst, o'.dst with | some d, some d' => d != d' | _, _ => true) | _, _ => true)) = true)
    (hlt : (l.all fun o => match o.dst with | some d => decide (d < a0.tmps.size) | none => true) = true) (hE : E.length = K + 1)
    (hwait : (match l[E.getD K 0]? with | some o => (List.range l.length).all (fun j => j == E.getD K 0 || o.after.any fun e => Region.binds .any e && (e.on == j || (match l[e.on]? with | some o' => o'.after.any (fun e' => e'.on == j && Region.binds .any e') | none => false))) | none => false) = true)
    (hchain : (List.range K).all (fun j => match l[E.getD (j + 1) 0]? with | some o => o.after.any (fun e => e.on == E.getD j 0 && Region.binds .any e) | none => false) = true)
    (hinj : (List.range (K + 1)).all (fun j => (List.range (K + 1)).all fun j' => j == j' || E.getD j 0 != E.getD j' 0) = true) (hEl : (List.range (K + 1)).all (fun j => decide (E.getD j 0 < l.length)) = true)
    (h0 : ws 0 = w0.drew)
    (hq : ∀ i o, (∀ j, j < K + 1 → E.getD j 0 ≠ i) → l[i]? = some o → ∀ k, k ≤ K → ∀ ρ, Rho l vals a0 o ρ → Yld P ρ o (ws k) (vals i) (ws k)) (he : ∀ j o, j ≤ K → l[E.getD j 0]? = some o → ∀ ρ, Rho l vals a0 o ρ → Yld P ρ o (ws j) (vals (E.getD j 0)) (ws (j + 1)))
    (hend : ∀ (listed : Array Bool) a, (∀ i, i < l.length → listed.getD i true = true ∧ i < listed.size) → Jt l vals a0 listed a → Q .normal a (ws (K + 1))) : (Code.region id l.toArray true).wpIn F n P Q a0 w0 := by
  have hEl' : ∀ j, j < K + 1 → E.getD j 0 < l.length := fun j hj => by simpa using List.all_eq_true.1 hEl j (List.mem_range.2 hj)
  have hinj' : ∀ j j', j < K + 1 → j' < K + 1 → E.getD j 0 = E.getD j' 0 → j = j' := fun j j' hj hj' e => by
    have := List.all_eq_true.1 (List.all_eq_true.1 hinj j (List.mem_range.2 hj)) j' (List.mem_range.2 hj')
    rw [e] at this
    simpa using this
  refine wpIn_region_vals vals (fun listed w => ∃ k, k ≤ K + 1 ∧ w = ws k ∧ (∀ j, j < K + 1 → (listed.getD (E.getD j 0) true = true ↔ j < k)) ∧ (k = K + 1 → ∀ i, i < l.length → listed.getD i true = true)) hm hg hb hd hlt ⟨0, by omega, h0.symm, fun j hj => ?_, fun h => by omega⟩ (fun i o ho listed ρ w hs h1 h2 h3 hW hf hdep hcl => ?_) (fun listed a w hJ hW hs hall => ?_)
  · have := hEl' j hj
    have e : (Array.replicate l.length false).getD (E.getD j 0) true = false := by
      rw [Array.getD_eq_getD_getElem?, Array.getElem?_replicate, if_pos this]
      rfl
    rw [e]
    exact ⟨(fun h => by cases h), (fun h => by omega)⟩
  · have hil : i < l.length := (List.getElem?_eq_some_iff.1 ho).1
    have hr : Rho l vals a0 o ρ := ⟨h1, fun d hdn => h2 d (rest_of hdn), h3⟩
    obtain ⟨k, hk, rfl, hiff, hfull⟩ := hW
    have hkK : k ≤ K := by
      refine Nat.le_of_not_lt fun hlt' => ?_
      rw [hfull (by omega) i hil] at hf
      cases hf
    by_cases hin : ∃ j, j < K + 1 ∧ E.getD j 0 = i
    · obtain ⟨j, hj, rfl⟩ := hin
      have hjk : j = k := by
        have h4 : ¬ j < k := fun h => by rw [(hiff j hj).2 h] at hf; cases hf
        rcases Nat.lt_or_ge k j with h5 | h5
        · exfalso
          obtain ⟨j', rfl⟩ : ∃ j', j = j' + 1 := ⟨j - 1, by omega⟩
          have h6 := List.all_eq_true.1 hchain j' (List.mem_range.2 (by omega))
          rw [ho] at h6
          obtain ⟨x, hx1, hx2⟩ := Array.any_eq_true'.1 h6
          simp only [Bool.and_eq_true, beq_iff_eq] at hx2
          have h7 := hdep x hx1 hx2.2
          rw [hx2.1] at h7
          have h8 := (hiff j' (by omega)).1 (getD_false_true h7).1
          omega
        · omega
      subst hjk
      refine ⟨ws (j + 1), he j o (by omega) ho ρ hr, j + 1, by omega, rfl, fun j' hj' => ?_, fun hK => ?_⟩
      · by_cases e : j' = j
        · subst e
          have : E.getD j' 0 < listed.size := by rw [hs]; exact hEl' j' hj'
          simp
        · rw [getD_set_ne true (fun h => e (hinj' j' j hj' hj h.symm)), hiff j' hj']
          omega
      · have hjK : j = K := by omega
        subst hjK
        intro i' hi'
        rw [ho] at hwait
        have h4 := List.all_eq_true.1 hwait i' (List.mem_range.2 hi')
        by_cases e : E.getD j 0 = i'
        · rw [← e]
          have : E.getD j 0 < listed.size := by rw [hs]; exact hEl' j hj
          simp
        · rw [getD_set_ne true e]
          have h5 : (o.after.any fun e => Region.binds .any e && (e.on == i' || (match l[e.on]? with | some o' => o'.after.any (fun e' => e'.on == i' && Region.binds .any e') | none => false))) = true := by
            rcases Bool.or_eq_true_iff.1 h4 with h | h
            · exact absurd (by simpa using h : i' = E.getD j 0).symm e
            · exact h
          obtain ⟨x, hx1, hx2⟩ := Array.any_eq_true'.1 h5
          obtain ⟨hx3, hx4⟩ := Bool.and_eq_true_iff.1 hx2
          have h6 := hdep x hx1 hx3
          rcases Bool.or_eq_true_iff.1 hx4 with h7 | h7
          · have e2 : x.on = i' := by simpa using h7
            rw [e2] at h6
            exact (getD_false_true h6).1
          · cases ho2 : l[x.on]? with
            | none => rw [ho2] at h7; cases h7
            | some o2 =>
              rw [ho2] at h7
              obtain ⟨y, hy1, hy2⟩ := Array.any_eq_true'.1 h7
              simp only [Bool.and_eq_true, beq_iff_eq] at hy2
              have h8 := hcl x.on o2 ho2 (getD_false_true h6).1 y hy1 hy2.2
              rw [hy2.1] at h8
              exact (getD_false_true h8).1
    · refine ⟨ws k, hq i o (fun j hj e => hin ⟨j, hj, e⟩) ho k hkK ρ hr, k, hk, rfl, fun j hj => ?_, fun h => by omega⟩
      rw [getD_set_ne true (fun e => hin ⟨j, hj, e.symm⟩)]
      exact hiff j hj
  · obtain ⟨k, hk, rfl, hiff, _⟩ := hW
    have hkK : k = K + 1 := by
      have := (hiff K (by omega)).1 (hall _ (hEl' K (by omega)))
      omega
    subst hkK
    exact hend listed a (fun i hi => ⟨hall i hi, by omega⟩) hJ
end Go.Vk
/- A region that draws its order, with calls that make memory and ONE ALLOCATION that may come anywhere, and a last operation that waits for all. Over any program. -/
namespace Go.Vk
open Go.Sort Go.RowKit
theorem jt_change {l : List Oper} {vals vals' : Nat → Value} {a0 : Act} {listed : Array Bool} {a : Act} (h : Jt l vals a0 listed a) (he : ∀ j, listed.getD j true = true → j < listed.size → vals j = vals' j) : Jt l vals' a0 listed a :=
  ⟨h.size, h.defers, fun j o d h1 h2 h3 h4 => (h.done j o d h1 h2 h3 h4).trans (he j h2 h3), h.rest, h.clos⟩
/-- What one operation may be: a reading, or a call that leaves what lay there. -/
def YldB (P : Program) (ρ : Operand → Value) (o : Oper) (W : World) (v : Value) : Prop :=
  Yld P ρ o W v W ∨ ∃ f args, (execOp ρ o).run P W = .ok (.enter f args) W ∧ Calls P f args W fun e W' => e = .returned v ∧ Below W.heap.size W W'
/-- The slots' values, with the new block's place. -/
def valsZ (vals : Nat → Value) (q Z : Nat) (j : Nat) : Value := if j = q then .pointer (some ⟨Z, 0, none⟩) else vals j
theorem wpIn_region_made {n : Nat} {P : Program} {id : Nat} {l : List Oper} {Q : Exit → Act → World → Prop} {a0 : Act} {w0 : World} (vals : Nat → Value) (q m : Nat) (z : Obj) (Wend : Nat → World → Prop) (hm : P.follows .mixedOrders = true)
    (hg : (l.all fun o => o.guard.isNone && noDefer o) = true) (hb : (List.range l.length).all (fun i => match l[i]? with | some o => o.after.all (fun e => !Region.binds .any e || decide (e.on < i)) | none => true) = true)
    (hd : (List.range l.length).all (fun i => (List.range l.length).all fun j => i == j || (match l[i]?, l[j]? with | some o, some o' => (match o.dst, o'.dst with | some d, some d' => d != d' | _, _ => true) | _, _ => true)) = true)
    (hlt : (l.all fun o => match o.dst with | some d => decide (d < a0.tmps.size) | none => true) = true) (hl : l.length = m + 1) (hqm : q < m)
    (hw : (match l[m]? with | some o => (List.range m).all (fun j => o.after.any fun e => e.on == j && Region.binds .any e) | none => true) = true)
    (hq : ∀ i o, i < m → i ≠ q → l[i]? = some o → ∀ Z ρ, Rho l (valsZ vals q Z) a0 o ρ → (∀ f, ρ (.func f) = .func (.func f) #[] #[]) → ∀ W, Below w0.heap.size w0 W → YldB P ρ o W (vals i))
    (hnew : ∀ o, l[q]? = some o → ∀ ρ (W : World), o.about P W ρ = none ∧ (execOp ρ o).run P W = .ok (.value (.pointer (some ⟨W.heap.size, 0, none⟩))) (W.alloc z))
    (hlast : ∀ o, l[m]? = some o → ∀ Z ρ, Rho l (valsZ vals q Z) a0 o ρ → ∀ W, Below w0.heap.size w0 W → w0.heap.size ≤ Z → Z < W.heap.size → W.heap[Z]? = some z → ∃ W', Yld P ρ o W (vals m) W' ∧ Wend Z W')
    (hend : ∀ (listed : Array Bool) a Z W, (∀ i, i < l.length → listed.getD i true = true ∧ i < listed.size) → Jt l (valsZ vals q Z) a0 listed a → Wend Z W → Q .normal a W) : (Code.region id l.toArray true).wpIn Fence.wide n P Q a0 w0 := by
  have hgd : ∀ o ∈ l, o.guard = none ∧ noDefer o = true := fun o ho => by
    have := List.all_eq_true.1 hg o ho
    simpa using this
  have hst : ∀ {i : Nat} {o : Oper} {listed : Array Bool} {a : Act} {v : Nat → Value}, l[i]? = some o → Jt l v a0 listed a → (∀ e ∈ o.after, Region.binds .any e = true → listed.getD e.on false = true) → Jt l v a0 (listed.setIfInBounds i true) (a.put o.dst (v i)) := fun {i o listed a v} ho hJ hdep => by
    refine jt_step hJ ho (fun j o' d h1 h2 h3 => ?_) (fun d h1 => ?_) hdep
    · have hil : i < l.length := (List.getElem?_eq_some_iff.1 ho).1
      have hjl : j < l.length := (List.getElem?_eq_some_iff.1 h1).1
      have h4 := List.all_eq_true.1 (List.all_eq_true.1 hd j (List.mem_range.2 hjl)) i (List.mem_range.2 hil)
      rw [h1, ho] at h4
      simp only [h2, h3, bne_self_eq_false, Bool.or_false, beq_iff_eq] at h4
      exact h4
    · have h4 := List.all_eq_true.1 hlt o (List.mem_of_getElem? ho)
      rw [h1] at h4
      simpa using h4
  refine wpIn_region_inv (fun listed a W => ∃ Z, Jt l (valsZ vals q Z) a0 listed a ∧ ((listed.getD m true = false ∧ Below w0.heap.size w0 W ∧ (listed.getD q false = true → W.heap[Z]? = some z ∧ w0.heap.size ≤ Z ∧ Z < W.heap.size)) ∨ ((∀ i, i < l.length → listed.getD i true = true) ∧ Wend Z W))) hm (fun o ho => (hgd o ho).1) (some_ready hb) ⟨0, jt_start _ _ _ _ (Nat.le_refl _), .inl ⟨by simp [hl], (Below.refl _ _).drew, fun h => ?_⟩⟩ (fun i o ho listed a W hs hJ hf hdep => ?_) (fun listed a W hs hJ hall => ?_)
  · rw [Array.getD_eq_getD_getElem?, Array.getElem?_replicate, if_pos (by omega)] at h
    cases h
  · obtain ⟨Z, hj, hW⟩ := hJ
    have hil : i < l.length := (List.getElem?_eq_some_iff.1 ho).1
    have hr : Rho l (valsZ vals q Z) a0 o a.eval := ⟨fun e he hbi o' d h1 h2 => by
      have h3 := getD_false_true (hdep e he hbi)
      exact hj.done e.on o' d h1 h3.1 h3.2 h2, fun d hdn => hj.rest d (rest_of hdn), fun c => rfl⟩
    rcases hW with ⟨hfm, hB, hZ⟩ | ⟨hall, _⟩
    · by_cases e : i = m
      · subst e
        rw [ho] at hw
        have hlj : ∀ j, j < i → listed.getD j false = true := fun j hji => by
          have h4 := List.all_eq_true.1 hw j (List.mem_range.2 hji)
          obtain ⟨x, hx1, hx2⟩ := Array.any_eq_true'.1 h4
          simp only [Bool.and_eq_true, beq_iff_eq] at hx2
          have h5 := hdep x hx1 hx2.2
          rw [hx2.1] at h5
          exact h5
        obtain ⟨h1, h2, h3⟩ := hZ (hlj q hqm)
        obtain ⟨W', hy, hWe⟩ := hlast o ho Z a.eval hr W hB h2 h3 h1
        have hv : valsZ vals q Z i = vals i := by unfold valsZ; rw [if_neg (by omega)]
        refine wpIn_oper_yld (hgd o (List.mem_of_getElem? ho)).2 hy ⟨Z, ?_, .inr ⟨fun j hjl => ?_, hWe⟩⟩
        · rw [← hv]
          exact hst ho hj hdep
        · by_cases ej : i = j
          · subst ej
            have : i < listed.size := by omega
            simp [this]
          · rw [getD_set_ne true ej]
            exact (getD_false_true (hlj j (by omega))).1
      · by_cases eq : i = q
        · subst eq
          have h1 := hnew o ho a.eval W
          refine wpIn_oper_yld (v := valsZ vals i W.heap.size i) (hgd o (List.mem_of_getElem? ho)).2 ⟨h1.1, .inl (by rw [h1.2]; unfold valsZ; rw [if_pos rfl])⟩ ⟨W.heap.size, ?_, .inl ⟨?_, hB.alloc hB.size _, fun _ => ⟨heap_alloc_new _ _, hB.size, by simp⟩⟩⟩
          · refine hst ho (jt_change hj fun j h2 _ => ?_) hdep
            have : j ≠ i := fun e => by rw [e, hf] at h2; cases h2
            unfold valsZ
            rw [if_neg this, if_neg this]
          · rw [getD_set_ne true e]
            exact hfm
        · have hv : valsZ vals q Z i = vals i := by unfold valsZ; rw [if_neg eq]
          have hnext : ∀ W', Below W.heap.size W W' → ∃ Z, Jt l (valsZ vals q Z) a0 (listed.setIfInBounds i true) (a.put o.dst (vals i)) ∧ (((listed.setIfInBounds i true).getD m true = false ∧ Below w0.heap.size w0 W' ∧ ((listed.setIfInBounds i true).getD q false = true → W'.heap[Z]? = some z ∧ w0.heap.size ≤ Z ∧ Z < W'.heap.size)) ∨ ((∀ j, j < l.length → (listed.setIfInBounds i true).getD j true = true) ∧ Wend Z W')) := fun W' hB' => by
            refine ⟨Z, ?_, .inl ⟨?_, hB.trans (hB'.mono hB.size), fun h => ?_⟩⟩
            · rw [← hv]
              exact hst ho hj hdep
            · rw [getD_set_ne true e]
              exact hfm
            · rw [getD_set_ne false eq] at h
              obtain ⟨h1, h2, h3⟩ := hZ h
              exact ⟨(hB'.block Z h3).trans h1, h2, Nat.lt_of_lt_of_le h3 hB'.size⟩
          rcases hq i o (by omega) eq ho Z a.eval hr (fun _ => rfl) W hB with hy | ⟨f, args, hrun, hc⟩
          · exact wpIn_oper_yld (hgd o (List.mem_of_getElem? ho)).2 hy (hnext W (Below.refl _ _))
          · unfold Oper.wpIn
            refine ⟨fun f _ => trivial, ?_⟩
            rw [Oper.semAt_eq _ _ _ (noDefer_ne (hgd o (List.mem_of_getElem? ho)).2), hrun, Oper.uponIn_enter]
            refine ⟨(fun h => (by cases h)), callsIn_wide.2 (hc.mono ?_)⟩
            rintro e W' ⟨rfl, hB'⟩
            exact hnext W' hB'
    · rw [hall i hil] at hf
      cases hf
  · obtain ⟨Z, hj, hW⟩ := hJ
    rcases hW with ⟨hfm, _⟩ | ⟨_, hWe⟩
    · rw [hall m (by omega)] at hfm
      cases hfm
    · exact hend listed a Z W (fun i hi => ⟨hall i hi, by omega⟩) hj hWe
/-- All operations' values put into the slots, one behind the other. -/
def putAll : List Oper → Nat → (Nat → Value) → Act → Act
  | [], _, _, a => a
  | o :: r, i, vals, a => putAll r (i + 1) vals (a.put o.dst (vals i))
theorem put_size (a : Act) (d : Option Tmp) (v : Value) : (a.put d v).tmps.size = a.tmps.size := by cases d <;> simp [Act.put]
theorem put_defers (a : Act) (d : Option Tmp) (v : Value) : (a.put d v).defers = a.defers := by cases d <;> rfl
theorem putAll_size : ∀ (l : List Oper) (i : Nat) (vals : Nat → Value) (a : Act), (putAll l i vals a).tmps.size = a.tmps.size ∧ (putAll l i vals a).defers = a.defers
  | [], _, _, _ => ⟨rfl, rfl⟩
  | o :: r, i, vals, a => by
    have := putAll_size r (i + 1) vals (a.put o.dst (vals i))
    exact ⟨this.1.trans (put_size _ _ _), this.2.trans (put_defers _ _ _)⟩
theorem putAll_rest : ∀ (l : List Oper) (i : Nat) (vals : Nat → Value) (a : Act) (d : Tmp), (∀ o ∈ l, o.dst ≠ some d) → (putAll l i vals a).eval (.tmp d) = a.eval (.tmp d)
  | [], _, _, _, _, _ => rfl
  | o :: r, i, vals, a, d, h => by
    refine (putAll_rest r (i + 1) vals _ d (fun o' h' => h o' (List.mem_cons_of_mem _ h'))).trans (Act.eval_put fun d' hd' he => ?_)
    cases he
    exact h o List.mem_cons_self hd'
theorem putAll_at : ∀ (l : List Oper) (i : Nat) (vals : Nat → Value) (a : Act) (d : Tmp) (j : Nat) (o : Oper), l[j]? = some o → o.dst = some d → (∀ j' o', j < j' → l[j']? = some o' → o'.dst ≠ some d) → d < a.tmps.size → (putAll l i vals a).eval (.tmp d) = vals (i + j)
  | [], _, _, _, _, j, _, hj, _, _, _ => by simp at hj
  | o :: r, i, vals, a, d, 0, o', hj, ho, hl, hd => by
    have e : o = o' := by simpa using hj
    subst e
    refine (putAll_rest r (i + 1) vals _ d (fun o2 h2 => ?_)).trans ?_
    · obtain ⟨k, hk⟩ := List.mem_iff_getElem?.1 h2
      exact hl (k + 1) o2 (by omega) (by simpa using hk)
    · rw [ho]
      simp [Act.put, Act.eval, hd]
  | o :: r, i, vals, a, d, j + 1, o', hj, ho, hl, hd => by
    have := putAll_at r (i + 1) vals (a.put o.dst (vals i)) d j o' (by simpa using hj) ho (fun j' o2 h1 h2 => hl (j' + 1) o2 (by omega) (by simpa using h2)) (by rw [put_size]; exact hd)
    rw [show i + (j + 1) = i + 1 + j by omega]
    exact this
/-- The act behind a region whose operations are all done. -/
theorem jt_act {l : List Oper} {vals : Nat → Value} {a0 a : Act} {listed : Array Bool} (h : Jt l vals a0 listed a) (hall : ∀ i, i < l.length → listed.getD i true = true ∧ i < listed.size)
    (hd : (List.range l.length).all (fun i => (List.range l.length).all fun j => i == j || (match l[i]?, l[j]? with | some o, some o' => (match o.dst, o'.dst with | some d, some d' => d != d' | _, _ => true) | _, _ => true)) = true)
    (hlt : (l.all fun o => match o.dst with | some d => decide (d < a0.tmps.size) | none => true) = true) : a = putAll l 0 vals a0 := by
  have hs := putAll_size l 0 vals a0
  have hev : ∀ d, a.eval (.tmp d) = (putAll l 0 vals a0).eval (.tmp d) := fun d => by
    by_cases he : ∃ (j : Nat) (o : Oper), l[j]? = some o ∧ o.dst = some d
    · obtain ⟨j, o, hj, ho⟩ := he
      have hjl : j < l.length := (List.getElem?_eq_some_iff.1 hj).1
      have h4 := List.all_eq_true.1 hlt o (List.mem_of_getElem? hj)
      rw [ho] at h4
      have h5 := putAll_at l 0 vals a0 d j o hj ho (fun j' o' h1 h2 h3 => by
        have hjl' : j' < l.length := (List.getElem?_eq_some_iff.1 h2).1
        have h6 := List.all_eq_true.1 (List.all_eq_true.1 hd j (List.mem_range.2 hjl)) j' (List.mem_range.2 hjl')
        rw [hj, h2] at h6
        simp only [ho, h3, bne_self_eq_false, Bool.or_false, beq_iff_eq] at h6
        omega) (by simpa using h4)
      rw [h5, Nat.zero_add]
      exact h.done j o d hj (hall j hjl).1 (hall j hjl).2 ho
    · refine (h.rest d fun j o hj ho => he ⟨j, o, hj, ho⟩).trans (putAll_rest l 0 vals a0 d fun o ho hd' => ?_).symm
      obtain ⟨k, hk⟩ := List.mem_iff_getElem?.1 ho
      exact he ⟨k, o, hk, hd'⟩
  obtain ⟨t, df⟩ := a
  have e1 : df = (putAll l 0 vals a0).defers := h.defers.trans hs.2.symm
  have e2 : t = (putAll l 0 vals a0).tmps := by
    have hsz : t.size = (putAll l 0 vals a0).tmps.size := h.size.trans hs.1.symm
    refine Array.ext hsz fun k h1 h2 => ?_
    have := hev k
    simp only [Act.eval, Array.getD_eq_getD_getElem?, Array.getElem?_eq_getElem h1, Array.getElem?_eq_getElem h2, Option.getD_some] at this
    exact this
  rw [e1, e2]
end Go.Vk
/- As Order's chain, with one more operation at the end that may write a slot which others read. Over any program. -/
namespace Go.Vk
open Go.Sort Go.RowKit
/-- Does i wait for j, in so many steps? -/
def waitsN (l : List Oper) : Nat → Nat → Nat → Bool
  | 0, _, _ => false
  | f + 1, i, j => match l[i]? with
    | some o => o.after.any fun e => Region.binds .any e && (e.on == j || waitsN l f e.on j)
    | none => false
theorem waits_listed {l : List Oper} {listed : Array Bool} (hcl : ∀ (j : Nat) (o : Oper), l[j]? = some o → listed.getD j true = true → ∀ e ∈ o.after, Region.binds .any e = true → listed.getD e.on false = true) :
    ∀ (f i j : Nat) (o : Oper), waitsN l f i j = true → l[i]? = some o → (∀ e ∈ o.after, Region.binds .any e = true → listed.getD e.on false = true) → listed.getD j true = true
  | 0, _, _, _, h, _, _ => by cases h
  | f + 1, i, j, o, h, ho, hdep => by
    unfold waitsN at h
    rw [ho] at h
    obtain ⟨x, hx1, hx2⟩ := Array.any_eq_true'.1 h
    obtain ⟨hx3, hx4⟩ := Bool.and_eq_true_iff.1 hx2
    have h6 := hdep x hx1 hx3
    rcases Bool.or_eq_true_iff.1 hx4 with h7 | h7
    · have e2 : x.on = j := by simpa using h7
      rw [e2] at h6
      exact (getD_false_true h6).1
    · cases ho2 : l[x.on]? with
      | none =>
        cases f with
        | zero => cases h7
        | succ f => unfold waitsN at h7; rw [ho2] at h7; cases h7
      | some o2 => exact waits_listed hcl f x.on j o2 h7 ho2 (hcl x.on o2 ho2 (getD_false_true h6).1)
theorem pop_get {listed : Array Bool} {j : Nat} (h : j < listed.size - 1) (d : Bool) : listed.pop.getD j d = listed.getD j d := by
  rw [Array.getD_eq_getD_getElem?, Array.getD_eq_getD_getElem?, Array.getElem?_pop, if_pos h]
theorem pop_set {listed : Array Bool} {i : Nat} : (listed.setIfInBounds i true).pop = if i < listed.size - 1 then listed.pop.setIfInBounds i true else listed.pop := by
  refine Array.ext_getElem? fun j => ?_
  by_cases hi : i < listed.size - 1
  · rw [if_pos hi, Array.getElem?_pop, Array.getElem?_setIfInBounds, Array.getElem?_setIfInBounds, Array.getElem?_pop]
    simp only [Array.size_setIfInBounds, Array.size_pop]
    by_cases hj : j < listed.size - 1
    · by_cases e : i = j
      · subst e
        simp [hi, show i < listed.size by omega]
      · simp [e, hj]
    · by_cases e : i = j
      · subst e
        exact absurd hi hj
      · simp [e, hj]
  · rw [if_neg hi, Array.getElem?_pop, Array.getElem?_pop, Array.getElem?_setIfInBounds]
    simp only [Array.size_setIfInBounds]
    by_cases hj : j < listed.size - 1
    · rw [if_pos hj, if_pos hj, if_neg (by omega)]
    · rw [if_neg hj, if_neg hj]
theorem wpIn_region_vals_put {F : Fence} {n : Nat} {P : Program} {id : Nat} {l : List Oper} {oL : Oper} {Q : Exit → Act → World → Prop} {a0 : Act} {w0 : World} (vals : Nat → Value) (Wd : Array Bool → World → Prop) (hm : P.follows .mixedOrders = true)
    (hg : (l.all fun o => o.guard.isNone && noDefer o) = true) (hgL : oL.guard = none) (hbL : (List.range (l ++ [oL]).length).all (fun i => match (l ++ [oL])[i]? with | some o => o.after.all (fun e => !Region.binds .any e || decide (e.on < i)) | none => true) = true)
    (hwL : (List.range l.length).all (fun j => oL.after.any fun e => e.on == j && Region.binds .any e) = true)
    (hd : (List.range l.length).all (fun i => (List.range l.length).all fun j => i == j || (match l[i]?, l[j]? with | some o, some o' => (match o.dst, o'.dst with | some d, some d' => d != d' | _, _ => true) | _, _ => true)) = true)
    (hlt : (l.all fun o => match o.dst with | some d => decide (d < a0.tmps.size) | none => true) = true)
    (h0 : Wd (Array.replicate l.length false) w0.drew)
    (hstep : ∀ i o, l[i]? = some o → ∀ (listed : Array Bool) (ρ : Operand → Value) w, listed.size = l.length → (∀ e ∈ o.after, Region.binds .any e = true → ∀ (o' : Oper) (d : Tmp), l[e.on]? = some o' → o'.dst = some d → ρ (.tmp d) = vals e.on) → (∀ (d : Tmp), (∀ (j : Nat) (o : Oper), l[j]? = some o → o.dst ≠ some d) → ρ (.tmp d) = a0.eval (.tmp d)) → (∀ c, ρ (.const c) = c) →
      Wd listed w → listed.getD i true = false → (∀ e ∈ o.after, Region.binds .any e = true → listed.getD e.on false = true) → (∀ (j : Nat) (o : Oper), l[j]? = some o → listed.getD j true = true → ∀ e ∈ o.after, Region.binds .any e = true → listed.getD e.on false = true) → ∃ w', Yld P ρ o w (vals i) w' ∧ Wd (listed.setIfInBounds i true) w')
    (hend : ∀ (listed : Array Bool) a w, Jt l vals a0 listed a → Wd listed w → listed.size = l.length → (∀ i, i < l.length → listed.getD i true = true) → oL.wpIn F n P a w (fun a' w' => Q .normal a' w') Q) : (Code.region id (l ++ [oL]).toArray true).wpIn F n P Q a0 w0 := by
  have hgd : ∀ o ∈ l, o.guard = none ∧ noDefer o = true := fun o ho => by
    have := List.all_eq_true.1 hg o ho
    simpa using this
  have hll : (l ++ [oL]).length = l.length + 1 := by simp
  have hback : ∀ (i : Nat) (o : Oper), l[i]? = some o → ∀ e ∈ o.after, Region.binds .any e = true → e.on < l.length := fun i o ho e he hbe => by
    have hil := (List.getElem?_eq_some_iff.1 ho).1
    have h1 := List.all_eq_true.1 hbL i (List.mem_range.2 (by omega))
    rw [List.getElem?_append_left hil, ho] at h1
    have h2 := Array.all_eq_true'.1 h1 e he
    have h3 : e.on < i := by rw [hbe] at h2; simpa using h2
    omega
  refine wpIn_region_inv (fun listed a w => (listed.getD l.length true = false ∧ Jt l vals a0 listed.pop a ∧ Wd listed.pop w) ∨ ((∀ i, i < l.length + 1 → listed.getD i true = true) ∧ Q .normal a w)) hm (fun o ho => ?_) (some_ready hbL) (.inl ⟨by simp [hll], ?_, ?_⟩) (fun i o ho listed a w hs hJ hf hdep => ?_) (fun listed a w hs hJ hall => ?_)
  · rcases List.mem_append.1 ho with h | h
    · exact (hgd o h).1
    · rw [List.mem_singleton.1 h]; exact hgL
  · have e : (Array.replicate (l ++ [oL]).length false).pop = Array.replicate l.length false := by rw [hll]; simp
    rw [e]
    exact jt_start _ _ _ _ (Nat.le_refl _)
  · have e : (Array.replicate (l ++ [oL]).length false).pop = Array.replicate l.length false := by rw [hll]; simp
    rw [e]
    exact h0
  · rw [hll] at hs
    have hps : listed.pop.size = l.length := by simp [hs]
    rcases hJ with ⟨hfm, hj, hW⟩ | ⟨hall, _⟩
    · by_cases e : i < l.length
      · rw [List.getElem?_append_left e] at ho
        have hdep' : ∀ e ∈ o.after, Region.binds .any e = true → listed.pop.getD e.on false = true := fun x hx hb => by
          rw [pop_get (by have := hback i o ho x hx hb; omega)]
          exact hdep x hx hb
        obtain ⟨w', hy, hW'⟩ := hstep i o ho listed.pop a.eval w hps (fun e he hbi o' d h1 h2 => by
          have h3 := getD_false_true (hdep' e he hbi)
          exact hj.done e.on o' d h1 h3.1 h3.2 h2) (fun d hdn => hj.rest d hdn) (fun c => rfl) hW (by rw [pop_get (by omega)]; exact hf) hdep' hj.clos
        refine wpIn_oper_yld (hgd o (List.mem_of_getElem? ho)).2 hy (.inl ⟨?_, ?_, ?_⟩)
        · rw [getD_set_ne true (by omega)]
          exact hfm
        · rw [pop_set, if_pos (by omega)]
          refine jt_step hj ho (fun j o' d h1 h2 h3 => ?_) (fun d h1 => ?_) hdep'
          · have hil : i < l.length := (List.getElem?_eq_some_iff.1 ho).1
            have hjl : j < l.length := (List.getElem?_eq_some_iff.1 h1).1
            have h4 := List.all_eq_true.1 (List.all_eq_true.1 hd j (List.mem_range.2 hjl)) i (List.mem_range.2 hil)
            rw [h1, ho] at h4
            simp only [h2, h3, bne_self_eq_false, Bool.or_false, beq_iff_eq] at h4
            exact h4
          · have h4 := List.all_eq_true.1 hlt o (List.mem_of_getElem? ho)
            rw [h1] at h4
            simpa using h4
        · rw [pop_set, if_pos (by omega)]
          exact hW'
      · have hil : i < (l ++ [oL]).length := (List.getElem?_eq_some_iff.1 ho).1
        have ei : i = l.length := by omega
        subst ei
        rw [List.getElem?_append_right (Nat.le_refl _), Nat.sub_self] at ho
        obtain rfl : oL = o := by simpa using ho
        have hlj : ∀ j, j < l.length → listed.getD j true = true := fun j hji => by
          have h4 := List.all_eq_true.1 hwL j (List.mem_range.2 hji)
          obtain ⟨x, hx1, hx2⟩ := Array.any_eq_true'.1 h4
          simp only [Bool.and_eq_true, beq_iff_eq] at hx2
          have h5 := hdep x hx1 hx2.2
          rw [hx2.1] at h5
          exact (getD_false_true h5).1
        refine Oper.wpIn_mono (fun a' w' hQ => .inr ⟨fun j hj' => ?_, hQ⟩) (hend listed.pop a w hj hW hps (fun j hji => by rw [pop_get (by omega)]; exact hlj j hji))
        by_cases ej : l.length = j
        · subst ej
          simp [hs]
        · rw [getD_set_ne true ej]
          exact hlj j (by omega)
    · have hil : i < (l ++ [oL]).length := (List.getElem?_eq_some_iff.1 ho).1
      rw [hall i (by omega)] at hf
      cases hf
  · rcases hJ with ⟨hfm, _⟩ | ⟨_, hQ⟩
    · rw [hall l.length (by omega)] at hfm
      cases hfm
    · exact hQ
/-- Operations that only read, and some that turn the world one behind the other, the last of which waits for all. -/
theorem wpIn_region_chain_put {F : Fence} {n : Nat} {P : Program} {id : Nat} {l : List Oper} {oL : Oper} {Q : Exit → Act → World → Prop} {a0 : Act} {w0 : World} (vals : Nat → Value) (ws : Nat → World) (E : List Nat) (K : Nat) (hm : P.follows .mixedOrders = true)
    (hg : (l.all fun o => o.guard.isNone && noDefer o) = true) 
    (hd : (List.range l.length).all (fun i => (List.range l.length).all fun j => i == j || (match l[i]?, l[j]? with | some o, some o' => (match o.dst, o'.dst with | some d, some d' => d != d' | _, _ => true) | _, _ => true)) = true)
    (hgL : oL.guard = none) (hbL : (List.range (l ++ [oL]).length).all (fun i => match (l ++ [oL])[i]? with | some o => o.after.all (fun e => !Region.binds .any e || decide (e.on < i)) | none => true) = true) (hwL : (List.range l.length).all (fun j => oL.after.any fun e => e.on == j && Region.binds .any e) = true)
    (hlt : (l.all fun o => match o.dst with | some d => decide (d < a0.tmps.size) | none => true) = true) (hE : E.length = K + 1)
    (hwait : (List.range l.length).all (fun j => j == E.getD K 0 || waitsN l 8 (E.getD K 0) j) = true)
    (hchain : (List.range K).all (fun j => match l[E.getD (j + 1) 0]? with | some o => o.after.any (fun e => e.on == E.getD j 0 && Region.binds .any e) | none => false) = true)
    (hinj : (List.range (K + 1)).all (fun j => (List.range (K + 1)).all fun j' => j == j' || E.getD j 0 != E.getD j' 0) = true) (hEl : (List.range (K + 1)).all (fun j => decide (E.getD j 0 < l.length)) = true)
    (h0 : ws 0 = w0.drew)
    (hq : ∀ i o, (∀ j, j < K + 1 → E.getD j 0 ≠ i) → l[i]? = some o → ∀ k, k ≤ K → ∀ ρ, Rho l vals a0 o ρ → Yld P ρ o (ws k) (vals i) (ws k)) (he : ∀ j o, j ≤ K → l[E.getD j 0]? = some o → ∀ ρ, Rho l vals a0 o ρ → Yld P ρ o (ws j) (vals (E.getD j 0)) (ws (j + 1)))
    (hend : ∀ (listed : Array Bool) a, (∀ i, i < l.length → listed.getD i true = true ∧ i < listed.size) → Jt l vals a0 listed a → oL.wpIn F n P a (ws (K + 1)) (fun a' w' => Q .normal a' w') Q) : (Code.region id (l ++ [oL]).toArray true).wpIn F n P Q a0 w0 := by
  have hEl' : ∀ j, j < K + 1 → E.getD j 0 < l.length := fun j hj => by simpa using List.all_eq_true.1 hEl j (List.mem_range.2 hj)
  have hinj' : ∀ j j', j < K + 1 → j' < K + 1 → E.getD j 0 = E.getD j' 0 → j = j' := fun j j' hj hj' e => by
    have := List.all_eq_true.1 (List.all_eq_true.1 hinj j (List.mem_range.2 hj)) j' (List.mem_range.2 hj')
    rw [e] at this
    simpa using this
  refine wpIn_region_vals_put vals (fun listed w => ∃ k, k ≤ K + 1 ∧ w = ws k ∧ (∀ j, j < K + 1 → (listed.getD (E.getD j 0) true = true ↔ j < k)) ∧ (k = K + 1 → ∀ i, i < l.length → listed.getD i true = true)) hm hg hgL hbL hwL hd hlt ⟨0, by omega, h0.symm, fun j hj => ?_, fun h => by omega⟩ (fun i o ho listed ρ w hs h1 h2 h3 hW hf hdep hcl => ?_) (fun listed a w hJ hW hs hall => ?_)
  · have := hEl' j hj
    have e : (Array.replicate l.length false).getD (E.getD j 0) true = false := by
      rw [Array.getD_eq_getD_getElem?, Array.getElem?_replicate, if_pos this]
      rfl
    rw [e]
    exact ⟨(fun h => by cases h), (fun h => by omega)⟩
  · have hil : i < l.length := (List.getElem?_eq_some_iff.1 ho).1
    have hr : Rho l vals a0 o ρ := ⟨h1, fun d hdn => h2 d (rest_of hdn), h3⟩
    obtain ⟨k, hk, rfl, hiff, hfull⟩ := hW
    have hkK : k ≤ K := by
      refine Nat.le_of_not_lt fun hlt' => ?_
      rw [hfull (by omega) i hil] at hf
      cases hf
    by_cases hin : ∃ j, j < K + 1 ∧ E.getD j 0 = i
    · obtain ⟨j, hj, rfl⟩ := hin
      have hjk : j = k := by
        have h4 : ¬ j < k := fun h => by rw [(hiff j hj).2 h] at hf; cases hf
        rcases Nat.lt_or_ge k j with h5 | h5
        · exfalso
          obtain ⟨j', rfl⟩ : ∃ j', j = j' + 1 := ⟨j - 1, by omega⟩
          have h6 := List.all_eq_true.1 hchain j' (List.mem_range.2 (by omega))
          rw [ho] at h6
          obtain ⟨x, hx1, hx2⟩ := Array.any_eq_true'.1 h6
          simp only [Bool.and_eq_true, beq_iff_eq] at hx2
          have h7 := hdep x hx1 hx2.2
          rw [hx2.1] at h7
          have h8 := (hiff j' (by omega)).1 (getD_false_true h7).1
          omega
        · omega
      subst hjk
      refine ⟨ws (j + 1), he j o (by omega) ho ρ hr, j + 1, by omega, rfl, fun j' hj' => ?_, fun hK => ?_⟩
      · by_cases e : j' = j
        · subst e
          have : E.getD j' 0 < listed.size := by rw [hs]; exact hEl' j' hj'
          simp
        · rw [getD_set_ne true (fun h => e (hinj' j' j hj' hj h.symm)), hiff j' hj']
          omega
      · have hjK : j = K := by omega
        subst hjK
        intro i' hi'
        have h4 := List.all_eq_true.1 hwait i' (List.mem_range.2 hi')
        by_cases e : E.getD j 0 = i'
        · rw [← e]
          have : E.getD j 0 < listed.size := by rw [hs]; exact hEl' j hj
          simp
        · rw [getD_set_ne true e]
          have h5 : waitsN l 8 (E.getD j 0) i' = true := by
            rcases Bool.or_eq_true_iff.1 h4 with h | h
            · exact absurd (by simpa using h : i' = E.getD j 0).symm e
            · exact h
          exact waits_listed hcl 8 _ _ o h5 ho hdep
    · refine ⟨ws k, hq i o (fun j hj e => hin ⟨j, hj, e⟩) ho k hkK ρ hr, k, hk, rfl, fun j hj => ?_, fun h => by omega⟩
      rw [getD_set_ne true (fun e => hin ⟨j, hj, e.symm⟩)]
      exact hiff j hj
  · obtain ⟨k, hk, rfl, hiff, _⟩ := hW
    have hkK : k = K + 1 := by
      have := (hiff K (by omega)).1 (hall _ (hEl' K (by omega)))
      omega
    subst hkK
    exact hend listed a (fun i hi => ⟨hall i hi, by omega⟩) hJ
theorem region_split (m : Nat) {F : Fence} {n : Nat} {P : Program} {id : Nat} {l : List Oper} {Q : Exit → Act → World → Prop} {a : Act} {w : World} (h : (Code.region id (l.take m ++ l.drop m).toArray true).wpIn F n P Q a w) : (Code.region id l.toArray true).wpIn F n P Q a w := by
  rwa [List.take_append_drop] at h
end Go.Vk
/- Many slices of the call's own, marked, grown and read again. Over any program. -/
namespace Go.Vk
open Go.RowKit
def lv (ad : Nat → Option Addr) (ln cp : Nat → Nat) (m : Nat) : Value := .slice (ad m) (ln m) (cp m)
def ApartN (N : Nat) (v : Nat → Value) : Prop := ∀ m m', m < N → m' < N → m ≠ m' → ∀ b, (v m).ownBlock = some b → (v m').ownBlock ≠ some b
def Marked (mk : Nat → Value) (N : Nat) (e : TypeId) (B : Nat) (ad : Nat → Option Addr) (ln cp : Nat → Nat) (n k : Nat) (W : World) : Prop :=
  ∀ m, m < N → ∃ zs, W.ownsRow B e 1 (lv ad ln cp m) (ln m) zs ∧ ∀ j, (m < n ∨ m = n ∧ j < k) → j < ln m → zs[j]? = some (mk m)
theorem marked_step {mk : Nat → Value} {N : Nat} {e : TypeId} {B n k g : Nat} {ad : Nat → Option Addr} {ln cp : Nat → Nat} {W : World} (h : Marked mk N e B ad ln cp n k W) (hn : n < N) (hk : k < ln n) (hg : ad n = some ⟨g, 0, none⟩) (hap : ApartN N (lv ad ln cp)) : Marked mk N e B ad ln cp n (k + 1) (W.setCell ⟨g, k, none⟩ (mk n)) := by
  intro m hm
  obtain ⟨zs, h1, h2⟩ := h m hm
  by_cases e : m = n
  · subst e
    unfold lv at h1 ⊢
    rw [hg] at h1 ⊢
    refine ⟨zs.set k (mk m), own_set h1 k _, fun j hj hl => ?_⟩
    have hzl : zs.length = ln m := by have := h1.1; omega
    by_cases e : j = k
    · subst e
      rw [List.getElem?_set_self (by omega)]
    · rw [List.getElem?_set_ne (by omega)]
      exact h2 j (.inr ⟨rfl, by omega⟩) hl
  · refine ⟨zs, ⟨h1.1, ?_⟩, fun j hj hl => h2 j (by omega) hl⟩
    rcases h1.2 with h3 | ⟨g', cap, cur, heq, hB, hh, r⟩
    · exact .inl h3
    · refine .inr ⟨g', cap, cur, heq, hB, (Below.heap_setCell _ _ _ _ (fun e0 => ?_)).trans hh, r⟩
      have := hap m n hm hn e g' (by rw [heq]; rfl)
      unfold lv at this
      rw [hg] at this
      exact this (by dsimp only at e0; rw [e0]; rfl)
theorem marked_next {mk : Nat → Value} {N : Nat} {e : TypeId} {B n : Nat} {ad : Nat → Option Addr} {ln cp : Nat → Nat} {W : World} (h : Marked mk N e B ad ln cp n (ln n) W) : Marked mk N e B ad ln cp (n + 1) 0 W := by
  intro m hm
  obtain ⟨zs, h1, h2⟩ := h m hm
  refine ⟨zs, h1, fun j hj hl => h2 j ?_ hl⟩
  by_cases e : m = n
  · subst e
    exact .inr ⟨rfl, hl⟩
  · omega
/-- The lists' elements, all marked. -/
def CV (mk : Nat → Value) (N : Nat) (ad : Nat → Option Addr) (ln : Nat → Nat) (S : Nat) (W : World) : Prop := ∀ m, m < N → ∀ j, j < ln m → ∃ b, ad m = some ⟨b, 0, none⟩ ∧ b < S ∧ W.cell? ⟨b, j, none⟩ = some (mk m)
theorem marked_cells {mk : Nat → Value} {N : Nat} {e : TypeId} {B : Nat} {ad : Nat → Option Addr} {ln cp : Nat → Nat} {W : World} (h : Marked mk N e B ad ln cp N 0 W) : CV mk N ad ln W.heap.size W := by
  intro m hm j hj
  obtain ⟨zs, h1, h2⟩ := h m hm
  unfold lv at h1
  rcases h1.2 with ⟨_, h3⟩ | ⟨g', cap, cur, heq, hB, hh, r⟩
  · omega
  · injection heq with e1 e2 e3
    refine ⟨g', e1, (Array.getElem?_eq_some_iff.1 hh).1, ?_⟩
    rw [e1] at h1
    rw [h1.cellAt j (by omega)]
    exact h2 j (.inl hm) hj
theorem cv_keep {mk : Nat → Value} {N : Nat} {ad : Nat → Option Addr} {ln cp : Nat → Nat} {S n q : Nat} {vb : Option Nat} {W W' : World} (h : CV mk N ad ln S W) (hk : ∀ b o, b < W.heap.size → (vb = some b → o < q) → W'.cell? ⟨b, o, none⟩ = W.cell? ⟨b, o, none⟩) (hN : S ≤ W.heap.size)
    (hb : ∀ b, vb = some b → (lv ad ln cp n).ownBlock = some b ∨ S ≤ b) (hq : ln n ≤ q) (hap : ApartN N (lv ad ln cp)) (hn : n < N) : CV mk N ad ln S W' := by
  intro m hm j hj
  obtain ⟨b, h1, h2, h3⟩ := h m hm j hj
  refine ⟨b, h1, h2, (hk b j (by omega) (fun e => ?_)).trans h3⟩
  rcases hb b e with h4 | h4
  · by_cases e2 : m = n
    · subst e2; omega
    · exact absurd h4 (hap m n hm hn e2 b (by unfold lv; rw [h1]; rfl))
  · omega
theorem cv_below {mk : Nat → Value} {N : Nat} {ad : Nat → Option Addr} {ln : Nat → Nat} {S : Nat} {W W' : World} (h : CV mk N ad ln S W) (_hN : S ≤ W.heap.size) (hb : Below W.heap.size W W') : CV mk N ad ln S W' := fun m hm j hj => by
  obtain ⟨b, h1, h2, h3⟩ := h m hm j hj
  exact ⟨b, h1, h2, cell_later hb h3⟩
def upd (u : Nat → Value) (n : Nat) (x : Value) (m : Nat) : Value := if m = n then x else u m
/-- The long lists so far: rows of their own, all marked. -/
def CU (mk : Nat → Value) (N L : Nat) (e : TypeId) (u : Nat → Value) (ad : Nat → Option Addr) (ln cp : Nat → Nat) (n S : Nat) (W : World) : Prop :=
  ∀ m, m < n → ∃ b c cs, u m = .slice (some ⟨b, 0, none⟩) (ln m + L) c ∧ b < S ∧ W.heap[b]? = some (.cells cs e (0, 0)) ∧ (∀ j, j < ln m + L → cs[j]? = some (mk m)) ∧ ∀ m', m' < N → m' ≠ m → (lv ad ln cp m').ownBlock ≠ some b
theorem cu_grow {mk : Nat → Value} {N L : Nat} {e : TypeId} {u : Nat → Value} {ad : Nat → Option Addr} {ln cp : Nat → Nat} {S n : Nat} {vb : Option Nat} {W W' : World} (h : CU mk N L e u ad ln cp n S W) (hg : W.grownBy W' vb)
    (hb : ∀ b, vb = some b → (lv ad ln cp n).ownBlock = some b ∨ S ≤ b) (hn : n < N) : CU mk N L e u ad ln cp n S W' := by
  intro m hm
  obtain ⟨b, c, cs, h1, h2, h3, h4, h5⟩ := h m hm
  refine ⟨b, c, cs, h1, h2, (hg.block b (Array.getElem?_eq_some_iff.1 h3).1 (fun e0 => ?_)).trans h3, h4, h5⟩
  rcases hb b e0.symm with h6 | h6
  · exact h5 n hn (by omega) h6
  · omega
theorem cu_heap {mk : Nat → Value} {N L : Nat} {e : TypeId} {u : Nat → Value} {ad : Nat → Option Addr} {ln cp : Nat → Nat} {S S' n : Nat} {W W' : World} (h : CU mk N L e u ad ln cp n S W) (hS : S ≤ S') (hk : ∀ (b : Nat) (cs : Array Value), W.heap[b]? = some (Obj.cells cs e (0, 0)) → W'.heap[b]? = some (Obj.cells cs e (0, 0))) : CU mk N L e u ad ln cp n S' W' := fun m hm => by
  obtain ⟨b, c, cs, h1, h2, h3, h4, h5⟩ := h m hm
  exact ⟨b, c, cs, h1, by omega, hk b cs h3, h4, h5⟩
theorem cu_more {mk : Nat → Value} {N L : Nat} {e : TypeId} {n S B c g : Nat} {u : Nat → Value} {ad : Nat → Option Addr} {ln cp : Nat → Nat} {W : World} (h : CU mk N L e u ad ln cp n S W) (hS : S ≤ W.heap.size) (hn : n < N) (ho : W.ownsRow B e 1 (.slice (some ⟨g, 0, none⟩) (ln n + L) c) (ln n + L) (List.replicate (ln n + L) (mk n)))
    (hb : (lv ad ln cp n).ownBlock = some g ∨ S ≤ g) (hv : ∀ m, m < N → ∀ b, (lv ad ln cp m).ownBlock = some b → b < S) (hap : ApartN N (lv ad ln cp)) :
    CU mk N L e (upd u n (.slice (some ⟨g, 0, none⟩) (ln n + L) c)) ad ln cp (n + 1) W.heap.size W := by
  intro m hm
  by_cases e0 : m = n
  · subst e0
    rcases ho.2 with ⟨h1, _⟩ | ⟨g', cap, cur, heq, hB, hh, h4, h5, h6, h7⟩
    · cases h1
    · injection heq with e1 e2 e3
      injection e1 with e1
      injection e1 with e1
      subst e1
      refine ⟨g, c, cur, by unfold upd; rw [if_pos rfl], (Array.getElem?_eq_some_iff.1 hh).1, hh, fun j hj => ?_, fun m' hm' hne' h2 => ?_⟩
      · have h8 : (cur.toList.take ((ln m + L) * 1))[j]? = some (mk m) := by rw [h7, List.getElem?_replicate, if_pos hj]
        rw [List.getElem?_take, if_pos (by omega)] at h8
        simpa using h8
      · rcases hb with h1 | h1
        · exact hap m' m hm' hn hne' g h2 h1
        · have := hv m' hm' g h2
          omega
  · obtain ⟨b, c', cs, h1, h2, h3, h4, h5⟩ := h m (by omega)
    exact ⟨b, c', cs, by unfold upd; rw [if_neg e0]; exact h1, by omega, h3, h4, h5⟩
theorem cu_at {mk : Nat → Value} {N L : Nat} {e : TypeId} {u : Nat → Value} {ad : Nat → Option Addr} {ln cp : Nat → Nat} {S n : Nat} {W : World} (h : CU mk N L e u ad ln cp n S W) (m : Nat) (hm : m < n) : ∃ b c, u m = .slice (some ⟨b, 0, none⟩) (ln m + L) c ∧ ∀ j, j < ln m + L → W.cell? ⟨b, j, none⟩ = some (mk m) := by
  obtain ⟨b, c, cs, h1, _, h3, h4, _⟩ := h m hm
  exact ⟨b, c, h1, fun j hj => by simp [World.cell?, h3, h4 j hj]⟩
/-- All that lay there but the lists' rows is as it was. -/
def RestN (N : Nat) (v : Nat → Value) (W0 W : World) : Prop := W0.heap.size ≤ W.heap.size ∧ ∀ q, q < W0.heap.size → (∀ m, m < N → (v m).ownBlock ≠ some q) → W.heap[q]? = W0.heap[q]?
theorem rest_below {N : Nat} {v : Nat → Value} {W0 W W' : World} (h : RestN N v W0 W) (hb : Below W.heap.size W W') : RestN N v W0 W' := ⟨Nat.le_trans h.1 hb.size, fun q h1 h2 => (hb.block q (by have := h.1; omega)).trans (h.2 q h1 h2)⟩
theorem rest_set {N : Nat} {v : Nat → Value} {W0 W : World} (h : RestN N v W0 W) {a : Addr} (ha : W0.heap.size ≤ a.block ∨ ∃ m, m < N ∧ (v m).ownBlock = some a.block) (u : Value) : RestN N v W0 (W.setCell a u) :=
  ⟨by simpa using h.1, fun q h1 h2 => (Below.heap_setCell _ _ _ _ (fun e => by
    rcases ha with h3 | ⟨m, hm, h3⟩
    · omega
    · exact h2 m hm (by rw [h3, e]))).trans (h.2 q h1 h2)⟩
theorem rest_grown {N : Nat} {v : Nat → Value} {W0 W W' : World} {row : Option Nat} (h : RestN N v W0 W) (hg : W.grownBy W' row) (ha : ∀ b, row = some b → W0.heap.size ≤ b ∨ ∃ m, m < N ∧ (v m).ownBlock = some b) : RestN N v W0 W' :=
  ⟨Nat.le_trans h.1 hg.size, fun q h1 h2 => (hg.block q (by have := h.1; omega) (fun e => by
    rcases ha q e.symm with h3 | ⟨m, hm, h3⟩
    · omega
    · exact h2 m hm h3)).trans (h.2 q h1 h2)⟩
/-- The lists to which nothing was appended yet. -/
def OV (mk : Nat → Value) (N : Nat) (e : TypeId) (B : Nat) (ad : Nat → Option Addr) (ln cp : Nat → Nat) (n : Nat) (W : World) : Prop := ∀ m, m < N → n ≤ m → W.ownsRow B e 1 (lv ad ln cp m) (ln m) (List.replicate (ln m) (mk m))
theorem ov_start {mk : Nat → Value} {N : Nat} {e : TypeId} {B : Nat} {ad : Nat → Option Addr} {ln cp : Nat → Nat} {W : World} (h : Marked mk N e B ad ln cp N 0 W) : OV mk N e B ad ln cp 0 W := by
  intro m hm _
  obtain ⟨zs, h1, h2⟩ := h m hm
  have hl : zs.length = ln m := by have := h1.1; omega
  have e : zs = List.replicate (ln m) (mk m) := by
    refine List.ext_getElem? fun j => ?_
    by_cases hj : j < ln m
    · rw [h2 j (.inl hm) hj, List.getElem?_replicate, if_pos hj]
    · rw [List.getElem?_eq_none (by omega), List.getElem?_eq_none (by simp; omega)]
  rw [← e]
  exact h1
theorem ov_grow {mk : Nat → Value} {N : Nat} {e : TypeId} {B n S : Nat} {ad : Nat → Option Addr} {ln cp : Nat → Nat} {vb : Option Nat} {W W' : World} (h : OV mk N e B ad ln cp (n + 1) W) (hg : W.grownBy W' vb) (hb : ∀ b, vb = some b → (lv ad ln cp n).ownBlock = some b ∨ S ≤ b) (hN : ∀ m, m < N → ∀ b, (lv ad ln cp m).ownBlock = some b → b < S)
    (hap : ApartN N (lv ad ln cp)) (hn : n < N) : OV mk N e B ad ln cp (n + 1) W' := by
  intro m hm hnm
  have h1 := h m hm hnm
  refine ⟨h1.1, ?_⟩
  rcases h1.2 with h3 | ⟨g', cap, cur, heq, hB, hh, r⟩
  · exact .inl h3
  · have hgb : (lv ad ln cp m).ownBlock = some g' := by rw [heq]; rfl
    refine .inr ⟨g', cap, cur, heq, hB, (hg.block g' (Array.getElem?_eq_some_iff.1 hh).1 (fun e0 => ?_)).trans hh, r⟩
    rcases hb g' e0.symm with h5 | h5
    · exact hap m n hm hn (by omega) g' hgb h5
    · have := hN m hm g' hgb
      omega
theorem ov_below {mk : Nat → Value} {N : Nat} {e : TypeId} {B n : Nat} {ad : Nat → Option Addr} {ln cp : Nat → Nat} {W W' : World} (h : OV mk N e B ad ln cp n W) (hb : Below W.heap.size W W') : OV mk N e B ad ln cp n W' := fun m hm hn => own_below (h m hm hn) hb
theorem ov_set {mk : Nat → Value} {N : Nat} {e : TypeId} {B n G : Nat} {ad : Nat → Option Addr} {ln cp : Nat → Nat} {W : World} (h : OV mk N e B ad ln cp n W) {a : Addr} (ha : a.block = G) (hG : ∀ m, m < N → ∀ b, (lv ad ln cp m).ownBlock = some b → b < G) (u : Value) : OV mk N e B ad ln cp n (W.setCell a u) := by
  intro m hm hn
  have h1 := h m hm hn
  refine ⟨h1.1, ?_⟩
  rcases h1.2 with h3 | ⟨g', cap, cur, heq, hB, hh, r⟩
  · exact .inl h3
  · have := hG m hm g' (by rw [heq]; rfl)
    exact .inr ⟨g', cap, cur, heq, hB, (Below.heap_setCell _ _ _ _ (by omega)).trans hh, r⟩
theorem cv_set {mk : Nat → Value} {N : Nat} {ad : Nat → Option Addr} {ln : Nat → Nat} {S : Nat} {W : World} (h : CV mk N ad ln S W) {a : Addr} (ha : S ≤ a.block) (u : Value) : CV mk N ad ln S (W.setCell a u) := fun m hm j hj => by
  obtain ⟨b, h1, h2, h3⟩ := h m hm j hj
  exact ⟨b, h1, h2, (World.cell?_of_block (a := ⟨b, j, none⟩) (Below.heap_setCell _ _ _ _ (by dsimp only; omega))).trans h3⟩
end Go.Vk
