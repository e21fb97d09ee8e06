/- Regions that draw their order and hold calls that make memory, walked once in the order of the text: inside a range over a function (in a round), and outside. Over any program. -/
import Derived.Lib.QuietBelowIn
import Derived.RangeFuncCalls
import Derived.Deep.OwnRows
namespace Go.Vk
open Go.Sort Go.RowKit
/-- No defer. -/
def noDefer (o : Oper) : Bool := match o.op with | .defer _ => false | _ => true
theorem noDefer_ne {o : Oper} (h : noDefer o = true) (c : Call) : o.op ≠ .defer c := fun e => by
  unfold noDefer at h
  rw [e] at h
  cases h
theorem uponIn_inRound {F : Fence} {n : Nat} {P : Program} {o : Oper} {a : Act} {next : Act → World → Prop} {Q : Exit → Act → World → Prop} (l : Nat) {r : Result Next} (h : o.uponIn F n P a next Q r) : o.uponIn (F.inRound l) n P a next Q r := by
  cases r with
  | ok x w => cases x <;> exact h
  | halt x w => cases x <;> exact h
theorem wpIn_oper_round {F : Fence} {n : Nat} {P : Program} {o : Oper} {a : Act} {w : World} {next : Act → World → Prop} {Q : Exit → Act → World → Prop} (l : Nat) (hd : noDefer o = true) (h : o.wpIn F n P a w next Q) : o.wpIn (F.inRound l) n P a w next Q := by
  unfold Oper.wpIn at *
  refine ⟨h.1, ?_⟩
  have h2 := h.2
  have e1 : Oper.semAt F.round a.eval o = execOp a.eval o := Oper.semAt_eq _ _ _ (noDefer_ne hd)
  have e2 : Oper.semAt (F.inRound l).round a.eval o = execOp a.eval o := Oper.semAt_eq _ _ _ (noDefer_ne hd)
  rw [e1] at h2
  rw [e2]
  exact uponIn_inRound l h2
theorem wpOpIn_round {F : Fence} {n : Nat} {P : Program} {ops : Array Oper} {Q : Exit → Act → World → Prop} {i : Nat} {K K' : Act → World → Prop} {a : Act} {w : World} (l : Nat) (hd : ∀ o, ops[i]? = some o → noDefer o = true) (hK : ∀ a w, K a w → K' a w)
    (h : wpOpIn F n P ops Q i K a w) : wpOpIn (F.inRound l) n P ops Q i K' a w := by
  unfold wpOpIn at *
  split
  · exact hK _ _ (by simpa [*] using h)
  · rename_i o ho
    simp only [ho] at h
    split
    · rename_i hw; simp only [hw, if_true] at h; exact wpIn_oper_round l (hd o ho) (Oper.wpIn_mono hK h)
    · rename_i hw; simp only [hw] at h; exact ⟨h.1, hK _ _ h.2⟩
theorem wpAnyIn_round {F : Fence} {n : Nat} {P : Program} {ops : Array Oper} {md : Region.Mode} {Q : Exit → Act → World → Prop} (l : Nat) (hd : ∀ (i : Nat) o, ops[i]? = some o → noDefer o = true) : ∀ (fuel : Nat) (listed : Array Bool) (a : Act) (w : World),
    wpAnyIn F n P md ops Q fuel listed a w → wpAnyIn (F.inRound l) n P md ops Q fuel listed a w
  | 0, _, _, _, h => h
  | fuel + 1, _, _, _, h => ⟨h.1, fun i hi => wpOpIn_round l (hd i) (fun a' w' => wpAnyIn_round l hd fuel _ a' w') (h.2 i hi)⟩
/-- A region in a round: one walk, in the order of the text; behind it whatever world that keeps what was there. -/
theorem wpIn_region_round {F : Fence} {n : Nat} {P : Program} {id : Nat} {Q : Exit → Act → World → Prop} {a : Act} {w : World} {l : List Oper} {lp : Nat} (hro : F.round = none) (hm : P.follows .mixedOrders = true) (hB : Region.lexB .any l.toArray = true) (hd : l.all noDefer = true)
    (h : wpQuietIn F n P l.toArray (fun w' => ∃ p : Regrown, w' = grow (redrawn w p.d) p.os) (fun a' => ∀ w', (∃ p : Regrown, w' = grow (redrawn w p.d) p.os) → Q .normal a' w') l a) : (Code.region id l.toArray true).wpIn (F.inRound lp) n P Q a w := by
  simp only [Region.lexB, Bool.and_eq_true] at hB
  refine wpIn_region_any hm (wpAnyIn_round lp ?_ _ _ _ _ (wpAnyIn_of_quiet (C := fun w' => ∃ p : Regrown, w' = grow (redrawn w p.d) p.os) (Q := fun a' => ∀ w', (∃ p : Regrown, w' = grow (redrawn w p.d) p.os) → Q .normal a' w') hro (fun _ w' hw' h => h w' hw') _ _ _ _ ⟨⟨w.drawn + 1, #[]⟩, by rw [grow_empty]; rfl⟩ ?_))
  · intro i o hi
    have hm := List.mem_of_getElem? (l := l) (by simpa using hi)
    exact List.all_eq_true.1 hd o hm
  · have := wpAnyQIn_lex (F := F) (n := n) (C := fun w' => ∃ p : Regrown, w' = grow (redrawn w p.d) p.os) (md := .any) hB.1 l 0 (Array.replicate l.toArray.size false) a (by simp) (by simpa using hB.2) h
    simpa using this
/-- A contract that ends in Below, met in a world of the class: fenced. -/
theorem callsIn_grown {r : Nat} {P : Program} {f : FuncId} {args : Array Value} {w : World} {v : Value}
    (h : ∀ w1, Below w.heap.size w w1 → Calls P f args w1 fun e w' => e = .returned v ∧ Below w1.heap.size w1 w') (d : Nat) (os : Array Obj) :
    CallsIn Fence.wide r P f args (grow (redrawn w d) os) fun e w'' => e = .returned v ∧ ∃ p : Regrown, w'' = grow (redrawn w p.d) p.os := CallsIn.regrown_of (callsIn_wide.2 (h _ (below_regrown w d os)))
/-- The same, outside a fence. -/
theorem calls_grown {P : Program} {f : FuncId} {args : Array Value} {w : World} {v : Value}
    (h : ∀ w1, Below w.heap.size w w1 → Calls P f args w1 fun e w' => e = .returned v ∧ Below w1.heap.size w1 w') (d : Nat) (os : Array Obj) :
    Calls P f args (grow (redrawn w d) os) fun e w'' => e = .returned v ∧ ∃ p : Regrown, w'' = grow (redrawn w p.d) p.os := Calls.regrown_of (h _ (below_regrown w d os))
end Go.Vk
