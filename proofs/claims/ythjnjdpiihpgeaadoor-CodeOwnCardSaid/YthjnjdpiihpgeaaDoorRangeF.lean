/- A range over a function whose iterator tells, of each element that it yields, what holds of it then (rows that it has made): outermost and inside a round. Over any program. -/
import Derived.RangeFuncNested
import Derived.RangeFuncBound
import Derived.RangeFuncCalls
namespace Go.Vk
open Go.RowKit
/-- An iterator (each element is yielded with one block of the iterator's own laid last, which the round must keep): Hd must hold whenever it goes on, Fx holds of each element when it is yielded. -/
def SeqF {α : Type} (F : Fence) (n : Nat) (P : Program) (g : Nat) (lb : Array Value) (encs : α → Array Value) (Hd : World → Prop) (Fx : List α → α → World → Prop) (S Sp : List α → Prop) (w : World) : Prop :=
  ∀ (l : Nat) (J Jx : List α → World → Prop) (W : World), Below w.heap.size w W → AbidesFrom W.heap.size J → AbidesFrom W.heap.size Jx → (∀ pre W1, J pre W1 → Hd W1) →
    (∀ pre x W1 o, J pre W1 → Fx pre x W1 → o.isCells = true → YieldAt F (n - 1) P l (encs x) (W1.alloc o) fun e W' =>
      (e = .returned (.bool true) ∧ J (pre ++ [x]) W' ∧ W'.heap[W1.heap.size]? = some o) ∨ (e = .returned (.bool false) ∧ Jx (pre ++ [x]) W')) →
    J [] W →
    CallsIn F n P g (#[.func (.yield l) #[] #[]] ++ lb) W fun e W' => (∃ v, e = .returned v) ∧ ((∃ xs, S xs ∧ J xs W') ∨ (∃ pre, Sp pre ∧ Jx pre W'))
theorem YieldAt.inRound {F : Fence} {m : Nat} {P : Program} {l : Nat} {args : Array Value} {W : World} {R : Ending → World → Prop} (q : Nat) (h : YieldAt F m P l args W R) : YieldAt (F.inRound q) m P l args W R := h
theorem YieldAt.outOfRound {F : Fence} {m : Nat} {P : Program} {l : Nat} {args : Array Value} {W : World} {R : Ending → World → Prop} {q : Nat} (h : YieldAt (F.inRound q) m P l args W R) : YieldAt F m P l args W R := h
theorem SeqF.inRound {α : Type} {F : Fence} {n : Nat} {P : Program} {g : Nat} {lb : Array Value} {encs : α → Array Value} {Hd : World → Prop} {Fx : List α → α → World → Prop} {S Sp : List α → Prop} {w : World} (q : Nat)
    (h : SeqF F n P g lb encs Hd Fx S Sp w) : SeqF (F.inRound q) n P g lb encs Hd Fx S Sp w := fun l J Jx W hW hJ hJx hH hY h0 =>
  CallsIn.inRound q (h l J Jx W hW hJ hJx hH (fun pre x W1 o hj hf ho => YieldAt.outOfRound (hY pre x W1 o hj hf ho)) h0)
/-- The two records of a loop. -/
structure Books (l D : Nat) (r : Loop) (W : World) : Prop where
  loop : W.heap[l]? = some (.loop r)
  defs : W.heap[D]? = some (.deferred (some []))
theorem Books.lt {l D : Nat} {r : Loop} {W : World} (h : Books l D r W) : l < W.heap.size ∧ D < W.heap.size ∧ l ≠ D :=
  ⟨(Array.getElem?_eq_some_iff.1 h.loop).1, (Array.getElem?_eq_some_iff.1 h.defs).1, fun e => by have h1 := h.loop; have h2 := h.defs; rw [e, h2] at h1; cases h1⟩
theorem Books.kept {l D B : Nat} {r : Loop} {W W' : World} (h : Books l D r W) (hl : B ≤ l) (hD : B ≤ D) (hk : KeepsFrom B W W') : Books l D r W' :=
  ⟨hk.same _ _ hl h.loop rfl, hk.same _ _ hD h.defs rfl⟩
theorem Books.grown {l D B : Nat} {r : Loop} {A A' : World} {row : Option Nat} (h : Books l D r A) (hl : l < B) (hD : D < B) (hg : A.grownBy A' row) (hr : ∀ k, row = some k → B ≤ k) : Books l D r A' := by
  have hlt := h.lt
  exact ⟨(hg.block l hlt.1 (fun e => by have := hr l e.symm; omega)).trans h.loop, (hg.block D hlt.2.1 (fun e => by have := hr D e.symm; omega)).trans h.defs⟩
theorem Books.put {l D : Nat} {r : Loop} {W : World} (h : Books l D r W) (r' : Loop) : Books l D r' (W.putObj l (.loop r')) :=
  ⟨World.putObj_heap_same h.lt.1, (World.putObj_heap_other (fun e => h.lt.2.2 e.symm)).trans h.defs⟩
/-- How the body of a round may be left: block r stays where the loop goes on. -/
def postF {α : Type} (B r : Nat) (o : Obj) (I : List α → World → Prop) (Ix : Code → List α → World → Prop) (xs : List α) (W : World) : Exit → Act → World → Prop
  | .normal, _, W' => KeepsFrom B W W' ∧ I xs W' ∧ W'.heap[r]? = some o
  | .ret, _, W' => KeepsFrom B W W' ∧ Ix .ret xs W'
  | .exit id, _, W' => KeepsFrom B W W' ∧ Ix (.exit id) xs W'
  | .goto t, _, W' => KeepsFrom B W W' ∧ Ix (.goto t) xs W'
  | .panic _, _, _ => False
  | .outgrown, _, _ => False
theorem putObj_apart {W : World} {l r : Nat} {o : Obj} {q : Loop} (hr : W.heap[r]? = some o) (ho : o.isCells = true) (hl : W.heap[l]? = some (.loop q)) (o' : Obj) : (W.putObj l o').heap[r]? = some o :=
  (World.putObj_heap_other (fun e => by rw [e, hl] at hr; cases hr; cases ho)).trans hr
section
variable {α : Type} {F : Fence} {n : Nat} {P : Program} {assign body : Code} {w0 W1 : World} {gf : Nat} {lb : Array Value} {encs : α → Array Value} {Hd : World → Prop} {Fx : List α → α → World → Prop} {S Sp : List α → Prop}
/-- The iterator called with the loop's yield. -/
theorem range_runs {fn : FuncId} {tmps : Array Value} {ps : Array Tmp} {B l D : Nat} (hfn : F.fn fn) (hseq : SeqF F (n - 1) P gf lb encs Hd Fx S Sp w0) (hb : Below w0.heap.size w0 W1) (hps : ∀ x, (encs x).size = ps.size)
    (hBl : B ≤ l) (hBD : B ≤ D) (hbk : Books l D { state := .ready, pending := none, fn, tmps, params := ps, assign, body, defers := D } W1) (_hBw : B ≤ W1.heap.size)
    (I : List α → World → Prop) (Ix : Code → List α → World → Prop) (hI : OwnFrom B I) (hIx : ∀ c, OwnFrom B (Ix c)) (h0 : I [] W1) (hH : ∀ pre W, I pre W → Hd W)
    (Ax : List α → α → Nat → Act → World → Prop) (hAx : ∀ pre x r a', OwnFrom B (fun (_ : Unit) W => Ax pre x r a' W))
    (hassign : ∀ (pre : List α) (x : α) (W : World) (o : Obj) (K : Act → World → Prop), I pre W → Fx pre x W → o.isCells = true → (∀ a' W', KeepsFrom B (W.alloc o) W' → I pre W' → Ax pre x W.heap.size a' W' → W'.heap[W.heap.size]? = some o → K a' W') →
      assign.wpIn (F.inRound l) (n - 1 - 1) P (Exit.then K (fun _ _ _ => False)) { tmps := (ps.zip (encs x)).foldl (fun t (p, v) => t.setIfInBounds p v) tmps, defers := [] } (W.alloc o))
    (hbody : ∀ (pre : List α) (x : α) (r : Nat) (o : Obj) (a' : Act) (W : World), (∃ q, W.heap[l]? = some (.loop q)) → I pre W → Ax pre x r a' W → W.heap[r]? = some o → o.isCells = true → body.wpIn (F.inRound l) (n - 1 - 1) P (postF B r o I Ix (pre ++ [x]) W) a' W)
    (R : Ending → World → Prop)
    (hdone : ∀ (xs : List α) (W : World) (v : Value), S xs → I xs W → Books l D { state := .ready, pending := none, fn, tmps, params := ps, assign, body, defers := D } W → R (.returned v) W)
    (hstop : ∀ (c : Code) (pre : List α) (W : World) (v : Value), Sp pre → Ix c pre W → Books l D { state := .done, pending := some c, fn, tmps, params := ps, assign, body, defers := D } W → R (.returned v) W) :
    CallsIn F (n - 1) P gf (#[.func (.yield l) #[] #[]] ++ lb) W1 R := by
  have hlt := hbk.lt
  have hup : ∀ {A A' : World} {row : Option Nat}, (∀ r, row = some r → W1.heap.size ≤ r ∧ ∃ o : Obj, A.heap[r]? = some o ∧ o.isWalk = true) → (∀ r, row = some r → B ≤ r ∧ ∃ o : Obj, A.heap[r]? = some o ∧ o.isCells = false) :=
    fun h r e => by obtain ⟨h1, o, h2, h3⟩ := h r e; exact ⟨by omega, o, h2, Obj.not_cells_of_walk h3⟩
  refine (hseq l (fun pre W => I pre W ∧ Books l D { state := .ready, pending := none, fn, tmps, params := ps, assign, body, defers := D } W)
    (fun pre W => ∃ c, Ix c pre W ∧ Books l D { state := .done, pending := some c, fn, tmps, params := ps, assign, body, defers := D } W) W1 hb
    (fun s A A' row h hg hr => ⟨hI s A A' row h.1 hg (hup (A' := A') hr), h.2.grown (B := W1.heap.size) hlt.1 hlt.2.1 hg (fun k e => (hr k e).1)⟩)
    (fun s A A' row h hg hr => by
      obtain ⟨c, h1, h2⟩ := h
      exact ⟨c, hIx c s A A' row h1 hg (hup (A' := A') hr), h2.grown (B := W1.heap.size) hlt.1 hlt.2.1 hg (fun k e => (hr k e).1)⟩)
    (fun pre W h => hH pre W h.1) ?_ ⟨h0, hbk⟩).mono ?_
  · rintro pre x W o ⟨hi, hk⟩ hf ho
    have hka0 : Books l D { state := .ready, pending := none, fn, tmps, params := ps, assign, body, defers := D } (W.alloc o) := hk.kept hBl hBD ((KeepsOthers.alloc W o).from B)
    refine ⟨_, _, _, _, run_yield hka0.loop (hps x), roundIn_of_wpIn hfn (hassign pre x W o _ hi hf ho ?_)⟩
    intro a' Wa hka hia hxa hoa
    have hk1 := hka0.kept hBl hBD hka
    have hk2 := hk1.put { state := .busy, pending := none, fn, tmps, params := ps, assign, body, defers := D }
    refine ⟨_, run_beginRound hk1.loop rfl, wpIn_mono (hbody pre x W.heap.size o a' _ ⟨_, hk2.loop⟩ (hI.putObj _ hia hBl hk1.loop rfl) ((hAx pre x _ a').putObj (s := ()) _ hxa hBl hk1.loop rfl) (putObj_apart hoa ho hk1.loop _) ho) ?_⟩
    intro e a3 W3 hp
    have key : ∀ jump : Option Code, KeepsFrom B (Wa.putObj l (.loop { state := .busy, pending := none, fn, tmps, params := ps, assign, body, defers := D })) W3 →
        (Instr.endRound l jump).run P W3 = .ok (.bool jump.isNone) (W3.putObj l (.loop { state := if jump.isNone then .ready else .done, pending := jump, fn, tmps, params := ps, assign, body, defers := D })) ∧ Books l D { state := .busy, pending := none, fn, tmps, params := ps, assign, body, defers := D } W3 := fun jump hkf => by
      have hk3 := hk2.kept hBl hBD hkf
      exact ⟨run_endRound jump hk3.loop, hk3⟩
    have leave : ∀ c : Code, KeepsFrom B (Wa.putObj l (.loop { state := .busy, pending := none, fn, tmps, params := ps, assign, body, defers := D })) W3 → Ix c (pre ++ [x]) W3 →
        ∃ v w', (Instr.endRound l (some c)).run P W3 = .ok v w' ∧ ((Ending.returned v = .returned (.bool true) ∧ (I (pre ++ [x]) w' ∧ Books l D { state := .ready, pending := none, fn, tmps, params := ps, assign, body, defers := D } w') ∧ w'.heap[W.heap.size]? = some o) ∨
          (Ending.returned v = .returned (.bool false) ∧ ∃ c, Ix c (pre ++ [x]) w' ∧ Books l D { state := .done, pending := some c, fn, tmps, params := ps, assign, body, defers := D } w')) := fun c hkf hx => by
      obtain ⟨hr, hk3⟩ := key (some c) hkf
      exact ⟨_, _, hr, .inr ⟨rfl, c, (hIx c).putObj _ hx hBl hk3.loop rfl, hk3.put _⟩⟩
    cases e with
    | normal =>
      obtain ⟨hkf, hi3, ho3⟩ := hp
      obtain ⟨hr, hk3⟩ := key none hkf
      exact ⟨_, _, hr, .inl ⟨rfl, ⟨hI.putObj _ hi3 hBl hk3.loop rfl, hk3.put _⟩, putObj_apart ho3 ho hk3.loop _⟩⟩
    | ret => exact leave .ret hp.1 hp.2
    | exit id => exact leave (.exit id) hp.1 hp.2
    | goto t => exact leave (.goto t) hp.1 hp.2
    | panic ch => exact hp.elim
    | outgrown => exact hp.elim
  · rintro e W2 ⟨⟨v, rfl⟩, ⟨xs, hS, hi, hk⟩ | ⟨pre, hSp, c, hi, hk⟩⟩
    · exact hdone xs W2 v hS hi hk
    · exact hstop c pre W2 v hSp hi hk
end
/-- An outermost range over a function. -/
theorem wpIn_rangeF {α : Type} {F : Fence} {n : Nat} {P : Program} {g : Operand} {ps : Array Tmp} {assign body : Code} {Q : Exit → Act → World → Prop} {a : Act} {w w0 : World}
    (hro : F.round = none) (h1 : 1 ≤ n) {gf : Nat} {lb : Array Value} (hg : a.eval g = .func (.func gf) #[] lb) (hFg : F.fn gf) (eg : ∀ args w, (callFunc gf args).run P w = .ok (.enter gf args) w)
    {encs : α → Array Value} {Hd : World → Prop} {Fx : List α → α → World → Prop} {S Sp : List α → Prop} (hseq : SeqF F (n - 1) P gf lb encs Hd Fx S Sp w0) (hb : Below w0.heap.size w0 w) (hps : ∀ x, (encs x).size = ps.size)
    (I : List α → World → Prop) (Ix : Code → List α → World → Prop) (hI : OwnFrom w.heap.size I) (hIx : ∀ c, OwnFrom w.heap.size (Ix c)) (h0 : I [] w) (hH : ∀ pre W, I pre W → Hd W)
    (Ax : List α → α → Nat → Act → World → Prop) (hAx : ∀ pre x r a', OwnFrom w.heap.size (fun (_ : Unit) W => Ax pre x r a' W))
    (hassign : ∀ (l : Nat) (pre : List α) (x : α) (W : World) (o : Obj) (K : Act → World → Prop), I pre W → Fx pre x W → o.isCells = true → (∀ a' W', KeepsFrom w.heap.size (W.alloc o) W' → I pre W' → Ax pre x W.heap.size a' W' → W'.heap[W.heap.size]? = some o → K a' W') →
      assign.wpIn (F.inRound l) (n - 1 - 1) P (Exit.then K (fun _ _ _ => False)) { tmps := (ps.zip (encs x)).foldl (fun t (p, v) => t.setIfInBounds p v) a.tmps, defers := [] } (W.alloc o))
    (hbody : ∀ (l : Nat) (pre : List α) (x : α) (r : Nat) (o : Obj) (a' : Act) (W : World), w.heap.size ≤ l → (∃ q, W.heap[l]? = some (.loop q)) → I pre W → Ax pre x r a' W → W.heap[r]? = some o → o.isCells = true → body.wpIn (F.inRound l) (n - 1 - 1) P (postF w.heap.size r o I Ix (pre ++ [x]) W) a' W)
    (hdone : ∀ (D : Nat) (xs : List α) (W : World), w.heap.size ≤ D → S xs → I xs W → W.heap[D]? = some (.deferred (some [])) → Q .normal { a with defers := { target := .collected D, args := #[] } :: a.defers } W)
    (hstop : ∀ (D : Nat) (c : Code) (pre : List α) (W : World), w.heap.size ≤ D → Sp pre → Ix c pre W → W.heap[D]? = some (.deferred (some [])) → c.wpIn F n P Q { a with defers := { target := .collected D, args := #[] } :: a.defers } W) :
    (Code.rangeFunc g ps assign body).wpIn F n P Q a w := by
  refine wpIn_rangeFunc fun fn hfn => ?_
  rw [hro]
  have hnew : Books (w.heap.size + 1) w.heap.size { state := .ready, pending := none, fn, tmps := a.tmps, params := ps, assign, body, defers := w.heap.size } ((w.alloc (.deferred (some []))).alloc (.loop { state := .ready, pending := none, fn, tmps := a.tmps, params := ps, assign, body, defers := w.heap.size })) :=
    ⟨by have := World.alloc_heap_new (w.alloc (.deferred (some []))) (.loop { state := .ready, pending := none, fn, tmps := a.tmps, params := ps, assign, body, defers := w.heap.size }); rwa [World.size_alloc] at this,
      (Below.heap_alloc _ _ _ (by simp)).trans (World.alloc_heap_new w _)⟩
  have he : (Instr.enterLoop fn a.tmps ps assign body none).run P w = .ok (w.heap.size + 1, [{ target := .collected w.heap.size, args := #[] }]) ((w.alloc (.deferred (some []))).alloc (.loop { state := .ready, pending := none, fn, tmps := a.tmps, params := ps, assign, body, defers := w.heap.size })) := run_enterLoop_outer _ _ _ _ _
  have hb1 : Below w0.heap.size w0 ((w.alloc (.deferred (some []))).alloc (.loop { state := .ready, pending := none, fn, tmps := a.tmps, params := ps, assign, body, defers := w.heap.size })) := hb.trans ((((Below.refl _ w).alloc (Nat.le_refl _) _).alloc (by simp) _).mono hb.size)
  have hI1 : I [] ((w.alloc (.deferred (some []))).alloc (.loop { state := .ready, pending := none, fn, tmps := a.tmps, params := ps, assign, body, defers := w.heap.size })) := hI.alloc _ (hI.alloc _ h0)
  have hz : w.heap.size ≤ ((w.alloc (.deferred (some []))).alloc (.loop { state := .ready, pending := none, fn, tmps := a.tmps, params := ps, assign, body, defers := w.heap.size })).heap.size := by simp; omega
  generalize ((w.alloc (.deferred (some []))).alloc (.loop { state := .ready, pending := none, fn, tmps := a.tmps, params := ps, assign, body, defers := w.heap.size })) = W1 at hnew he hb1 hI1 hz
  refine ⟨_, _, W1, { target := .fn (.func gf) lb, args := #[.func (.yield (w.heap.size + 1)) #[] #[]] }, W1, gf, #[.func (.yield (w.heap.size + 1)) #[] #[]] ++ lb, W1, he, ?_, ?_, ?_, fun _ => h1, ?_⟩
  · simp only [resolve, hg]
    simp [go_sem]
  · intro f' hf'
    simp [Target.leads] at hf'
    subst hf'
    exact hFg
  · simp [invoke, go_sem, eg]
  refine range_runs (B := w.heap.size) (D := w.heap.size) hfn hseq hb1 hps (by omega) (Nat.le_refl _) hnew hz I Ix hI hIx hI1 hH Ax hAx
    (hassign _) (fun pre x r o a' W hl => hbody _ pre x r o a' W (by omega) hl) _ ?_ ?_
  · intro xs W v hS hi hk
    exact ⟨none, _, run_endLoop hk.loop (by simp), hdone _ xs _ (Nat.le_refl _) hS (hI.putObj _ hi (by omega) hk.loop rfl) (hk.put _).defs⟩
  · intro c pre W v hSp hi hk
    exact ⟨some c, _, run_endLoop hk.loop (by simp), hstop _ c pre _ (Nat.le_refl _) hSp ((hIx c).putObj _ hi (by omega) hk.loop rfl) (hk.put _).defs⟩
end Go.Vk
