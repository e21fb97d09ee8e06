/- A range over a function inside a round (SeqF): the law for an inner loop. Over any program. -/
import Derived.Test.YthjnjdpiihpgeaaDoorRangeF
namespace Go.Vk
open Go.RowKit
/-- The record of a loop. -/
def Book1 (l : Nat) (r : Loop) (W : World) : Prop := W.heap[l]? = some (.loop r)
theorem Book1.loop {l : Nat} {r : Loop} {W : World} (h : Book1 l r W) : W.heap[l]? = some (.loop r) := h
theorem Book1.lt1 {l : Nat} {r : Loop} {W : World} (h : Book1 l r W) : l < W.heap.size := (Array.getElem?_eq_some_iff.1 h.loop).1
theorem Book1.kept1 {l B : Nat} {r : Loop} {W W' : World} (h : Book1 l r W) (hl : B ≤ l) (hk : KeepsFrom B W W') : Book1 l r W' := hk.same _ _ hl h.loop rfl
theorem Book1.grown1 {l B : Nat} {r : Loop} {A A' : World} {row : Option Nat} (h : Book1 l r A) (hl : l < B) (hg : A.grownBy A' row) (hr : ∀ k, row = some k → B ≤ k) : Book1 l r A' :=
  (hg.block l h.lt1 (fun e => by have := hr l e.symm; omega)).trans h.loop
theorem Book1.put1 {l : Nat} {r : Loop} {W : World} (h : Book1 l r W) (r' : Loop) : Book1 l r' (W.putObj l (.loop r')) := World.putObj_heap_same h.lt1
section
variable {α : Type} {F : Fence} {n : Nat} {P : Program} {assign body : Code} {w0 W1 : World} {gf : Nat} {lb : Array Value} {encs : α → Array Value} {Hd : World → Prop} {Fx : List α → α → World → Prop} {S Sp : List α → Prop}
/-- The iterator called with the loop's yield: a range inside a round (its defers are the outer loop's). -/
theorem range_runs1 {fn : FuncId} {tmps : Array Value} {ps : Array Tmp} {B l D : Nat} (hfn : F.fn fn) (hseq : SeqF F (n - 1) P gf lb encs Hd Fx S Sp w0) (hb : Below w0.heap.size w0 W1) (hps : ∀ x, (encs x).size = ps.size)
    (hBl : B ≤ l) (hbk : Book1 l { state := .ready, pending := none, fn, tmps, params := ps, assign, body, defers := D } W1) (_hBw : B ≤ W1.heap.size)
    (I : List α → World → Prop) (Ix : Code → List α → World → Prop) (hI : OwnFrom B I) (hIx : ∀ c, OwnFrom B (Ix c)) (h0 : I [] W1) (hH : ∀ pre W, I pre W → Hd W)
    (Ax : List α → α → Nat → Act → World → Prop) (hAx : ∀ pre x r a', OwnFrom B (fun (_ : Unit) W => Ax pre x r a' W))
    (hassign : ∀ (pre : List α) (x : α) (W : World) (o : Obj) (K : Act → World → Prop), I pre W → Fx pre x W → o.isCells = true → (∀ a' W', KeepsFrom B (W.alloc o) W' → I pre W' → Ax pre x W.heap.size a' W' → W'.heap[W.heap.size]? = some o → K a' W') →
      assign.wpIn (F.inRound l) (n - 1 - 1) P (Exit.then K (fun _ _ _ => False)) { tmps := (ps.zip (encs x)).foldl (fun t (p, v) => t.setIfInBounds p v) tmps, defers := [] } (W.alloc o))
    (hbody : ∀ (pre : List α) (x : α) (r : Nat) (o : Obj) (a' : Act) (W : World), (∃ q, W.heap[l]? = some (.loop q)) → I pre W → Ax pre x r a' W → W.heap[r]? = some o → o.isCells = true → body.wpIn (F.inRound l) (n - 1 - 1) P (postF B r o I Ix (pre ++ [x]) W) a' W)
    (R : Ending → World → Prop)
    (hdone : ∀ (xs : List α) (W : World) (v : Value), S xs → I xs W → Book1 l { state := .ready, pending := none, fn, tmps, params := ps, assign, body, defers := D } W → R (.returned v) W)
    (hstop : ∀ (c : Code) (pre : List α) (W : World) (v : Value), Sp pre → Ix c pre W → Book1 l { state := .done, pending := some c, fn, tmps, params := ps, assign, body, defers := D } W → R (.returned v) W) :
    CallsIn F (n - 1) P gf (#[.func (.yield l) #[] #[]] ++ lb) W1 R := by
  have hlt := hbk.lt1
  have hup : ∀ {A A' : World} {row : Option Nat}, (∀ r, row = some r → W1.heap.size ≤ r ∧ ∃ o : Obj, A.heap[r]? = some o ∧ o.isWalk = true) → (∀ r, row = some r → B ≤ r ∧ ∃ o : Obj, A.heap[r]? = some o ∧ o.isCells = false) :=
    fun h r e => by obtain ⟨h1, o, h2, h3⟩ := h r e; exact ⟨by omega, o, h2, Obj.not_cells_of_walk h3⟩
  refine (hseq l (fun pre W => I pre W ∧ Book1 l { state := .ready, pending := none, fn, tmps, params := ps, assign, body, defers := D } W)
    (fun pre W => ∃ c, Ix c pre W ∧ Book1 l { state := .done, pending := some c, fn, tmps, params := ps, assign, body, defers := D } W) W1 hb
    (fun s A A' row h hg hr => ⟨hI s A A' row h.1 hg (hup (A' := A') hr), h.2.grown1 (B := W1.heap.size) hlt hg (fun k e => (hr k e).1)⟩)
    (fun s A A' row h hg hr => by
      obtain ⟨c, h1, h2⟩ := h
      exact ⟨c, hIx c s A A' row h1 hg (hup (A' := A') hr), h2.grown1 (B := W1.heap.size) hlt hg (fun k e => (hr k e).1)⟩)
    (fun pre W h => hH pre W h.1) ?_ ⟨h0, hbk⟩).mono ?_
  · rintro pre x W o ⟨hi, hk⟩ hf ho
    have hka0 : Book1 l { state := .ready, pending := none, fn, tmps, params := ps, assign, body, defers := D } (W.alloc o) := hk.kept1 hBl ((KeepsOthers.alloc W o).from B)
    refine ⟨_, _, _, _, run_yield hka0.loop (hps x), roundIn_of_wpIn hfn (hassign pre x W o _ hi hf ho ?_)⟩
    intro a' Wa hka hia hxa hoa
    have hk1 := hka0.kept1 hBl hka
    have hk2 := hk1.put1 { state := .busy, pending := none, fn, tmps, params := ps, assign, body, defers := D }
    refine ⟨_, run_beginRound hk1.loop rfl, wpIn_mono (hbody pre x W.heap.size o a' _ ⟨_, hk2.loop⟩ (hI.putObj _ hia hBl hk1.loop rfl) ((hAx pre x _ a').putObj (s := ()) _ hxa hBl hk1.loop rfl) (putObj_apart hoa ho hk1.loop _) ho) ?_⟩
    intro e a3 W3 hp
    have key : ∀ jump : Option Code, KeepsFrom B (Wa.putObj l (.loop { state := .busy, pending := none, fn, tmps, params := ps, assign, body, defers := D })) W3 →
        (Instr.endRound l jump).run P W3 = .ok (.bool jump.isNone) (W3.putObj l (.loop { state := if jump.isNone then .ready else .done, pending := jump, fn, tmps, params := ps, assign, body, defers := D })) ∧ Book1 l { state := .busy, pending := none, fn, tmps, params := ps, assign, body, defers := D } W3 := fun jump hkf => by
      have hk3 := hk2.kept1 hBl hkf
      exact ⟨run_endRound jump hk3.loop, hk3⟩
    have leave : ∀ c : Code, KeepsFrom B (Wa.putObj l (.loop { state := .busy, pending := none, fn, tmps, params := ps, assign, body, defers := D })) W3 → Ix c (pre ++ [x]) W3 →
        ∃ v w', (Instr.endRound l (some c)).run P W3 = .ok v w' ∧ ((Ending.returned v = .returned (.bool true) ∧ (I (pre ++ [x]) w' ∧ Book1 l { state := .ready, pending := none, fn, tmps, params := ps, assign, body, defers := D } w') ∧ w'.heap[W.heap.size]? = some o) ∨
          (Ending.returned v = .returned (.bool false) ∧ ∃ c, Ix c (pre ++ [x]) w' ∧ Book1 l { state := .done, pending := some c, fn, tmps, params := ps, assign, body, defers := D } w')) := fun c hkf hx => by
      obtain ⟨hr, hk3⟩ := key (some c) hkf
      exact ⟨_, _, hr, .inr ⟨rfl, c, (hIx c).putObj _ hx hBl hk3.loop rfl, hk3.put1 _⟩⟩
    cases e with
    | normal =>
      obtain ⟨hkf, hi3, ho3⟩ := hp
      obtain ⟨hr, hk3⟩ := key none hkf
      exact ⟨_, _, hr, .inl ⟨rfl, ⟨hI.putObj _ hi3 hBl hk3.loop rfl, hk3.put1 _⟩, putObj_apart ho3 ho hk3.loop _⟩⟩
    | ret => exact leave .ret hp.1 hp.2
    | exit id => exact leave (.exit id) hp.1 hp.2
    | goto t => exact leave (.goto t) hp.1 hp.2
    | panic ch => exact hp.elim
    | outgrown => exact hp.elim
  · rintro e W2 ⟨⟨v, rfl⟩, ⟨xs, hS, hi, hk⟩ | ⟨pre, hSp, c, hi, hk⟩⟩
    · exact hdone xs W2 v hS hi hk
    · exact hstop c pre W2 v hSp hi hk
end
/-- A range over a function inside a round. -/
theorem wpIn_rangeF_inner {α : Type} {F : Fence} {n : Nat} {P : Program} {g : Operand} {ps : Array Tmp} {assign body : Code} {Q : Exit → Act → World → Prop} {a : Act} {w w0 : World} {l₀ : Nat} {r₀ : Loop}
    (hro : F.round = some l₀) (hl₀ : w.heap[l₀]? = some (.loop r₀)) (h1 : 1 ≤ n) {gf : Nat} {lb : Array Value} (hg : a.eval g = .func (.func gf) #[] lb) (hFg : F.fn gf) (eg : ∀ args w, (callFunc gf args).run P w = .ok (.enter gf args) w)
    {encs : α → Array Value} {Hd : World → Prop} {Fx : List α → α → World → Prop} {S Sp : List α → Prop} (hseq : SeqF F (n - 1) P gf lb encs Hd Fx S Sp w0) (hb : Below w0.heap.size w0 w) (hps : ∀ x, (encs x).size = ps.size)
    (I : List α → World → Prop) (Ix : Code → List α → World → Prop) (hI : OwnFrom w.heap.size I) (hIx : ∀ c, OwnFrom w.heap.size (Ix c)) (h0 : I [] w) (hH : ∀ pre W, I pre W → Hd W)
    (Ax : List α → α → Nat → Act → World → Prop) (hAx : ∀ pre x r a', OwnFrom w.heap.size (fun (_ : Unit) W => Ax pre x r a' W))
    (hassign : ∀ (l : Nat) (pre : List α) (x : α) (W : World) (o : Obj) (K : Act → World → Prop), I pre W → Fx pre x W → o.isCells = true → (∀ a' W', KeepsFrom w.heap.size (W.alloc o) W' → I pre W' → Ax pre x W.heap.size a' W' → W'.heap[W.heap.size]? = some o → K a' W') →
      assign.wpIn (F.inRound l) (n - 1 - 1) P (Exit.then K (fun _ _ _ => False)) { tmps := (ps.zip (encs x)).foldl (fun t (p, v) => t.setIfInBounds p v) a.tmps, defers := [] } (W.alloc o))
    (hbody : ∀ (l : Nat) (pre : List α) (x : α) (r : Nat) (o : Obj) (a' : Act) (W : World), w.heap.size ≤ l → (∃ q, W.heap[l]? = some (.loop q)) → I pre W → Ax pre x r a' W → W.heap[r]? = some o → o.isCells = true → body.wpIn (F.inRound l) (n - 1 - 1) P (postF w.heap.size r o I Ix (pre ++ [x]) W) a' W)
    (hdone : ∀ (xs : List α) (W : World), S xs → I xs W → Q .normal a W)
    (hstop : ∀ (c : Code) (pre : List α) (W : World), Sp pre → Ix c pre W → c.wpIn F n P Q a W) :
    (Code.rangeFunc g ps assign body).wpIn F n P Q a w := by
  refine wpIn_rangeFunc fun fn hfn => ?_
  rw [hro]
  have hnew : Book1 w.heap.size { state := .ready, pending := none, fn, tmps := a.tmps, params := ps, assign, body, defers := r₀.defers } (w.alloc (.loop { state := .ready, pending := none, fn, tmps := a.tmps, params := ps, assign, body, defers := r₀.defers })) := World.alloc_heap_new w _
  have he : (Instr.enterLoop fn a.tmps ps assign body (some l₀)).run P w = .ok (w.heap.size, []) (w.alloc (.loop { state := .ready, pending := none, fn, tmps := a.tmps, params := ps, assign, body, defers := r₀.defers })) := run_enterLoop_inner hl₀ _ _ _ _ _
  have hb1 : Below w0.heap.size w0 (w.alloc (.loop { state := .ready, pending := none, fn, tmps := a.tmps, params := ps, assign, body, defers := r₀.defers })) := hb.trans (((Below.refl _ w).alloc (Nat.le_refl _) _).mono hb.size)
  have hI1 : I [] (w.alloc (.loop { state := .ready, pending := none, fn, tmps := a.tmps, params := ps, assign, body, defers := r₀.defers })) := hI.alloc _ h0
  have hz : w.heap.size ≤ (w.alloc (.loop { state := .ready, pending := none, fn, tmps := a.tmps, params := ps, assign, body, defers := r₀.defers })).heap.size := by simp
  generalize (w.alloc (.loop { state := .ready, pending := none, fn, tmps := a.tmps, params := ps, assign, body, defers := r₀.defers })) = W1 at hnew he hb1 hI1 hz
  refine ⟨_, _, W1, { target := .fn (.func gf) lb, args := #[.func (.yield w.heap.size) #[] #[]] }, W1, gf, #[.func (.yield w.heap.size) #[] #[]] ++ lb, W1, he, ?_, ?_, ?_, fun _ => h1, ?_⟩
  · simp only [resolve, hg]
    simp [go_sem]
  · intro f' hf'
    simp [Target.leads] at hf'
    subst hf'
    exact hFg
  · simp [invoke, go_sem, eg]
  refine range_runs1 (B := w.heap.size) hfn hseq hb1 hps (Nat.le_refl _) hnew hz I Ix hI hIx hI1 hH Ax hAx
    (hassign _) (fun pre x r o a' W hl => hbody _ pre x r o a' W (Nat.le_refl _) hl) _ ?_ ?_
  · intro xs W v hS hi hk
    exact ⟨none, _, run_endLoop hk.loop (by simp), hdone xs _ hS (hI.putObj _ hi (Nat.le_refl _) hk.loop rfl)⟩
  · intro c pre W v hSp hx hk
    exact ⟨some c, _, run_endLoop hk.loop (by simp), hstop c pre _ hSp ((hIx c).putObj _ hx (Nat.le_refl _) hk.loop rfl)⟩
end Go.Vk
