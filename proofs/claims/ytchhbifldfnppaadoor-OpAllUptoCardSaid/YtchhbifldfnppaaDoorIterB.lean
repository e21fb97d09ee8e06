/- op.ByName returns the row of that name, and whether there is one, for every name. -/
import Derived.Test.YtchhbifldfnppaaDoorIterA
namespace Go.Proofs.YtchhbifldfnppaaDoor
open Go.RowKit Vouch Go.Vk Go.Shelf
attribute [local go_sem] Oper.semAt_some
def byName (nm : ByteArray) : Option OpRow := allOps.find? fun r => r.name.toList == nm.toList
theorem blk_kept {B : Nat} {W W' : World} {row : Option Nat} {b t : Nat} {cs : Array Value} (h : W.heap[b]? = some (.cells cs t (0, 0))) (hg : W.grownBy W' row)
    (hr : ∀ r, row = some r → B ≤ r ∧ ∃ o : Obj, W.heap[r]? = some o ∧ o.isCells = false) : W'.heap[b]? = some (.cells cs t (0, 0)) := by
  refine (hg.block b (Array.getElem?_eq_some_iff.1 h).1 ?_).trans h
  intro e
  obtain ⟨_, o, ho, hc⟩ := hr b e.symm
  rw [h] at ho
  cases ho
  cases hc
theorem below_kept {B : Nat} {w W W' : World} {row : Option Nat} (h : Below w.heap.size w W) (hB : w.heap.size ≤ B) (hg : W.grownBy W' row)
    (hr : ∀ r, row = some r → B ≤ r ∧ ∃ o : Obj, W.heap[r]? = some o ∧ o.isCells = false) : Below w.heap.size w W' :=
  h.grown hg h.size (fun k e => by have := (hr k e).1; omega)
theorem keeps_setRow {W : World} {g t : Nat} {cs vs : Array Value} {fr : Nat × Nat} (h : W.heap[g]? = some (.cells cs t fr)) : KeepsOthers W (W.setRow g vs) :=
  ⟨by simp, fun k o hk ho => by
    by_cases e : k = g
    · subst e; rw [h] at hk; cases hk; cases ho
    · exact (heap_setRow W g k vs e).trans hk⟩
theorem results_row_cell {P : Program} {fn : Func} {p u : Tmp} {ty ty2 : TypeId} (h : fn.results = #[.cell p ty, .cell u ty2]) (tmps : Array Value) (w : World) (g : Nat) (t : TypeId) (cs : Array Value) (fr : Nat × Nat) (d : TypeDesc)
    (hp : tmps.getD p undef = .pointer (some ⟨g, 0, none⟩)) (hg : w.heap[g]? = some (.cells cs t fr))
    (hu : P.underlying ty = some d) (hd : (match d with | .struct _ | .array _ _ => true | _ => false) = true) (hi : (P.info? ty).map (·.size) = some cs.size)
    (g2 : Nat) (v : Value) (hp2 : tmps.getD u undef = .pointer (some ⟨g2, 0, none⟩)) (hv : (loadVar ty2 ⟨g2, 0, none⟩).run P w = .ok v w) :
    (results fn tmps).run P w = .ok (.tuple #[.agg cs, v]) w := by
  have hp' : tmps[p]?.getD undef = .pointer (some ⟨g, 0, none⟩) := by simpa using hp
  have hp2' : tmps[u]?.getD undef = .pointer (some ⟨g2, 0, none⟩) := by simpa using hp2
  simp [results, h, hp', hp2', asAddr, run_loadVar_row w g t ty cs fr d hg hu hd hi, hv, Sem.run_bind]
theorem byname_end {W : World} {n : Nat} {r : OpRow} {b : Bool} {tmps : Array Value} (h2 : tmps.getD 2 undef = .pointer (some ⟨n + 1, 0, none⟩)) (h3 : tmps.getD 3 undef = .pointer (some ⟨n + 1 + 1, 0, none⟩))
    (hA : W.heap[n + 1]? = some (.cells (rowC r) 24)) (hB : W.heap[n + 1 + 1]? = some (.cells #[.bool b] 4)) :
    (results Tryd.f15 tmps).run Tryd.prog W = .ok (.tuple #[.agg (rowC r), .bool b]) W := by
  have hc : W.cell? ⟨n + 1 + 1, 0, none⟩ = some (.bool b) := by simp [World.cell?, hB]
  exact results_row_cell rfl _ _ _ _ _ _ _ h2 hA Tryd.underlying24 rfl (by kernel_rfl) _ _ h3 (by simp [loadVar, go_sem, hc])
theorem all_val (w : World) : Calls Tryd.prog 13 #[] w fun e w' => e = .returned (.func (.func 24) #[] #[]) ∧ w = w' := by
  go_enter Tryd.func13, Tryd.ntmps13
  go_wp2
  go_ret
  exact ⟨rfl, rfl⟩
set_option maxHeartbeats 2000000 in
set_option maxRecDepth 100000 in
theorem byname_any (nm : ByteArray) (w : World) (hne : nm.toList.isEmpty = false) :
    Calls Tryd.prog 15 #[.string nm] w fun e w' => e = .returned (.tuple #[.agg (rowC ((byName nm).getD zeroR)), .bool (byName nm).isSome]) ∧ Below w.heap.size w w' := by
  refine (callsIn_wide (n := 4)).1 ?_
  refine callsIn_of_wp_marks Tryd.func15 rfl trivial ?_ rfl
  simp only [Tryd.ntmps15, List.size_toArray, List.length_cons, List.length_nil, Nat.reduceAdd, Nat.reduceSub, Array.replicate_succ, Array.replicate_zero, List.push_toArray, List.append_toArray, List.nil_append, List.cons_append]
  gi_wp2_with (refine ⟨trivial, ?_⟩; gi_at_call 13; refine (callsIn_wide.2 (all_val _)).mono ?_; rintro e w' ⟨rfl, rfl⟩)
  have b3 : (((w.alloc (.cells #[.string nm] 9)).alloc (.cells (rowC zeroR) 24)).alloc (.cells #[.bool false] 4)).heap[w.heap.size + 1 + 1]? = some (.cells #[.bool false] 4) := by
    have := heap_alloc_new ((w.alloc (.cells #[.string nm] 9)).alloc (.cells (rowC zeroR) 24)) (.cells #[.bool false] 4)
    simpa using this
  have b2 : (((w.alloc (.cells #[.string nm] 9)).alloc (.cells (rowC zeroR) 24)).alloc (.cells #[.bool false] 4)).heap[w.heap.size + 1]? = some (.cells (rowC zeroR) 24) := by
    rw [Below.heap_alloc _ _ _ (by simp)]
    have := heap_alloc_new (w.alloc (.cells #[.string nm] 9)) (.cells (rowC zeroR) 24)
    simpa using this
  have b1 : (((w.alloc (.cells #[.string nm] 9)).alloc (.cells (rowC zeroR) 24)).alloc (.cells #[.bool false] 4)).heap[w.heap.size]? = some (.cells #[.string nm] 9) := by
    rw [Below.heap_alloc _ _ _ (by simp; omega), Below.heap_alloc _ _ _ (by simp)]
    exact heap_alloc_new _ _
  have hB0 : Below w.heap.size w (((w.alloc (.cells #[.string nm] 9)).alloc (.cells (rowC zeroR) 24)).alloc (.cells #[.bool false] 4)) := (((Below.refl _ _).alloc (Nat.le_refl _) _).alloc (by simp) _).alloc (by simp; omega) _
  unfold rowC zeroR at b1 b2 b3 hB0
  dsimp only at b1 b2 b3 hB0
  generalize (((w.alloc (.cells #[.string nm] 9)).alloc (.cells #[.int .i64 0, .string ⟨#[]⟩, .int .i64 0, .int .i64 0, .int .i64 0, .int .i64 0, .bool false] 24)).alloc (.cells #[.bool false] 4)) = W0 at b1 b2 b3 hB0 ⊢
  have hsz : w.heap.size + 1 + 1 < W0.heap.size := (Array.getElem?_eq_some_iff.1 b3).1
  refine wpIn_rangeFunc_ownH rfl (by omega) (gf := 24) (lb := #[]) rfl trivial (enters_of Tryd.func24 (by kernel_rfl) rfl) (all_stops (fun _ _ => True) W0) (fun _ _ => trivial) (fun _ _ _ _ _ _ _ _ => trivial) (Below.refl _ _) (fun _ => rfl)
    (fun pre W => W.heap[w.heap.size]? = some (.cells #[.string nm] 9) ∧ W.heap[w.heap.size + 1]? = some (.cells (rowC zeroR) 24) ∧ W.heap[w.heap.size + 1 + 1]? = some (.cells #[.bool false] 4) ∧ (∀ r ∈ pre, (r.name.toList == nm.toList) = false) ∧ Below w.heap.size w W)
    (fun c pre W => c = .ret ∧ (∃ p r, pre = p ++ [r] ∧ (∀ x ∈ p, (x.name.toList == nm.toList) = false) ∧ (r.name.toList == nm.toList) = true ∧ W.heap[w.heap.size + 1]? = some (.cells (rowC r) 24) ∧ W.heap[w.heap.size + 1 + 1]? = some (.cells #[.bool true] 4)) ∧ Below w.heap.size w W)
    (fun s W W' row hs hg hr => ⟨blk_kept hs.1 hg hr, blk_kept hs.2.1 hg hr, blk_kept hs.2.2.1 hg hr, hs.2.2.2.1, below_kept hs.2.2.2.2 (by omega) hg hr⟩)
    (fun c s W W' row hs hg hr => by
      obtain ⟨h1, ⟨p, r, h2, h3, h4, h5, h6⟩, h7⟩ := hs
      exact ⟨h1, ⟨p, r, h2, h3, h4, blk_kept h5 hg hr, blk_kept h6 hg hr⟩, below_kept h7 (by omega) hg hr⟩)
    ⟨b1, b2, b3, fun _ h => by simp at h, hB0⟩
    (fun x a' W => ∃ Bx, w.heap.size + 1 + 1 < Bx ∧ W.heap[Bx]? = some (.cells (rowC x) 24) ∧ a' = { tmps := #[.string nm, .pointer (some ⟨w.heap.size, 0, none⟩), .pointer (some ⟨w.heap.size + 1, 0, none⟩), .pointer (some ⟨w.heap.size + 1 + 1, 0, none⟩), .pointer (some ⟨Bx, 0, none⟩), .string nm, .bool false, undef, .func (.func 24) #[] #[], .agg (rowC x), undef, undef, undef, undef, undef, undef], defers := [] })
    (fun x a' _ W W' row hs hg hr => by
      obtain ⟨Bx, h1, h2, h3⟩ := hs
      exact ⟨Bx, h1, blk_kept h2 hg hr, h3⟩) ?assign ?body ?done ?stop
  case assign =>
    rintro l pre x W K hi hK
    unfold rowC
    gi_wp2
    have hlt : w.heap.size + 1 + 1 < W.heap.size := (Array.getElem?_eq_some_iff.1 hi.2.2.1).1
    exact hK _ _ ((KeepsOthers.alloc _ _).from _) trivial ⟨(Below.heap_alloc _ _ _ (by omega)).trans hi.1, (Below.heap_alloc _ _ _ (by omega)).trans hi.2.1, (Below.heap_alloc _ _ _ (by omega)).trans hi.2.2.1, hi.2.2.2.1, hi.2.2.2.2.alloc hi.2.2.2.2.size _⟩ ⟨W.heap.size, hlt, heap_alloc_new _ _, rfl⟩
  case body =>
    rintro l pre x a' W hl ⟨r, hr⟩ ⟨h1, h2, h3, hpre, hB⟩ ⟨Bx, hbx, hx, rfl⟩ hlt
    have c1 : W.cell? ⟨w.heap.size, 0, none⟩ = some (.string nm) := by simp [World.cell?, h1]
    have c3 : W.cell? ⟨w.heap.size + 1 + 1, 0, none⟩ = some (.bool false) := by simp [World.cell?, h3]
    have f3 : W.frozen? ⟨w.heap.size + 1 + 1, 0, none⟩ = false := by simp [World.frozen?, h3]
    obtain ⟨p0, p1, p2, p3, p4, p5, p6, pz, pl⟩ := cells7 h2
    obtain ⟨q0, q1, q2, q3, q4, q5, q6, qz, ql⟩ := cells7 hx
    cases e : x.name.toList == nm.toList with
    | true =>
      gi_wp2
      rw [set7_eq h2]
      have h3' : Boxed (W.setRow (w.heap.size + 1) (rowC x)) (w.heap.size + 1 + 1) 4 (.bool false) := (heap_setRow _ _ _ _ (by omega)).trans h3
      exact ⟨((keeps_setRow h2).trans (KeepsOthers.setCell _ _ _)).from _, rfl, ⟨pre, x, rfl, hpre, e, (Below.heap_setCell _ _ _ _ (by simp)).trans (setRow_heap _ _ _ _ _ _ h2), h3'.set _⟩, (below_setRow hB (by omega) _).setCell (by simp; omega) _⟩
    | false =>
      gi_wp2
      refine ⟨KeepsFrom.refl _ _, trivial, h1, h2, h3, fun r hr => ?_, hB⟩
      rcases List.mem_append.1 hr with hr | hr
      · exact hpre r hr
      · rw [List.mem_singleton.1 hr]; exact e
  case done =>
    rintro D ys W hD rfl ⟨h1, h2, h3, hpre, hB⟩ hK
    have hfn : byName nm = none := by unfold byName; rw [List.find?_eq_none]; intro r hr; simp [hpre r hr]
    have HF := Lib.hid hfn
    clear hfn hpre
    have c3 : W.cell? ⟨w.heap.size + 1 + 1, 0, none⟩ = some (.bool false) := by simp [World.cell?, h3]
    have f3 : W.frozen? ⟨w.heap.size + 1 + 1, 0, none⟩ = false := by simp [World.frozen?, h3]
    obtain ⟨p0, p1, p2, p3, p4, p5, p6, pz, pl⟩ := cells7 h2
    gi_wp2
    rw [set7_eq h2]
    have h3' : Boxed (W.setRow (w.heap.size + 1) (rowC zeroR)) (w.heap.size + 1 + 1) 4 (.bool false) := (heap_setRow _ _ _ _ (by omega)).trans h3
    have hK' := ((keeps_setRow (vs := rowC zeroR) h2).trans (KeepsOthers.setCell _ ⟨w.heap.size + 1 + 1, 0, none⟩ (.bool false))).same D _ hK rfl
    refine ⟨by simp, .inl ⟨_, _, rfl, run_takeDeferred hK', ?_⟩⟩
    refine ⟨_, byname_end rfl rfl (r := zeroR) (b := false) (blk_kept (B := W0.heap.size) ((Below.heap_setCell _ _ _ _ (by simp)).trans (setRow_heap _ _ _ _ _ _ h2)) (grownBy_putObj' _ D (.deferred none)) (fun r e => by cases e; exact ⟨hD, _, hK', rfl⟩)) (blk_kept (B := W0.heap.size) (h3'.set _) (grownBy_putObj' _ D (.deferred none)) (fun r e => by cases e; exact ⟨hD, _, hK', rfl⟩)), ?_, ?_⟩
    · rw [HF.out]; rfl
    · exact below_kept (B := W0.heap.size) ((below_setRow hB (by omega) _).setCell (by simp; omega) _) (by omega) (grownBy_putObj' _ D (.deferred none)) (fun r e => by cases e; exact ⟨hD, _, hK', rfl⟩)
  case stop =>
    rintro D c pre W hD hpre ⟨rfl, ⟨p, r, rfl, h3, h4, h5, h6⟩, hB⟩ hK
    gi_wp2
    refine ⟨by simp, .inl ⟨_, _, rfl, run_takeDeferred hK, ?_⟩⟩
    refine ⟨_, byname_end rfl rfl (r := r) (b := true) (blk_kept (B := W0.heap.size) h5 (grownBy_putObj' _ D (.deferred none)) (fun r e => by cases e; exact ⟨hD, _, hK, rfl⟩)) (blk_kept (B := W0.heap.size) h6 (grownBy_putObj' _ D (.deferred none)) (fun r e => by cases e; exact ⟨hD, _, hK, rfl⟩)), ?_, ?_⟩
    · have hfn : byName nm = some r := by
        unfold byName
        obtain ⟨q, hq⟩ := hpre
        rw [← hq, List.find?_append, List.find?_append, List.find?_eq_none.2 (fun x hx => by simp [h3 x hx])]
        simp [h4]
      rw [hfn]; rfl
    · exact below_kept (B := W0.heap.size) hB (by omega) (grownBy_putObj' _ D (.deferred none)) (fun r e => by cases e; exact ⟨hD, _, hK, rfl⟩)
end Go.Proofs.YtchhbifldfnppaaDoor
