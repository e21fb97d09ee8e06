/- vouchlaw4.OpAll returns true. -/
import Derived.Test.YtchhbifldfnppaaDoorRows4
import Derived.Test.YtchhbifldfnppaaDoorRefH
import Derived.Test.YtchhbifldfnppaaDoorOwnB
import Derived.Test.YtchhbifldfnppaaDoorRound
import Derived.RangeFuncNested
import Derived.Test.YtchhbifldfnppaaDoorIterF
import Derived.Sort.CutIn
import Derived.Laws.EntriesVeiled
namespace Go.Proofs.YtchhbifldfnppaaDoor
open Go.RowKit Vouch Go.Vk Go.Sort
attribute [local go_sem] Oper.semAt_some run_eql_fnil
theorem all_end {W : World} {g : Nat} {b : Bool} {tmps : Array Value} (h2 : tmps.getD 4 undef = .pointer (some ⟨g, 0, none⟩)) (hA : W.heap[g]? = some (.cells #[.bool b] 4 (0, 0))) :
    (results Tryd.f4 tmps).run Tryd.prog W = .ok (.bool b) W := by
  have hc : W.cell? ⟨g, 0, none⟩ = some (.bool b) := by simp [World.cell?, hA]
  have h2' : tmps[4]?.getD undef = .pointer (some ⟨g, 0, none⟩) := by simpa using h2
  simp [results, h2', asAddr, loadVar, go_sem, hc]
/-- The laws' ranges: one variable counts, all else below is as it was. -/
def LawInv (w W0 : World) (b : Nat) (k : Int) (W : World) : Prop :=
  Below w.heap.size w W ∧ W0.heap.size ≤ W.heap.size ∧ (∀ j, j < W0.heap.size → j ≠ b → W.heap[j]? = W0.heap[j]?) ∧ W.heap[b]? = some (.cells #[.int .i64 k] 3 (0, 0))
theorem law_kept {w W0 W W' : World} {b : Nat} {k : Int} {row : Option Nat} (hw : w.heap.size ≤ W0.heap.size) (h : LawInv w W0 b k W) (hg : W.grownBy W' row) (hr : ∀ r, row = some r → W0.heap.size ≤ r ∧ ∃ o : Obj, W.heap[r]? = some o ∧ o.isCells = false) : LawInv w W0 b k W' := by
  obtain ⟨h1, h2, h3, h4⟩ := h
  exact ⟨bel_stays h1 hw hg hr, Nat.le_trans h2 hg.size, fun j hj hb => (hg.block j (by omega) (fun e => by have := (hr j e.symm).1; omega)).trans (h3 j hj hb), blk_stays h4 hg hr⟩
theorem law_set {w W0 W W1 : World} {b : Nat} {k : Int} (hb : w.heap.size ≤ b) (_hb0 : b < W0.heap.size) (h : LawInv w W0 b k W) (hB : Below W.heap.size W W1) (k' : Int) : LawInv w W0 b k' (W1.setCell ⟨b, 0, none⟩ (.int .i64 k')) := by
  obtain ⟨h1, h2, h3, h4⟩ := h
  exact ⟨(h1.trans (hB.mono h1.size)).setCell (p := ⟨b, 0, none⟩) hb _, by have := hB.size; simp; omega, fun j hj hjb => (Below.heap_setCell _ _ _ _ (by dsimp only; omega)).trans ((hB.block j (by omega)).trans (h3 j hj hjb)), heap_set1 (kept_of hB h4) _⟩
theorem want_row {n : Nat} {y : OpIx} (h : allIx[n]? = some y) : ∀ j, j < 7 → (opCells allOps)[n * 7 + j]? = (rowC y.row).toList[j]? := by
  have h2 : allOps[n]? = some y.row := by rw [← allIx_rows, List.getElem?_map, h]; rfl
  obtain ⟨hn, he⟩ := List.getElem?_eq_some_iff.1 h2
  intro j hj
  rw [opCells_at allOps n hn j hj, he]
theorem law_trans {w W0 W3 W : World} {b bk : Nat} {k k' : Int} (hb : b < bk) (h : LawInv w W0 b k W3) (h' : LawInv w W3 bk k' W) (hbk : W0.heap.size ≤ bk) (hbk3 : bk < W3.heap.size) : LawInv w W0 b k W := by
  obtain ⟨h1, h2, h3, h4⟩ := h
  obtain ⟨g1, g2, g3, g4⟩ := h'
  exact ⟨g1, Nat.le_trans h2 g2, fun j hj hjb => (g3 j (by omega) (by omega)).trans (h3 j hj hjb), (g3 b (by omega) (by omega)).trans h4⟩
theorem law_keeps {w W3 W : World} {B bk : Nat} {k' : Int} {t : Nat} {cs : Array Value} (h' : LawInv w W3 bk k' W) (hc : W3.heap[bk]? = some (.cells cs t (0, 0))) : KeepsFrom B W3 W :=
  ⟨h'.2.1, fun j o _ hj ho => (h'.2.2.1 j (Array.getElem?_eq_some_iff.1 hj).1 (fun e => by rw [e, hc] at hj; cases hj; cases ho)).trans hj⟩
theorem kept_of2 {W w1 : World} {k : Nat} {o : Obj} (hb : Below W.heap.size W w1) (h : W.heap[k]? = some o) : w1.heap[k]? = some o := (hb.block k (Array.getElem?_eq_some_iff.1 h).1).trans h
theorem setCell_same {w : World} {b t : Nat} {v : Value} {fr : Nat × Nat} (h : w.heap[b]? = some (.cells #[v] t fr)) : w.setCell ⟨b, 0, none⟩ v = w := by
  rw [setCell_eq_setRow w b 0 _ t fr v h]
  exact setRow_self w b #[v] t fr h
set_option maxHeartbeats 4000000 in
set_option maxRecDepth 100000 in
theorem opall_walk (fst snd : Int) (w : World) :
    Calls Tryd.prog 4 #[.int .i64 fst, .int .i64 snd] w fun e w' => e = .returned (.bool true) ∧ Below w.heap.size w w' := by
  have hB0 : Below w.heap.size w (((w.alloc (.cells #[.int .i64 fst] 3)).alloc (.cells #[.int .i64 snd] 3)).alloc (.cells #[.bool false] 4)) := (((Below.refl _ _).alloc (Nat.le_refl _) _).alloc (by simp) _).alloc (by simp; omega) _
  have g0 := heap_alloc_before (heap_alloc_before (heap_alloc_new w (.cells #[.int .i64 fst] 3)) (.cells #[.int .i64 snd] 3)) (.cells #[.bool false] 4)
  have g1 := heap_alloc_before (heap_alloc_at (w.alloc (.cells #[.int .i64 fst] 3)) (.cells #[.int .i64 snd] 3) (w.heap.size + 1) (by simp)) (.cells #[.bool false] 4)
  have g2 := heap_alloc_at ((w.alloc (.cells #[.int .i64 fst] 3)).alloc (.cells #[.int .i64 snd] 3)) (.cells #[.bool false] 4) (w.heap.size + 1 + 1) (by simp)
  refine (callsIn_wide (n := 8)).1 ?_
  refine callsIn_of_wp_marks Tryd.func4 rfl trivial ?_ rfl
  simp only [Tryd.ntmps4, List.size_toArray, List.length_cons, List.length_nil, Nat.reduceAdd, Nat.reduceSub, Array.replicate_succ, Array.replicate_zero, List.push_toArray, List.append_toArray, List.nil_append, List.cons_append]
  gi_wp2_with (refine ⟨trivial, ?_⟩; gi_at_call 12; refine stop_o ?_)
  generalize (((w.alloc (.cells #[.int .i64 fst] 3)).alloc (.cells #[.int .i64 snd] 3)).alloc (.cells #[.bool false] 4)) = Wa at hB0 g0 g1 g2 ⊢
  unfold StopO
  refine (callsIn_wide.2 (refall_any Wa)).mono ?_
  rintro e w1 ⟨⟨v, rfl, hown⟩, hb1⟩
  obtain ⟨Xw, cw, rfl⟩ := owns_shape hown
  rw [show allOps.length = 153 from allOps_length] at hown ⊢
  obtain ⟨gw, rfl⟩ := own_head hown (by decide)
  obtain ⟨b5, hb5⟩ : ∃ b5, b5 = w1.heap.size := ⟨_, rfl⟩
  have h0 := heap_alloc_before (kept_of hb1 g0) (.cells #[.slice (some ⟨gw, 0, none⟩) 153 cw] 29)
  have h1 := heap_alloc_before (kept_of hb1 g1) (.cells #[.slice (some ⟨gw, 0, none⟩) 153 cw] 29)
  have h2 := heap_alloc_before (kept_of hb1 g2) (.cells #[.slice (some ⟨gw, 0, none⟩) 153 cw] 29)
  have h5 := heap_alloc_at w1 (.cells #[.slice (some ⟨gw, 0, none⟩) 153 cw] 29) b5 hb5
  have hB1 := hB0.trans (hb1.mono hB0.size)
  have hB2 := hB1.alloc hB1.size (.cells #[.slice (some ⟨gw, 0, none⟩) 153 cw] 29)
  have ho2 := hown.alloc (.cells #[.slice (some ⟨gw, 0, none⟩) 153 cw] 29)
  have hsz : (w1.alloc (.cells #[.slice (some ⟨gw, 0, none⟩) 153 cw] 29)).heap.size = b5 + 1 := by simp [hb5]
  have hN5 : w.heap.size + 1 + 1 < b5 := by have := (Array.getElem?_eq_some_iff.1 (kept_of hb1 g2)).1; omega
  have hgw5 : gw < b5 := by have := (own_lt hown).2; omega
  have HB5 := Lib.hid hb5
  clear hb5
  gi_wp2_with (refine ⟨trivial, ?_⟩; gi_at_call 13; refine stop_o ?_)
  rw [← HB5.out]
  generalize w1.alloc (.cells #[.slice (some ⟨gw, 0, none⟩) 153 cw] 29) = Wb at h0 h1 h2 h5 hB2 ho2 hsz ⊢
  clear g0 g1 g2 hB0 hB1 hb1 hown HB5
  unfold StopO
  refine (callsIn_wide.2 (all_val Wb)).mono ?_
  rintro e w' ⟨rfl, rfl⟩
  have k6 := heap_alloc_at Wb (.cells #[.func (.func 24) #[] #[]] 32) (b5 + 1) hsz.symm
  obtain ⟨q6, f6⟩ := cell_of1 k6
  have p6 := heap_alloc_before (heap_alloc_before k6 (.cells #[.int .i64 0] 3)) (.cells #[.bool true] 4)
  have p0 := heap_alloc_before (heap_alloc_before (heap_alloc_before h0 (.cells #[.func (.func 24) #[] #[]] 32)) (.cells #[.int .i64 0] 3)) (.cells #[.bool true] 4)
  have p1 := heap_alloc_before (heap_alloc_before (heap_alloc_before h1 (.cells #[.func (.func 24) #[] #[]] 32)) (.cells #[.int .i64 0] 3)) (.cells #[.bool true] 4)
  have p2 := heap_alloc_before (heap_alloc_before (heap_alloc_before h2 (.cells #[.func (.func 24) #[] #[]] 32)) (.cells #[.int .i64 0] 3)) (.cells #[.bool true] 4)
  have p5 := heap_alloc_before (heap_alloc_before (heap_alloc_before h5 (.cells #[.func (.func 24) #[] #[]] 32)) (.cells #[.int .i64 0] 3)) (.cells #[.bool true] 4)
  have p7 := heap_alloc_before (heap_alloc_at (Wb.alloc (.cells #[.func (.func 24) #[] #[]] 32)) (.cells #[.int .i64 0] 3) (b5 + 1 + 1) (by simp [hsz])) (.cells #[.bool true] 4)
  have p8 := heap_alloc_at ((Wb.alloc (.cells #[.func (.func 24) #[] #[]] 32)).alloc (.cells #[.int .i64 0] 3)) (.cells #[.bool true] 4) (b5 + 1 + 1 + 1) (by simp [hsz])
  have po := ((ho2.alloc (.cells #[.func (.func 24) #[] #[]] 32)).alloc (.cells #[.int .i64 0] 3)).alloc (.cells #[.bool true] 4)
  have pB := ((hB2.alloc hB2.size (.cells #[.func (.func 24) #[] #[]] 32)).alloc (by have := hB2.size; simp; omega) (.cells #[.int .i64 0] 3)).alloc (by have := hB2.size; simp; omega) (.cells #[.bool true] 4)
  have hsz0 : (((Wb.alloc (.cells #[.func (.func 24) #[] #[]] 32)).alloc (.cells #[.int .i64 0] 3)).alloc (.cells #[.bool true] 4)).heap.size = b5 + 1 + 1 + 1 + 1 := by simp [hsz]
  obtain ⟨q6', f6'⟩ := cell_of1 p6
  have HSZ := Lib.hid hsz
  clear hsz
  gi_upto_region 7 with fail
  rw [HSZ.out]
  generalize (((Wb.alloc (.cells #[.func (.func 24) #[] #[]] 32)).alloc (.cells #[.int .i64 0] 3)).alloc (.cells #[.bool true] 4)) = W0 at p0 p1 p2 p5 p6 p7 p8 po pB hsz0 q6' f6' ⊢
  clear h0 h1 h2 h5 hB2 ho2 k6 q6 f6 HSZ
  gi_wp2
  have hwW : w.heap.size ≤ W0.heap.size := pB.size
  have hb0W : b5 + 1 + 1 + 1 < W0.heap.size := by omega
  have HSZ0 := Lib.hid hsz0
  clear hsz0
  refine wpIn_rangeF rfl (by omega) (gf := 24) (lb := #[]) rfl trivial (enters_of Tryd.func24 (by kernel_rfl) rfl) (all_seqF 4 W0) (Below.refl _ _) (fun _ => rfl)
    (fun pre W => LawInv w W0 (b5 + 1 + 1) pre.length W) (fun _ _ _ => False) (fun s W W' row hs hg hr => law_kept hwW hs hg hr) (fun _ _ _ _ _ h _ _ => h)
    ⟨pB, Nat.le_refl _, fun _ _ _ => rfl, p7⟩ (fun _ _ _ => trivial)
    (fun pre x r a' W => ∃ Bx, W0.heap.size ≤ Bx ∧ W0.heap.size ≤ r ∧ pre ++ [x] <+: allIx ∧ W.heap[Bx]? = some (.cells (rowC x.row) 24 (0, 0)) ∧ a' = { tmps := #[.int .i64 fst, .int .i64 snd, .pointer (some ⟨w.heap.size, 0, none⟩), .pointer (some ⟨w.heap.size + 1, 0, none⟩), .pointer (some ⟨w.heap.size + 1 + 1, 0, none⟩), .pointer (some ⟨b5, 0, none⟩), .pointer (some ⟨b5 + 1, 0, none⟩), .pointer (some ⟨b5 + 1 + 1, 0, none⟩), .pointer (some ⟨b5 + 1 + 1 + 1, 0, none⟩), .pointer (some ⟨Bx, 0, none⟩), undef, undef, undef, undef, .slice (some ⟨gw, 0, none⟩) 153 cw, .func (.func 24) #[] #[], .func (.func 24) #[] #[], .bool false, .func (.func 24) #[] #[], .agg (rowC x.row), undef, undef, undef, undef, undef, undef, undef, undef, undef, undef, undef, undef, undef, undef, undef, undef, undef, undef, undef, undef, undef, undef, undef, undef, undef, undef, undef, undef, undef, undef, undef, undef, undef, undef, undef, undef, undef, undef, undef, undef, undef, undef, undef, undef, undef, undef, undef, undef, undef, undef, undef, undef, undef, undef, undef, undef, undef, undef, undef, undef, undef, undef, undef, undef, undef, undef, undef, undef, undef, undef, undef, undef, undef, undef, undef, undef, undef, undef, undef, undef, undef, undef, undef, undef, undef, undef, undef, undef, undef, undef, undef, undef, undef, undef, undef, undef, undef, undef], defers := [] })
    (fun pre x r a' _ W W' row hs hg hr => by
      obtain ⟨Bx, h1, h2, h3, h4, h5⟩ := hs
      exact ⟨Bx, h1, h2, h3, blk_stays h4 hg hr, h5⟩) ?assign ?body ?done ?stop
  case assign =>
    rintro l pre x W o K hl hpx ho hK
    unfold rowC
    gi_wp2
    have hlt := hl.2.1
    have h1 : ((W.alloc o).alloc (.cells (rowC x.row) 24)).heap[W.heap.size]? = some o := (Below.heap_alloc _ _ _ (by simp)).trans (heap_alloc_new _ _)
    have h2 : ((W.alloc o).alloc (.cells (rowC x.row) 24)).heap[W.heap.size + 1]? = some (.cells (rowC x.row) 24 (0, 0)) := heap_alloc_at _ _ _ (by simp)
    exact hK _ _ ((KeepsOthers.alloc _ _).from _) (law_kept hwW hl (grownBy_below (((Below.refl _ W).alloc (Nat.le_refl _) _).alloc (by simp) _)) (fun r e => by cases e)) ⟨W.heap.size + 1, by omega, hlt, hpx, h2, rfl⟩ h1
  case body =>
    rintro l pre x r o a' W hl ⟨lr, hlr⟩ ⟨iB, iS, iK, i7⟩ ⟨Bx, hBx, hr, hpx, hx, rfl⟩ hro ho
    have x0 := (iK w.heap.size (by omega) (by omega)).trans p0
    have x1 := (iK (w.heap.size + 1) (by omega) (by omega)).trans p1
    have x2 := (iK (w.heap.size + 1 + 1) (by omega) (by omega)).trans p2
    have x5 := (iK b5 (by omega) (by omega)).trans p5
    have x6 := (iK (b5 + 1) (by omega) (by omega)).trans p6
    have x8 := (iK (b5 + 1 + 1 + 1) (by omega) (by omega)).trans p8
    have xw := own_keep po (iK gw (by omega) (by omega))
    obtain ⟨d2, f2⟩ := cell_of1 x2
    obtain ⟨d5, f5⟩ := cell_of1 x5
    obtain ⟨d7, f7⟩ := cell_of1 i7
    obtain ⟨q0, q1, q2, q3, q4, q5, q6, qz, ql⟩ := cells7 hx
    have u5 := fun d os => cell_regrown d5 d os
    have u7 := fun d os => cell_regrown d7 d os
    have v0 := fun d os => cell_regrown q0 d os
    have v1 := fun d os => cell_regrown q1 d os
    have v2 := fun d os => cell_regrown q2 d os
    have v3 := fun d os => cell_regrown q3 d os
    have v4 := fun d os => cell_regrown q4 d os
    have v5 := fun d os => cell_regrown q5 d os
    have v6 := fun d os => cell_regrown q6 d os
    have hget := prefix_get hpx
    have hwr := want_row hget
    have hl2 : pre.length < 153 := by have := hpx.length_le; rw [List.length_append, allIx_length] at this; simp at this; omega
    have w0 := fun d os => cell_regrown ((xw.cellAt (pre.length * 7 + 0) (by omega)).trans (hwr 0 (by omega))) d os
    have w1 := fun d os => cell_regrown ((xw.cellAt (pre.length * 7 + 1) (by omega)).trans (hwr 1 (by omega))) d os
    have w2 := fun d os => cell_regrown ((xw.cellAt (pre.length * 7 + 2) (by omega)).trans (hwr 2 (by omega))) d os
    have w3 := fun d os => cell_regrown ((xw.cellAt (pre.length * 7 + 3) (by omega)).trans (hwr 3 (by omega))) d os
    have w4 := fun d os => cell_regrown ((xw.cellAt (pre.length * 7 + 4) (by omega)).trans (hwr 4 (by omega))) d os
    have w5 := fun d os => cell_regrown ((xw.cellAt (pre.length * 7 + 5) (by omega)).trans (hwr 5 (by omega))) d os
    have w6 := fun d os => cell_regrown ((xw.cellAt (pre.length * 7 + 6) (by omega)).trans (hwr 6 (by omega))) d os
    simp only [Nat.add_zero] at w0
    have e1 : decide ((153 : Int) ≤ (pre.length : Int)) = false := decide_eq_false (by omega)
    have e2 : (pre.length : Int) < 153 := by omega
    have e3 : pre.length < 153 := by omega
    generalize x.row = rr at hx q0 q1 q2 q3 q4 q5 q6 v0 v1 v2 v3 v4 v5 v6 w0 w1 w2 w3 w4 w5 w6 hwr ⊢
    obtain ⟨code, nm, imm, inn, out, gas, ends⟩ := rr
    unfold rowC at *
    dsimp only at q0 q1 q2 q3 q4 q5 q6 v0 v1 v2 v3 v4 v5 v6 w0 w1 w2 w3 w4 w5 w6
    clear hwr
    gi_wp2
    refine wpIn_region_round rfl (by kernel_rfl) (by kernel_rfl) (by kernel_rfl) ?_
    repeat (refine wpQuietIn_step (fun _ _ _ _ => trivial) (fun K hK => ?_); go_simp; refine hK _ ?_; clear hK K)
    refine wpQuietIn_nil ?_
    rintro _ ⟨pq, rfl⟩
    have hbq := below_regrown W pq.d pq.os
    clear u5 u7 v0 v1 v2 v3 v4 v5 v6 w0 w1 w2 w3 w4 w5 w6 e1 e2 e3 q0 q1 q2 q3 q4 q5 q6 qz ql d2 f2 d5 f5 d7 f7
    generalize grow (redrawn W pq.d) pq.os = W1 at hbq ⊢
    obtain ⟨d7, f7⟩ := cell_of1 (kept_of hbq i7)
    have hLI := law_set (by omega) (by omega) ⟨iB, iS, iK, i7⟩ hbq ((pre.length : Int) + 1)
    have hKF : KeepsFrom W0.heap.size W (W1.setCell ⟨b5 + 1 + 1, 0, none⟩ (.int .i64 ((pre.length : Int) + 1))) := (KeepsFrom.of_grownBy (grownBy_below hbq) (fun _ h => by cases h)).trans ((KeepsOthers.setCell _ _ _).from _)
    have hlr2 := hKF.same l _ hl hlr rfl
    have hro2 := heap_setOther (kept_of2 hbq hro) (a := ⟨b5 + 1 + 1, 0, none⟩) (by dsimp only; omega) (.int .i64 ((pre.length : Int) + 1))
    gi_upto_region 12 with fail
    generalize W1.setCell ⟨b5 + 1 + 1, 0, none⟩ (.int .i64 ((pre.length : Int) + 1)) = W2 at hLI hKF hlr2 hro2 ⊢
    clear d7 f7 hbq x0 x1 x2 x5 x6 x8 xw i7 iK iB
    have hlen : ((pre ++ [x]).length : Int) = (pre.length : Int) + 1 := by simp
    have hLI' := hLI
    obtain ⟨iB, iS2, iK, i7⟩ := hLI
    have x0 := (iK w.heap.size (by omega) (by omega)).trans p0
    have x1 := (iK (w.heap.size + 1) (by omega) (by omega)).trans p1
    have x5 := (iK b5 (by omega) (by omega)).trans p5
    have x6 := (iK (b5 + 1) (by omega) (by omega)).trans p6
    have x8 := (iK (b5 + 1 + 1 + 1) (by omega) (by omega)).trans p8
    have xw := own_keep po (iK gw (by omega) (by omega))
    obtain ⟨d0, f0⟩ := cell_of1 x0
    obtain ⟨d7, f7⟩ := cell_of1 i7
    obtain ⟨d6, f6⟩ := cell_of1 x6
    have FIN := Lib.hid (show KeepsFrom W0.heap.size W W2 ∧ LawInv w W0 (b5 + 1 + 1) (pre ++ [x]).length W2 ∧ W2.heap[r]? = some o from ⟨hKF, by rw [hlen]; exact hLI', hro2⟩)
    by_cases hf : (pre.length : Int) + 1 = fst
    · have hf1 : (((pre.length : Int) + 1) == fst) = true := beq_iff_eq.2 hf
      have HF := Lib.hid hf
      clear hf hlen
      obtain ⟨bk, hbk⟩ : ∃ bk, bk = W2.heap.size := ⟨_, rfl⟩
      have k0 := heap_alloc_before x0 (.cells #[.int .i64 0] 3)
      have k1 := heap_alloc_before x1 (.cells #[.int .i64 0] 3)
      have k5 := heap_alloc_before x5 (.cells #[.int .i64 0] 3)
      have k6 := heap_alloc_before x6 (.cells #[.int .i64 0] 3)
      have k7 := heap_alloc_before i7 (.cells #[.int .i64 0] 3)
      have k8 := heap_alloc_before x8 (.cells #[.int .i64 0] 3)
      have kk := heap_alloc_at W2 (.cells #[.int .i64 0] 3) bk hbk
      have kr := heap_alloc_before hro2 (.cells #[.int .i64 0] 3)
      have kl := heap_alloc_before hlr2 (.cells #[.int .i64 0] 3)
      have kw := xw.alloc (.cells #[.int .i64 0] 3)
      have kB := iB.alloc iB.size (.cells #[.int .i64 0] 3)
      have kL := law_kept hwW hLI' (grownBy_below ((Below.refl _ W2).alloc (Nat.le_refl _) (.cells #[.int .i64 0] 3))) (fun r e => by cases e)
      have kKF := hKF.trans ((KeepsOthers.alloc W2 (.cells #[.int .i64 0] 3)).from _)
      have hbkW : W0.heap.size ≤ bk := by omega
      have hrbk : r < bk := by have := (Array.getElem?_eq_some_iff.1 hro2).1; omega
      have ksz : (W2.alloc (.cells #[.int .i64 0] 3)).heap.size = bk + 1 := by simp [hbk]
      have HBK := Lib.hid hbk
      clear hbk
      gi_upto_region 14 with fail
      clear d6 f6 d0 f0 d7 f7
      obtain ⟨d6, f6⟩ := cell_of1 k6
      rw [← HBK.out]
      generalize W2.alloc (.cells #[.int .i64 0] 3) = W3 at k0 k1 k5 k6 k7 k8 kk kl kr kw kB kL kKF ksz d6 f6 ⊢
      clear x0 x1 x5 x6 x8 xw i7 iK iB hLI' hKF hlr2 FIN HBK
      gi_wp2
      have hwW3 : w.heap.size ≤ W3.heap.size := kB.size
      have hbk3 : bk < W3.heap.size := by omega
      clear ksz
      refine wpIn_rangeF_inner rfl kl (by omega) (gf := 24) (lb := #[]) rfl trivial (enters_of Tryd.func24 (by kernel_rfl) rfl) (SeqF.inRound l (all_seqF 2 W3)) (Below.refl _ _) (fun _ => rfl)
        (fun pre2 W => LawInv w W3 bk pre2.length W ∧ ∀ m : Nat, 1 ≤ m → m ≤ pre2.length → (m : Int) ≠ snd)
        (fun c pre2 W => c = .exit 2 ∧ LawInv w W3 bk pre2.length W ∧ (pre2.length : Int) = snd ∧ 1 ≤ pre2.length)
        (fun s W W' row hs hg hr => ⟨law_kept hwW3 hs.1 hg hr, hs.2⟩)
        (fun c s W W' row hs hg hr => ⟨hs.1, law_kept hwW3 hs.2.1 hg hr, hs.2.2⟩)
        ⟨⟨kB, Nat.le_refl _, fun _ _ _ => rfl, kk⟩, fun m h1 h2 => by simp at h2; omega⟩ (fun _ _ _ => trivial)
        (fun pre2 y r2 a' W => ∃ By, W3.heap.size ≤ By ∧ W3.heap.size ≤ r2 ∧ pre2 ++ [y] <+: allIx ∧ W.heap[By]? = some (.cells (rowC y.row) 24 (0, 0)) ∧ a' = { tmps := #[.int .i64 fst, .int .i64 snd, .pointer (some ⟨w.heap.size, 0, none⟩), .pointer (some ⟨w.heap.size + 1, 0, none⟩), .pointer (some ⟨w.heap.size + 1 + 1, 0, none⟩), .pointer (some ⟨b5, 0, none⟩), .pointer (some ⟨b5 + 1, 0, none⟩), .pointer (some ⟨b5 + 1 + 1, 0, none⟩), .pointer (some ⟨b5 + 1 + 1 + 1, 0, none⟩), .pointer (some ⟨Bx, 0, none⟩), .pointer (some ⟨bk, 0, none⟩), .pointer (some ⟨By, 0, none⟩), undef, undef, .slice (some ⟨gw, 0, none⟩) 153 cw, .func (.func 24) #[] #[], .func (.func 24) #[] #[], .bool false, .func (.func 24) #[] #[], .agg #[.int .i64 code, .string nm, .int .i64 imm, .int .i64 inn, .int .i64 out, .int .i64 gas, .bool ends], .int .i64 (pre.length : Int), .slice (some ⟨gw, 0, none⟩) 153 cw, .int .i64 153, .bool false, .bool false, .agg #[.int .i64 code, .string nm, .int .i64 imm, .int .i64 inn, .int .i64 out, .int .i64 gas, .bool ends], .slice (some ⟨gw, 0, none⟩) 153 cw, .int .i64 (pre.length : Int), .pointer (some ⟨gw, pre.length * 7, none⟩), .agg #[.int .i64 code, .string nm, .int .i64 imm, .int .i64 inn, .int .i64 out, .int .i64 gas, .bool ends], .bool false, .bool false, .int .i64 (pre.length : Int), .int .i64 ((pre.length : Int) + 1), .int .i64 ((pre.length : Int) + 1), .int .i64 fst, .bool true, .func (.func 24) #[] #[], .agg (rowC y.row), undef, undef, undef, undef, undef, undef, undef, undef, undef, undef, undef, undef, undef, undef, undef, undef, undef, undef, undef, undef, undef, undef, undef, undef, undef, undef, undef, undef, undef, undef, undef, undef, undef, undef, undef, undef, undef, undef, undef, undef, undef, undef, undef, undef, undef, undef, undef, undef, undef, undef, undef, undef, undef, undef, undef, undef, undef, undef, undef, undef, undef, undef, undef, undef, undef, undef, undef, undef, undef, undef, undef, undef, undef, undef, undef, undef, undef, undef, undef], defers := [] })
        (fun pre2 y r2 a' _ W W' row hs hg hr => by
          obtain ⟨By, h1, h2, h3, h4, h5⟩ := hs
          exact ⟨By, h1, h2, h3, blk_stays h4 hg hr, h5⟩) ?assign2 ?body2 ?done2 ?stop2
      case assign2 =>
        rintro l2 pre2 y W o2 K ⟨hl2, hm⟩ hpy ho2 hK
        unfold rowC
        gi_wp2
        have hlt := hl2.2.1
        have h1 : ((W.alloc o2).alloc (.cells (rowC y.row) 24)).heap[W.heap.size]? = some o2 := (Below.heap_alloc _ _ _ (by simp)).trans (heap_alloc_new _ _)
        have h2 : ((W.alloc o2).alloc (.cells (rowC y.row) 24)).heap[W.heap.size + 1]? = some (.cells (rowC y.row) 24 (0, 0)) := heap_alloc_at _ _ _ (by simp)
        exact hK _ _ ((KeepsOthers.alloc _ _).from _) ⟨law_kept hwW3 hl2 (grownBy_below (((Below.refl _ W).alloc (Nat.le_refl _) _).alloc (by simp) _)) (fun r e => by cases e), hm⟩ ⟨W.heap.size + 1, by omega, hlt, hpy, h2, rfl⟩ h1
      case body2 =>
        rintro l2 pre2 y r2 o2 a' W hl2 ⟨lr2, hlr2⟩ ⟨⟨iB, iS, iK, i10⟩, hm⟩ ⟨By, hBy, hr2, hpy, hy, rfl⟩ hro2 ho2
        have x1 := (iK (w.heap.size + 1) (by omega) (by omega)).trans k1
        have x5 := (iK b5 (by omega) (by omega)).trans k5
        have x8 := (iK (b5 + 1 + 1 + 1) (by omega) (by omega)).trans k8
        have xw := own_keep kw (iK gw (by omega) (by omega))
        obtain ⟨q0, q1, q2, q3, q4, q5, q6, qz, ql⟩ := cells7 hy
        have hget := prefix_get hpy
        have hwr := want_row hget
        have hl3 : pre2.length < 153 := by have := hpy.length_le; rw [List.length_append, allIx_length] at this; simp at this; omega
        have w0 := fun d os => cell_regrown ((xw.cellAt (pre2.length * 7 + 0) (by omega)).trans (hwr 0 (by omega))) d os
        have w1 := fun d os => cell_regrown ((xw.cellAt (pre2.length * 7 + 1) (by omega)).trans (hwr 1 (by omega))) d os
        have w2 := fun d os => cell_regrown ((xw.cellAt (pre2.length * 7 + 2) (by omega)).trans (hwr 2 (by omega))) d os
        have w3 := fun d os => cell_regrown ((xw.cellAt (pre2.length * 7 + 3) (by omega)).trans (hwr 3 (by omega))) d os
        have w4 := fun d os => cell_regrown ((xw.cellAt (pre2.length * 7 + 4) (by omega)).trans (hwr 4 (by omega))) d os
        have w5 := fun d os => cell_regrown ((xw.cellAt (pre2.length * 7 + 5) (by omega)).trans (hwr 5 (by omega))) d os
        have w6 := fun d os => cell_regrown ((xw.cellAt (pre2.length * 7 + 6) (by omega)).trans (hwr 6 (by omega))) d os
        simp only [Nat.add_zero] at w0
        have v0 := fun d os => cell_regrown q0 d os
        have v1 := fun d os => cell_regrown q1 d os
        have v2 := fun d os => cell_regrown q2 d os
        have v3 := fun d os => cell_regrown q3 d os
        have v4 := fun d os => cell_regrown q4 d os
        have v5 := fun d os => cell_regrown q5 d os
        have v6 := fun d os => cell_regrown q6 d os
        have u5 := fun d os => cell_regrown (cell_of1 x5).1 d os
        have u8 := fun d os => cell_regrown (cell_of1 x8).1 d os
        have u10 := fun d os => cell_regrown (cell_of1 i10).1 d os
        have z8 := fun d os => (cell_of1 (kept_of2 (below_regrown W d os) x8)).2
        have s8 := fun d os => setCell_same (kept_of2 (below_regrown W d os) x8)
        have e1 : decide ((pre2.length : Int) < 153) = true := decide_eq_true (by omega)
        have e2 : (pre2.length : Int) < 153 := by omega
        have e3 : pre2.length < 153 := hl3
        generalize y.row = rr at hy q0 q1 q2 q3 q4 q5 q6 v0 v1 v2 v3 v4 v5 v6 w0 w1 w2 w3 w4 w5 w6 hwr ⊢
        obtain ⟨code', nm', imm', inn', out', gas', ends'⟩ := rr
        unfold rowC at *
        dsimp only at q0 q1 q2 q3 q4 q5 q6 v0 v1 v2 v3 v4 v5 v6 w0 w1 w2 w3 w4 w5 w6
        clear hwr
        gi_wp2
        refine wpIn_region_round (F := Fence.wide) (lp := l2) rfl (by kernel_rfl) (by kernel_rfl) (by kernel_rfl) ?_
        repeat (refine wpQuietIn_step (fun _ _ _ _ => trivial) (fun K hK => ?_); go_simp; refine hK _ ?_; clear hK K)
        refine wpQuietIn_nil ?_
        rintro _ ⟨pq, rfl⟩
        have hbq := below_regrown W pq.d pq.os
        clear u5 u8 u10 z8 s8 v0 v1 v2 v3 v4 v5 v6 w0 w1 w2 w3 w4 w5 w6 e1 e2 e3 q0 q1 q2 q3 q4 q5 q6 qz ql
        generalize grow (redrawn W pq.d) pq.os = W4 at hbq ⊢
        obtain ⟨d10, f10⟩ := cell_of1 (kept_of2 hbq i10)
        have hLI2 := law_set (by omega) (by omega) ⟨iB, iS, iK, i10⟩ hbq ((pre2.length : Int) + 1)
        have hKF2 : KeepsFrom W3.heap.size W (W4.setCell ⟨bk, 0, none⟩ (.int .i64 ((pre2.length : Int) + 1))) := (KeepsFrom.of_grownBy (grownBy_below hbq) (fun _ h => by cases h)).trans ((KeepsOthers.setCell _ _ _).from _)
        have hro3 := heap_setOther (kept_of2 hbq hro2) (a := ⟨bk, 0, none⟩) (by dsimp only; omega) (.int .i64 ((pre2.length : Int) + 1))
        gi_upto_region 18 with fail
        generalize W4.setCell ⟨bk, 0, none⟩ (.int .i64 ((pre2.length : Int) + 1)) = W5 at hLI2 hKF2 hro3 ⊢
        have hLI2' := hLI2
        obtain ⟨jB, jS, jK, j10⟩ := hLI2
        obtain ⟨d1, f1⟩ := cell_of1 ((jK (w.heap.size + 1) (by omega) (by omega)).trans k1)
        obtain ⟨d8, f8⟩ := cell_of1 ((jK (b5 + 1 + 1 + 1) (by omega) (by omega)).trans k8)
        clear d10 f10 x1 x5 x8 xw
        obtain ⟨d10, f10⟩ := cell_of1 j10
        have hlen2 : ((pre2 ++ [y]).length : Int) = (pre2.length : Int) + 1 := by simp
        by_cases hs : (pre2.length : Int) + 1 = snd
        · have FIN2 := Lib.hid (show KeepsFrom W3.heap.size W W5 ∧ (LawInv w W3 bk (pre2 ++ [y]).length W5 ∧ ((pre2 ++ [y]).length : Int) = snd ∧ 1 ≤ (pre2 ++ [y]).length) from ⟨hKF2, by rw [hlen2]; exact hLI2', by rw [hlen2]; exact hs, by simp⟩)
          have hs1 : (((pre2.length : Int) + 1) == snd) = true := beq_iff_eq.2 hs
          clear hlen2 hs
          gi_wp2
          exact ⟨FIN2.out.1, rfl, FIN2.out.2⟩
        · have FIN2 := Lib.hid (show KeepsFrom W3.heap.size W W5 ∧ (LawInv w W3 bk (pre2 ++ [y]).length W5 ∧ ∀ m : Nat, 1 ≤ m → m ≤ (pre2 ++ [y]).length → (m : Int) ≠ snd) ∧ W5.heap[r2]? = some o2 from ⟨hKF2, ⟨by rw [hlen2]; exact hLI2', fun m h1 h2 => by
            rw [List.length_append, List.length_singleton] at h2
            by_cases e : m ≤ pre2.length
            · exact hm m h1 e
            · intro h3
              exact hs (by omega)⟩, hro3⟩)
          have hs1 : (((pre2.length : Int) + 1) == snd) = false := beq_eq_false_iff_ne.2 hs
          clear hlen2
          gi_wp2
          exact FIN2.out
      case done2 =>
        rintro xs2 W9 rfl ⟨hLI, hm⟩
        rw [show allIx.length = 153 from allIx_length] at hLI hm
        have hLO := law_trans (by omega) kL hLI hbkW hbk3
        have hKO := kKF.trans (law_keeps (B := W0.heap.size) hLI kk)
        have hRO := (hLI.2.2.1 r (by omega) (by omega)).trans kr
        have hlen : ((pre ++ [x]).length : Int) = (pre.length : Int) + 1 := by simp
        have FIN := Lib.hid (show KeepsFrom W0.heap.size W W9 ∧ LawInv w W0 (b5 + 1 + 1) (pre ++ [x]).length W9 ∧ W9.heap[r]? = some o from ⟨hKO, by rw [hlen]; exact hLO, hRO⟩)
        obtain ⟨jB, jS, jK, j10⟩ := hLI
        obtain ⟨d1, f1⟩ := cell_of1 ((jK (w.heap.size + 1) (by omega) (by omega)).trans k1)
        obtain ⟨d5, f5⟩ := cell_of1 ((jK b5 (by omega) (by omega)).trans k5)
        obtain ⟨d8, f8⟩ := cell_of1 ((jK (b5 + 1 + 1 + 1) (by omega) (by omega)).trans k8)
        obtain ⟨d10, f10⟩ := cell_of1 j10
        clear hlen hLO hKO hRO jK
        by_cases hs1 : snd < 1
        · have e1 : ¬ (1 : Int) ≤ snd := by omega
          gi_wp2
          exact FIN.out
        · have e1 : (1 : Int) ≤ snd := by omega
          have e2 : ¬ snd ≤ 153 := fun h => hm snd.toNat (by omega) (by omega) (by omega)
          clear hm
          gi_wp2
          exact FIN.out
      case stop2 =>
        rintro c pre2 W9 hpre2 ⟨rfl, hLI, hs, h1⟩
        have hl3 : pre2.length ≤ 153 := by have := hpre2.length_le; rwa [allIx_length] at this
        rw [hs] at hLI
        have hLO := law_trans (by omega) kL hLI hbkW hbk3
        have hKO := kKF.trans (law_keeps (B := W0.heap.size) hLI kk)
        have hRO := (hLI.2.2.1 r (by omega) (by omega)).trans kr
        have hlen : ((pre ++ [x]).length : Int) = (pre.length : Int) + 1 := by simp
        have FIN := Lib.hid (show KeepsFrom W0.heap.size W W9 ∧ LawInv w W0 (b5 + 1 + 1) (pre ++ [x]).length W9 ∧ W9.heap[r]? = some o from ⟨hKO, by rw [hlen]; exact hLO, hRO⟩)
        obtain ⟨jB, jS, jK, j10⟩ := hLI
        obtain ⟨d1, f1⟩ := cell_of1 ((jK (w.heap.size + 1) (by omega) (by omega)).trans k1)
        obtain ⟨d5, f5⟩ := cell_of1 ((jK b5 (by omega) (by omega)).trans k5)
        obtain ⟨d8, f8⟩ := cell_of1 ((jK (b5 + 1 + 1 + 1) (by omega) (by omega)).trans k8)
        obtain ⟨d10, f10⟩ := cell_of1 j10
        clear hlen hLO hKO hRO jK
        have e0 : ¬ snd < 1 := by omega
        have e1 : (1 : Int) ≤ snd := by omega
        have e2 : snd ≤ 153 := by omega
        clear hs
        gi_wp2
        exact FIN.out
    · have hf1 : (((pre.length : Int) + 1) == fst) = false := beq_eq_false_iff_ne.2 hf
      clear hlen
      gi_wp2
      exact FIN.out
  case done =>
    rintro D xs W hD rfl hLI hK
    rw [show allIx.length = 153 from allIx_length] at hLI
    obtain ⟨iB, iS, iK, i7⟩ := hLI
    have hDl := (Array.getElem?_eq_some_iff.1 hK).1
    have x0 := (iK w.heap.size (by omega) (by omega)).trans p0
    have x2 := (iK (w.heap.size + 1 + 1) (by omega) (by omega)).trans p2
    have x5 := (iK b5 (by omega) (by omega)).trans p5
    have x6 := (iK (b5 + 1) (by omega) (by omega)).trans p6
    have x8 := (iK (b5 + 1 + 1 + 1) (by omega) (by omega)).trans p8
    have xw := own_keep po (iK gw (by omega) (by omega))
    obtain ⟨d5, f5⟩ := cell_of1 x5
    obtain ⟨d7, f7⟩ := cell_of1 i7
    obtain ⟨bc, hbc⟩ : ∃ bc, bc = W.heap.size := ⟨_, rfl⟩
    have m0 := heap_alloc_before x0 (.cells #[.int .i64 0] 3)
    have m2 := heap_alloc_before x2 (.cells #[.int .i64 0] 3)
    have m5 := heap_alloc_before x5 (.cells #[.int .i64 0] 3)
    have m6 := heap_alloc_before x6 (.cells #[.int .i64 0] 3)
    have m8 := heap_alloc_before x8 (.cells #[.int .i64 0] 3)
    have mD := heap_alloc_before hK (.cells #[.int .i64 0] 3)
    have mc := heap_alloc_at W (.cells #[.int .i64 0] 3) bc hbc
    have mw := xw.alloc (.cells #[.int .i64 0] 3)
    have mB := iB.alloc iB.size (.cells #[.int .i64 0] 3)
    have hbcW : W0.heap.size ≤ bc := by omega
    have hDbc : D < bc := by omega
    have msz : bc < (W.alloc (.cells #[.int .i64 0] 3)).heap.size := by simp [hbc]
    have HBC := Lib.hid hbc
    clear hbc
    gi_upto_region 24 with fail
    rw [← HBC.out]
    generalize W.alloc (.cells #[.int .i64 0] 3) = W4 at m0 m2 m5 m6 m8 mD mc mw mB msz ⊢
    clear x0 x2 x5 x6 x8 xw d5 f5 d7 f7 HBC iK i7 iB
    obtain ⟨d6, f6⟩ := cell_of1 m6
    gi_wp2
    have hwW4 : w.heap.size ≤ W4.heap.size := mB.size
    refine wpIn_rangeF rfl (by omega) (gf := 24) (lb := #[]) rfl trivial (enters_of Tryd.func24 (by kernel_rfl) rfl) (all_seqF 4 W4) (Below.refl _ _) (fun _ => rfl)
      (fun pre W => LawInv w W4 bc pre.length W) (fun c pre W => c = .exit 4 ∧ LawInv w W4 bc pre.length W) (fun s W W' row hs hg hr => law_kept hwW4 hs hg hr) (fun c s W W' row hs hg hr => ⟨hs.1, law_kept hwW4 hs.2 hg hr⟩)
      ⟨mB, Nat.le_refl _, fun _ _ _ => rfl, mc⟩ (fun _ _ _ => trivial)
      (fun pre2 y r2 a' W => ∃ By, W4.heap.size ≤ By ∧ W4.heap.size ≤ r2 ∧ pre2 ++ [y] <+: allIx ∧ W.heap[By]? = some (.cells (rowC y.row) 24 (0, 0)) ∧ a' = { tmps := #[.int .i64 fst, .int .i64 snd, .pointer (some ⟨w.heap.size, 0, none⟩), .pointer (some ⟨w.heap.size + 1, 0, none⟩), .pointer (some ⟨w.heap.size + 1 + 1, 0, none⟩), .pointer (some ⟨b5, 0, none⟩), .pointer (some ⟨b5 + 1, 0, none⟩), .pointer (some ⟨b5 + 1 + 1, 0, none⟩), .pointer (some ⟨b5 + 1 + 1 + 1, 0, none⟩), undef, undef, undef, .pointer (some ⟨bc, 0, none⟩), .pointer (some ⟨By, 0, none⟩), .slice (some ⟨gw, 0, none⟩) 153 cw, .func (.func 24) #[] #[], .func (.func 24) #[] #[], .bool false, .func (.func 24) #[] #[], undef, undef, undef, undef, undef, undef, undef, undef, undef, undef, undef, undef, undef, undef, undef, undef, undef, undef, undef, undef, undef, undef, undef, undef, undef, undef, undef, undef, undef, undef, undef, undef, undef, undef, undef, undef, undef, undef, undef, undef, undef, undef, undef, undef, undef, undef, undef, undef, undef, undef, undef, undef, undef, undef, undef, undef, undef, undef, undef, undef, undef, undef, undef, undef, undef, undef, undef, undef, undef, undef, undef, .int .i64 153, .slice (some ⟨gw, 0, none⟩) 153 cw, .int .i64 153, .bool false, .func (.func 24) #[] #[], .agg (rowC y.row), undef, undef, undef, undef, undef, undef, undef, undef, undef, undef, undef, undef, undef, undef, undef, undef, undef, undef, undef, undef, undef, undef], defers := [] })
      (fun pre2 y r2 a' _ W W' row hs hg hr => by
        obtain ⟨By, h1, h2, h3, h4, h5⟩ := hs
        exact ⟨By, h1, h2, h3, blk_stays h4 hg hr, h5⟩) ?assign3 ?body3 ?done3 ?stop3
    case assign3 =>
      rintro l2 pre2 y W o2 K hl2 hpy ho2 hK
      unfold rowC
      gi_wp2
      have hlt := hl2.2.1
      have h1 : ((W.alloc o2).alloc (.cells (rowC y.row) 24)).heap[W.heap.size]? = some o2 := (Below.heap_alloc _ _ _ (by simp)).trans (heap_alloc_new _ _)
      have h2 : ((W.alloc o2).alloc (.cells (rowC y.row) 24)).heap[W.heap.size + 1]? = some (.cells (rowC y.row) 24 (0, 0)) := heap_alloc_at _ _ _ (by simp)
      exact hK _ _ ((KeepsOthers.alloc _ _).from _) (law_kept hwW4 hl2 (grownBy_below (((Below.refl _ W).alloc (Nat.le_refl _) _).alloc (by simp) _)) (fun r e => by cases e)) ⟨W.heap.size + 1, by omega, hlt, hpy, h2, rfl⟩ h1
    case body3 =>
      rintro l2 pre2 y r2 o2 a' W hl2 ⟨lr2, hlr2⟩ ⟨iB, iS, iK, i10⟩ ⟨By, hBy, hr2, hpy, hy, rfl⟩ hro2 ho2
      have hl3 : pre2.length < 153 := by have := hpy.length_le; rw [List.length_append, allIx_length] at this; simp at this; omega
      have hLI2 := law_set (by omega) (by omega) ⟨iB, iS, iK, i10⟩ (Below.refl _ W) ((pre2.length : Int) + 1)
      have hKF2 : KeepsFrom W4.heap.size W (W.setCell ⟨bc, 0, none⟩ (.int .i64 ((pre2.length : Int) + 1))) := (KeepsOthers.setCell _ _ _).from _
      have hro3 := heap_setOther hro2 (a := ⟨bc, 0, none⟩) (by dsimp only; omega) (.int .i64 ((pre2.length : Int) + 1))
      have hy3 := heap_setOther hy (a := ⟨bc, 0, none⟩) (by dsimp only; omega) (.int .i64 ((pre2.length : Int) + 1))
      obtain ⟨d10, f10⟩ := cell_of1 i10
      gi_upto_region 27 with fail
      generalize W.setCell ⟨bc, 0, none⟩ (.int .i64 ((pre2.length : Int) + 1)) = W5 at hLI2 hKF2 hro3 hy3 ⊢
      have hLI2' := hLI2
      obtain ⟨jB, jS, jK, j10⟩ := hLI2
      have x0 := (jK w.heap.size (by omega) (by omega)).trans m0
      have x5 := (jK b5 (by omega) (by omega)).trans m5
      have x8 := (jK (b5 + 1 + 1 + 1) (by omega) (by omega)).trans m8
      have xw := own_keep mw (jK gw (by omega) (by omega))
      clear d10 f10
      obtain ⟨d0, f0⟩ := cell_of1 x0
      obtain ⟨d10, f10⟩ := cell_of1 j10
      have hlen2 : ((pre2 ++ [y]).length : Int) = (pre2.length : Int) + 1 := by simp
      by_cases hf : (pre2.length : Int) + 1 = fst
      · have hf1 : (((pre2.length : Int) + 1) == fst) = true := beq_iff_eq.2 hf
        have FIN2 := Lib.hid (show KeepsFrom W4.heap.size W W5 ∧ LawInv w W4 bc (pre2 ++ [y]).length W5 from ⟨hKF2, by rw [hlen2]; exact hLI2'⟩)
        clear hlen2 hf
        gi_wp2
        exact ⟨FIN2.out.1, rfl, FIN2.out.2⟩
      · have hf1 : (((pre2.length : Int) + 1) == fst) = false := beq_eq_false_iff_ne.2 hf
        clear hf
        gi_upto_region 28 with fail
        obtain ⟨q0, q1, q2, q3, q4, q5, q6, qz, ql⟩ := cells7 hy3
        have hwr := want_row (prefix_get hpy)
        have w0 := fun d os => cell_regrown ((xw.cellAt (pre2.length * 7 + 0) (by omega)).trans (hwr 0 (by omega))) d os
        have w1 := fun d os => cell_regrown ((xw.cellAt (pre2.length * 7 + 1) (by omega)).trans (hwr 1 (by omega))) d os
        have w2 := fun d os => cell_regrown ((xw.cellAt (pre2.length * 7 + 2) (by omega)).trans (hwr 2 (by omega))) d os
        have w3 := fun d os => cell_regrown ((xw.cellAt (pre2.length * 7 + 3) (by omega)).trans (hwr 3 (by omega))) d os
        have w4 := fun d os => cell_regrown ((xw.cellAt (pre2.length * 7 + 4) (by omega)).trans (hwr 4 (by omega))) d os
        have w5 := fun d os => cell_regrown ((xw.cellAt (pre2.length * 7 + 5) (by omega)).trans (hwr 5 (by omega))) d os
        have w6 := fun d os => cell_regrown ((xw.cellAt (pre2.length * 7 + 6) (by omega)).trans (hwr 6 (by omega))) d os
        simp only [Nat.add_zero] at w0
        have v0 := fun d os => cell_regrown q0 d os
        have v1 := fun d os => cell_regrown q1 d os
        have v2 := fun d os => cell_regrown q2 d os
        have v3 := fun d os => cell_regrown q3 d os
        have v4 := fun d os => cell_regrown q4 d os
        have v5 := fun d os => cell_regrown q5 d os
        have v6 := fun d os => cell_regrown q6 d os
        have u5 := fun d os => cell_regrown (cell_of1 x5).1 d os
        have u8 := fun d os => cell_regrown (cell_of1 x8).1 d os
        have u10 := fun d os => cell_regrown (cell_of1 j10).1 d os
        have z8 := fun d os => (cell_of1 (kept_of2 (below_regrown W5 d os) x8)).2
        have s8 := fun d os => setCell_same (kept_of2 (below_regrown W5 d os) x8)
        have e1 : decide ((pre2.length : Int) + 1 ≤ 153) = true := decide_eq_true (by omega)
        have e2 : (pre2.length : Int) < 153 := by omega
        have e3 : pre2.length < 153 := hl3
        have e4 : IntKind.i64.wrap ((pre2.length : Int) + 1 - 1) = (pre2.length : Int) := by rw [IntKind.wrap_i64]; omega
        have e5 : (pre2.length : Int) + 1 ≤ 153 := by omega
        have e6 : IntKind.i64.wrap (pre2.length : Int) = (pre2.length : Int) := by rw [IntKind.wrap_i64]; omega
        have e7 : wrap64 (pre2.length : Int) = (pre2.length : Int) := by unfold wrap64; omega
        have FIN2 := Lib.hid (fun W6 (hb : Below W5.heap.size W5 W6) => (show KeepsFrom W4.heap.size W W6 ∧ LawInv w W4 bc (pre2 ++ [y]).length W6 ∧ W6.heap[r2]? = some o2 from ⟨hKF2.trans (KeepsFrom.of_grownBy (grownBy_below hb) (fun _ h => by cases h)), by rw [hlen2]; exact law_kept hwW4 hLI2' (grownBy_below hb) (fun r e => by cases e), kept_of2 hb hro3⟩))
        generalize y.row = rr at hy hy3 q0 q1 q2 q3 q4 q5 q6 v0 v1 v2 v3 v4 v5 v6 w0 w1 w2 w3 w4 w5 w6 hwr ⊢
        obtain ⟨code', nm', imm', inn', out', gas', ends'⟩ := rr
        unfold rowC at *
        dsimp only at q0 q1 q2 q3 q4 q5 q6 v0 v1 v2 v3 v4 v5 v6 w0 w1 w2 w3 w4 w5 w6
        clear hwr hlen2
        refine wpIn_region_round (F := Fence.wide) (lp := l2) rfl (by kernel_rfl) (by kernel_rfl) (by kernel_rfl) ?_
        repeat (refine wpQuietIn_step (fun _ _ _ _ => trivial) (fun K hK => ?_); go_simp; refine hK _ ?_; clear hK K)
        refine wpQuietIn_nil ?_
        rintro _ ⟨pq, rfl⟩
        have hbq := below_regrown W5 pq.d pq.os
        clear u5 u8 u10 z8 s8 v0 v1 v2 v3 v4 v5 v6 w0 w1 w2 w3 w4 w5 w6 e1 e2 e3 e4 e6 e7 q0 q1 q2 q3 q4 q5 q6 qz ql
        generalize grow (redrawn W5 pq.d) pq.os = W6 at hbq ⊢
        gi_wp2
        exact FIN2.out W6 hbq
    case done3 =>
      rintro D3 xs3 W9 hD3 rfl hLI3 hK3
      obtain ⟨jB, jS, jK, j10⟩ := hLI3
      have y2 := (jK (w.heap.size + 1 + 1) (by omega) (by omega)).trans m2
      have y8 := (jK (b5 + 1 + 1 + 1) (by omega) (by omega)).trans m8
      have yD := (jK D (by omega) (by omega)).trans mD
      obtain ⟨e2, f2⟩ := cell_of1 y2
      obtain ⟨e8, f8⟩ := cell_of1 y8
      clear jK j10
      gi_wp2
      have hK10 := (KeepsOthers.setCell W9 ⟨w.heap.size + 1 + 1, 0, none⟩ (.bool true)).same D3 _ hK3 rfl
      have hD10 := (KeepsOthers.setCell W9 ⟨w.heap.size + 1 + 1, 0, none⟩ (.bool true)).same D _ yD rfl
      have hv10 := heap_set1 y2 (.bool true)
      have hB10 := jB.setCell (p := ⟨w.heap.size + 1 + 1, 0, none⟩) (by dsimp only; omega) (.bool true)
      have hgA := grownBy_putObj' (W9.setCell ⟨w.heap.size + 1 + 1, 0, none⟩ (.bool true)) D3 (.deferred none)
      have hrA : ∀ r, some D3 = some r → W4.heap.size ≤ r ∧ ∃ o : Obj, (W9.setCell ⟨w.heap.size + 1 + 1, 0, none⟩ (.bool true)).heap[r]? = some o ∧ o.isCells = false := fun r e => by cases e; exact ⟨hD3, _, hK10, rfl⟩
      have hv11 := blk_stays (B := W4.heap.size) hv10 hgA hrA
      have hB11 := bel_stays (B := W4.heap.size) hB10 hwW4 hgA hrA
      have hD11 := (hgA.block D (Array.getElem?_eq_some_iff.1 hD10).1 (fun e => by cases e; omega)).trans hD10
      refine ⟨by simp, .inl ⟨_, _, rfl, run_takeDeferred hK10, ?_⟩⟩
      refine ⟨by simp, .inl ⟨_, _, rfl, run_takeDeferred hD11, ?_⟩⟩
      have hgB := grownBy_putObj' ((W9.setCell ⟨w.heap.size + 1 + 1, 0, none⟩ (.bool true)).putObj D3 (.deferred none)) D (.deferred none)
      have hrB : ∀ r, some D = some r → W0.heap.size ≤ r ∧ ∃ o : Obj, ((W9.setCell ⟨w.heap.size + 1 + 1, 0, none⟩ (.bool true)).putObj D3 (.deferred none)).heap[r]? = some o ∧ o.isCells = false := fun r e => by cases e; exact ⟨hD, _, hD11, rfl⟩
      refine ⟨_, all_end rfl (blk_stays (B := W0.heap.size) hv11 hgB hrB), rfl, bel_stays (B := W0.heap.size) hB11 hwW hgB hrB⟩
    case stop3 =>
      rintro D3 c pre2 W9 hD3 hpre2 ⟨rfl, hLI3⟩ hK3
      obtain ⟨jB, jS, jK, j10⟩ := hLI3
      have y2 := (jK (w.heap.size + 1 + 1) (by omega) (by omega)).trans m2
      have y8 := (jK (b5 + 1 + 1 + 1) (by omega) (by omega)).trans m8
      have yD := (jK D (by omega) (by omega)).trans mD
      obtain ⟨e2, f2⟩ := cell_of1 y2
      obtain ⟨e8, f8⟩ := cell_of1 y8
      clear jK j10
      gi_wp2
      have hK10 := (KeepsOthers.setCell W9 ⟨w.heap.size + 1 + 1, 0, none⟩ (.bool true)).same D3 _ hK3 rfl
      have hD10 := (KeepsOthers.setCell W9 ⟨w.heap.size + 1 + 1, 0, none⟩ (.bool true)).same D _ yD rfl
      have hv10 := heap_set1 y2 (.bool true)
      have hB10 := jB.setCell (p := ⟨w.heap.size + 1 + 1, 0, none⟩) (by dsimp only; omega) (.bool true)
      have hgA := grownBy_putObj' (W9.setCell ⟨w.heap.size + 1 + 1, 0, none⟩ (.bool true)) D3 (.deferred none)
      have hrA : ∀ r, some D3 = some r → W4.heap.size ≤ r ∧ ∃ o : Obj, (W9.setCell ⟨w.heap.size + 1 + 1, 0, none⟩ (.bool true)).heap[r]? = some o ∧ o.isCells = false := fun r e => by cases e; exact ⟨hD3, _, hK10, rfl⟩
      have hv11 := blk_stays (B := W4.heap.size) hv10 hgA hrA
      have hB11 := bel_stays (B := W4.heap.size) hB10 hwW4 hgA hrA
      have hD11 := (hgA.block D (Array.getElem?_eq_some_iff.1 hD10).1 (fun e => by cases e; omega)).trans hD10
      refine ⟨by simp, .inl ⟨_, _, rfl, run_takeDeferred hK10, ?_⟩⟩
      refine ⟨by simp, .inl ⟨_, _, rfl, run_takeDeferred hD11, ?_⟩⟩
      have hgB := grownBy_putObj' ((W9.setCell ⟨w.heap.size + 1 + 1, 0, none⟩ (.bool true)).putObj D3 (.deferred none)) D (.deferred none)
      have hrB : ∀ r, some D = some r → W0.heap.size ≤ r ∧ ∃ o : Obj, ((W9.setCell ⟨w.heap.size + 1 + 1, 0, none⟩ (.bool true)).putObj D3 (.deferred none)).heap[r]? = some o ∧ o.isCells = false := fun r e => by cases e; exact ⟨hD, _, hD11, rfl⟩
      refine ⟨_, all_end rfl (blk_stays (B := W0.heap.size) hv11 hgB hrB), rfl, bel_stays (B := W0.heap.size) hB11 hwW hgB hrB⟩
  case stop =>
    rintro D c pre W hD hpre hn hK
    exact hn.elim
end Go.Proofs.YtchhbifldfnppaaDoor
