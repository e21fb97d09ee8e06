/- vouchlaw4.OpFits returns true. -/
import Derived.Test.YtchhbifldfnppaaDoorRows4
import Derived.Test.YtchhbifldfnppaaDoorRNeeds
import Derived.Test.YtchhbifldfnppaaDoorRound
import Derived.Laws.BitsLemmas
namespace Go.Proofs.YtchhbifldfnppaaDoor
open Go.RowKit Vouch Go.Vk Go.Shelf Go.Sort
attribute [local go_sem] Oper.semAt_some
attribute [local go_sem] run_eql_fnil
/-- How many immediate bytes a row asks for, where the first is k. -/
def immK (r : OpRow) (k : Int) : Nat := if r.imm = -1 then (2 * k + 3).toNat else r.imm.toNat
/-- m of the bytes k, 0, 0, .. -/
def zsK (k : Int) (n m : Nat) : List Int := (k :: List.replicate n 0).take m
theorem zsK_length {k : Int} {n m : Nat} (h : m ≤ n + 1) : (zsK k n m).length = m := by unfold zsK; simp; omega
theorem zsK_range {k : Int} {n m : Nat} (h0 : 0 ≤ k) (h1 : k < 256) : ∀ z ∈ zsK k n m, 0 ≤ z ∧ z < 256 := by
  intro z hz
  have := List.mem_of_mem_take hz
  rcases List.mem_cons.1 this with rfl | h
  · exact ⟨h0, h1⟩
  · obtain ⟨_, rfl⟩ := List.mem_replicate.1 h
    omega
theorem zsK_getD {k : Int} {n m : Nat} (h : 0 < m) : (zsK k n m).getD 0 0 = k := by
  unfold zsK
  obtain ⟨j, rfl⟩ : ∃ j, m = j + 1 := ⟨m - 1, by omega⟩
  simp
theorem needsOf_len1 {c : Int} {z : List Int} (h : isOp c = true) (h1 : ¬ ((opR c).imm = -1 ∧ z.length = 0)) (h2 : (z.length : Int) = immN (opR c) (z.getD 0 0)) : (needsOf c z).2.2 = true := by
  by_cases h3 : c = 230 ∨ c = 231
  · rw [needsOf_dup h h1 h2 h3]
  · by_cases h4 : c = 232
    · rw [needsOf_ex h h1 h2 h3 h4]
    · rw [needsOf_else h h1 h2 h3 h4]
theorem immK_of {r : OpRow} {k : Int} (h0 : 0 ≤ k) (hr : -1 ≤ r.imm) : (immK r k : Int) = immN r k := by
  unfold immK immN
  by_cases h : r.imm = -1
  · rw [if_pos h, if_pos h]; omega
  · rw [if_neg h, if_neg h]; omega
theorem fit_right {c : Int} {k : Int} {n : Nat} (h : isOp c = true) (h0 : 0 ≤ k) (hr : -1 ≤ (opR c).imm) (hn : n = immK (opR c) k) : (needsOf c (zsK k n n)).2.2 = true := by
  have e := immK_of h0 hr
  rw [← hn] at e
  refine needsOf_len1 h ?_ ?_
  · rw [zsK_length (by omega)]
    rintro ⟨h1, h2⟩
    unfold immN at e
    rw [if_pos h1] at e
    omega
  · rw [zsK_length (by omega)]
    by_cases h2 : 0 < n
    · rw [zsK_getD h2]; exact e
    · have : ¬ (opR c).imm = -1 := fun h1 => by unfold immN at e; rw [if_pos h1] at e; omega
      unfold immN at e ⊢
      rw [if_neg this] at e ⊢
      exact e
theorem fit_other {c : Int} {k : Int} {n m : Nat} (h : isOp c = true) (h0 : 0 ≤ k) (hr : -1 ≤ (opR c).imm) (hn : n = immK (opR c) k) (hm : m ≤ n + 1) (hne : m ≠ n) (h2 : (opR c).imm = -1 → 0 < m) : (needsOf c (zsK k n m)).2.2 = false := by
  have e := immK_of h0 hr
  rw [← hn] at e
  rw [needsOf_len h]
  rw [zsK_length hm]
  by_cases h1 : (opR c).imm = -1
  · rw [zsK_getD (h2 h1), ← e]; omega
  · unfold immN at e ⊢
    rw [if_neg h1] at e ⊢
    omega
theorem ints_row {w : World} {b : Nat} {t : TypeId} {n : Nat} {f : Nat → Value} {kk : IntKind} {zs : List Int} (h : w.rowIs b t n f) (hl : zs.length ≤ n) (hz : ∀ i, i < zs.length → f i = .int kk (zs.getD i 0)) : IntsAt w kk (some ⟨b, 0, none⟩) zs := fun i hi =>
  ⟨_, rfl, by have := (h.cell (i := i) (by omega)).trans (congrArg some (hz i hi)); rw [show (⟨b, 0, none⟩ : Addr).add i = ⟨b, i, none⟩ by unfold Addr.add; split <;> simp_all]; exact this⟩
theorem zsK_at {k : Int} {n m i : Nat} (hm : m ≤ n + 1) (hi : i < m) : (if i = 0 then Value.int .u8 k else .int .u8 0) = .int .u8 ((zsK k n m).getD i 0) := by
  unfold zsK
  cases i with
  | zero => rw [if_pos rfl]; obtain ⟨j, rfl⟩ : ∃ j, m = j + 1 := ⟨m - 1, by omega⟩; simp
  | succ i =>
    rw [if_neg (by omega), List.getD_eq_getElem?_getD, List.getElem?_take, if_pos hi, List.getElem?_cons_succ, List.getElem?_replicate, if_pos (by omega)]
    rfl
theorem needs_zsK (c k : Int) (n m : Nat) (A : Addr) (cap : Nat) (w : World) (hm : m ≤ n + 1) (h : IntsAt w .u8 (some A) (zsK k n m)) (h0 : 0 ≤ k) (h1 : k < 256) (hn : n ≤ 1000) (r : Bool) (hr : (needsOf c (zsK k n m)).2.2 = r) :
    Calls Tryd.prog 17 #[.int .i64 c, .slice (some A) m cap] w fun e w' => e = .returned (.tuple #[.int .i64 (needsOf c (zsK k n m)).1, .int .i64 (needsOf c (zsK k n m)).2.1, .bool r]) ∧ Below w.heap.size w w' := by
  have := needs_any c (some A) cap (zsK k n m) w h (zsK_range h0 h1) (by rw [zsK_length hm]; omega)
  rw [zsK_length hm] at this
  refine this.mono ?_
  rintro e w' ⟨rfl, hb⟩
  exact ⟨by unfold needsV; rw [hr], hb⟩
theorem hrow2_of (w : World) (n : Nat) (k : Int) : (w.alloc (.cells ((madeCells #[.int .u8 0] (n + 1)).setIfInBounds 0 (.int .u8 k)) 5)).rowIs w.heap.size 5 (n + 1) (fun j => if j = 0 then .int .u8 k else .int .u8 0) :=
  ⟨_, heap_alloc_new _ _, by simp [size_madeCells], fun i hi => by
    rw [Array.getElem?_setIfInBounds]
    by_cases e : i = 0
    · subst e; simp [size_madeCells]
    · rw [if_neg (fun h => e h.symm)]
      show _ = some (if i = 0 then Value.int .u8 k else .int .u8 0)
      rw [if_neg e]
      simp [madeCells, hi, Nat.mod_one]⟩
theorem heap_allocs1 (w : World) (o o' : Obj) : ((w.alloc o).alloc o').heap[w.heap.size + 1]? = some o' := by
  have := heap_alloc_new (w.alloc o) o'
  simpa using this
theorem fits_end {W : World} {g : Nat} {b : Bool} {tmps : Array Value} (h2 : tmps.getD 2 undef = .pointer (some ⟨g, 0, none⟩)) (hA : W.heap[g]? = some (.cells #[.bool b] 4)) :
    (results Tryd.f8 tmps).run Tryd.prog W = .ok (.bool b) W := by
  have hc : W.cell? ⟨g, 0, none⟩ = some (.bool b) := by simp [World.cell?, hA]
  have h2' : tmps[2]?.getD undef = .pointer (some ⟨g, 0, none⟩) := by simpa using h2
  simp [results, h2', asAddr, loadVar, go_sem, hc]
set_option maxHeartbeats 4000000 in
set_option maxRecDepth 100000 in
theorem opfits_walk (k : Int) (w : World) (_hk : (Lit.int .i64 k).wf = true) :
    Calls Tryd.prog 8 #[.int .i64 k] w fun e w' => e = .returned (.bool true) ∧ Below w.heap.size w w' := by
  by_cases hk0 : k < 0
  · go_enter Tryd.func8, Tryd.ntmps8
    go_wp2
    refine bodyPost_ret_by (fits_end rfl (heap_allocs1 _ _ _)) rfl ⟨rfl, ((Below.refl _ _).alloc (Nat.le_refl _) _).alloc (by simp) _⟩
  by_cases hk1 : 255 < k
  · go_enter Tryd.func8, Tryd.ntmps8
    go_wp2
    refine bodyPost_ret_by (fits_end rfl (heap_allocs1 _ _ _)) rfl ⟨rfl, ((Below.refl _ _).alloc (Nat.le_refl _) _).alloc (by simp) _⟩
  refine (callsIn_wide (n := 8)).1 ?_
  refine callsIn_of_wp_marks Tryd.func8 rfl trivial ?_ rfl
  simp only [Tryd.ntmps8, List.size_toArray, List.length_cons, List.length_nil, Nat.reduceAdd, Nat.reduceSub, Array.replicate_succ, Array.replicate_zero, List.push_toArray, List.append_toArray, List.nil_append, List.cons_append]
  gi_wp2_with (refine ⟨trivial, ?_⟩; gi_at_call 13; refine (callsIn_wide.2 (all_val _)).mono ?_; rintro e w' ⟨rfl, rfl⟩)
  have b2 : ((w.alloc (.cells #[.int .i64 k] 3)).alloc (.cells #[.bool false] 4)).heap[w.heap.size + 1]? = some (.cells #[.bool false] 4) := by
    have := heap_alloc_new (w.alloc (.cells #[.int .i64 k] 3)) (.cells #[.bool false] 4)
    simpa using this
  have b1 : ((w.alloc (.cells #[.int .i64 k] 3)).alloc (.cells #[.bool false] 4)).heap[w.heap.size]? = some (.cells #[.int .i64 k] 3) := by
    rw [Below.heap_alloc _ _ _ (by simp)]
    exact heap_alloc_new _ _
  have hB0 : Below w.heap.size w ((w.alloc (.cells #[.int .i64 k] 3)).alloc (.cells #[.bool false] 4)) := ((Below.refl _ _).alloc (Nat.le_refl _) _).alloc (by simp) _
  generalize ((w.alloc (.cells #[.int .i64 k] 3)).alloc (.cells #[.bool false] 4)) = W0 at b1 b2 hB0 ⊢
  have hsz : w.heap.size + 1 < W0.heap.size := (Array.getElem?_eq_some_iff.1 b2).1
  refine wpIn_rangeFunc_ownH rfl (by omega) (gf := 24) (lb := #[]) rfl trivial (enters_of Tryd.func24 (by kernel_rfl) rfl) (all_stopsX 4 (fun _ _ => True) W0) (fun _ _ => trivial) (fun _ _ _ _ _ _ _ _ => trivial) (Below.refl _ _) (fun _ => rfl)
    (fun _ W => W.heap[w.heap.size]? = some (.cells #[.int .i64 k] 3) ∧ W.heap[w.heap.size + 1]? = some (.cells #[.bool false] 4) ∧ Below w.heap.size w W)
    (fun _ _ _ => False)
    (fun s W W' row hs hg hr => ⟨blk_kept hs.1 hg hr, blk_kept hs.2.1 hg hr, below_kept hs.2.2 (by omega) hg hr⟩)
    (fun c s W W' row hs hg hr => hs)
    ⟨b1, b2, hB0⟩
    (fun x a' W => ∃ Bx, w.heap.size + 1 < Bx ∧ W.heap[Bx]? = some (.cells (rowC x.row) 24) ∧ a' = { tmps := #[.int .i64 k, .pointer (some ⟨w.heap.size, 0, none⟩), .pointer (some ⟨w.heap.size + 1, 0, none⟩), .func (.func 24) #[] #[], .pointer (some ⟨Bx, 0, none⟩), undef, undef, undef, undef, undef, undef, undef, undef, undef, undef, undef, .int .i64 k, .bool false, .bool false, .int .i64 k, .bool false, .bool false, .func (.func 24) #[] #[], .func (.func 24) #[] #[], .bool false, .func (.func 24) #[] #[], .agg (rowC x.row), undef, undef, undef, undef, undef, undef, undef, undef, undef, undef, undef, undef, undef, undef, undef, undef, undef, undef, undef, undef, undef, undef, undef, undef, undef, undef, undef, undef, undef, undef, undef, undef, undef, undef, undef, undef, undef, undef, undef, undef, undef, undef, undef, undef, undef, undef, undef, undef, undef, undef, undef, undef, undef], defers := [] })
    (fun x a' _ W W' row hs hg hr => by
      obtain ⟨Bx, h1, h2, h3⟩ := hs
      exact ⟨Bx, h1, blk_kept h2 hg hr, h3⟩) ?assign ?body ?done ?stop
  case assign =>
    rintro l pre x W K hi hK
    unfold rowC
    gi_wp2
    have hlt : w.heap.size + 1 < W.heap.size := (Array.getElem?_eq_some_iff.1 hi.2.1).1
    exact hK _ _ ((KeepsOthers.alloc _ _).from _) trivial ⟨(Below.heap_alloc _ _ _ (by omega)).trans hi.1, (Below.heap_alloc _ _ _ (by omega)).trans hi.2.1, hi.2.2.alloc hi.2.2.size _⟩ ⟨W.heap.size, hlt, heap_alloc_new _ _, rfl⟩
  case body =>
    rintro l pre x a' W hl ⟨lr, hlr⟩ ⟨h1, h2, hB⟩ ⟨Bx, hbx, hx, rfl⟩ hlt
    have c1 : W.cell? ⟨w.heap.size, 0, none⟩ = some (.int .i64 k) := by simp [World.cell?, h1]
    have f1 : W.frozen? ⟨w.heap.size, 0, none⟩ = false := by simp [World.frozen?, h1]
    obtain ⟨hofr, hofi⟩ := of_code x
    have hr := row_ok x
    have hright := @fit_right (x.1 : Int) k (immK (opR (x.1 : Int)) k) hofi (by omega)
    have hother := @fit_other (x.1 : Int) k (immK (opR (x.1 : Int)) k)
    unfold rowOk at hr
    simp only [Bool.and_eq_true, decide_eq_true_eq, beq_iff_eq, Bool.or_eq_true] at hr
    obtain ⟨⟨⟨⟨⟨⟨⟨g0, g1⟩, g2⟩, g3⟩, g4⟩, g5⟩, g6⟩, g7⟩ := hr
    have hn : immK (opR (x.1 : Int)) k = immK x.row k := by rw [hofr]
    have himk : (immK x.row k : Int) = immN x.row k := immK_of (by omega) g5
    rw [hn, hofr] at hright hother
    clear hofr hn
    generalize hxr : x.row = r at hx hright hother g0 g1 g2 g3 g4 g5 g6 g7 himk ⊢
    generalize immK r k = n at hright hother himk
    have hn : n ≤ 1000 := by
      unfold immN at himk
      split at himk <;> omega
    have hr := hright g5 rfl
    have hmore := hother (m := n + 1) hofi (by omega) g5 rfl (by omega) (by omega) (fun _ => by omega)
    have hfew : 0 < n → (needsOf (x.1 : Int) (zsK k n (n - 1))).2.2 = false := fun h => hother hofi (by omega) g5 rfl (by omega) (by omega) (fun h2 => by unfold immN at himk; rw [if_pos h2] at himk; omega)
    clear hright hother
    have HR := Lib.hid hr
    have HM := Lib.hid hmore
    have HF := Lib.hid hfew
    clear hr hmore hfew
    obtain ⟨code, nm, imm, inn, out, gas, ends⟩ := r
    dsimp only at g0 g1 g2 g3 g4 g5 g6 g7
    subst g0
    have HX := Lib.hid hx
    obtain ⟨q0, q1, q2, q3, q4, q5, q6, qz, ql⟩ := cells7 hx
    clear hx
    have hmk := run_make_row' (P := Tryd.prog) 39 5 (.int .u8 0) 1 Tryd.underlying39 (by kernel_rfl) rfl .i64 .i64 (n + 1) (by omega) (by omega)
    rw [show ((n + 1 : Nat) : Int) = (n : Int) + 1 by omega] at hmk
    have hrow := (World.rowIs_made W (.int .u8 0) (n + 1) 5)
    have y0 := hrow.cell (i := 0) (by omega)
    have y1 := hrow.frozen 0
    have hlen : (0 : Int) < (n : Int) + 1 := by omega
    have a1 := cell_later ((Below.refl _ _).alloc (Nat.le_refl _) (.cells (madeCells #[.int .u8 0] (n + 1)) 5)) c1
    have m1 : (W.alloc (.cells ((madeCells #[.int .u8 0] (n + 1)).setIfInBounds 0 (.int .u8 k)) 5)).heap[w.heap.size]? = some (.cells #[.int .i64 k] 3) := (Below.heap_alloc _ _ _ (by omega)).trans h1
    have m2 : (W.alloc (.cells ((madeCells #[.int .u8 0] (n + 1)).setIfInBounds 0 (.int .u8 k)) 5)).heap[w.heap.size + 1]? = some (.cells #[.bool false] 4) := (Below.heap_alloc _ _ _ (by omega)).trans h2
    have mx : (W.alloc (.cells ((madeCells #[.int .u8 0] (n + 1)).setIfInBounds 0 (.int .u8 k)) 5)).heap[Bx]? = some (.cells (rowC ⟨(x.1 : Int), nm, imm, inn, out, gas, ends⟩) 24) := (Below.heap_alloc _ _ _ ql).trans HX.out
    have mr : (W.alloc (.cells ((madeCells #[.int .u8 0] (n + 1)).setIfInBounds 0 (.int .u8 k)) 5)).rowIs W.heap.size 5 (n + 1) (fun j => if j = 0 then .int .u8 k else .int .u8 0) := hrow2_of _ _ _
    have mB : Below w.heap.size w (W.alloc (.cells ((madeCells #[.int .u8 0] (n + 1)).setIfInBounds 0 (.int .u8 k)) 5)) := hB.alloc hB.size _
    have mK : KeepsFrom W0.heap.size W (W.alloc (.cells ((madeCells #[.int .u8 0] (n + 1)).setIfInBounds 0 (.int .u8 k)) 5)) := (KeepsOthers.alloc _ _).from _
    have mZ : ∀ m, m ≤ n + 1 → IntsAt (W.alloc (.cells ((madeCells #[.int .u8 0] (n + 1)).setIfInBounds 0 (.int .u8 k)) 5)) .u8 (some ⟨W.heap.size, 0, none⟩) (zsK k n m) := fun m hm => ints_row mr (by rw [zsK_length hm]; exact hm) (fun i hi => by rw [zsK_length hm] at hi; exact zsK_at hm hi)
    have MZ := Lib.hid mZ
    clear mZ
    unfold rowC
    by_cases him : imm = -1
    · subst him
      have e : 1 + 2 * (k + 1) = (n : Int) := by rw [himk]; unfold immN; simp; omega
      clear himk
      gi_wp2
      generalize (W.alloc (.cells ((madeCells #[.int .u8 0] (n + 1)).setIfInBounds 0 (.int .u8 k)) 5)) = W1 at m1 m2 mx mr mB mK MZ ⊢
      clear a1 y0 y1 hrow hmk q0 q1 q2 q3 q4 q5 q6 qz
      obtain ⟨q0, q1, q2, q3, q4, q5, q6, qz, ql2⟩ := cells7 mx
      have u0 := fun d os => cell_regrown q0 d os
      have uN := fun r d os => callsIn_grown (w := W1) (r := r) (fun w1 hb => needs_zsK (x.1 : Int) k n n ⟨W.heap.size, 0, none⟩ (n + 1) w1 (by omega) (ints_below hb (MZ.out n (by omega))) (by omega) (by omega) hn true HR.out) d os
      generalize (needsOf (x.1 : Int) (zsK k n n)).1 = na, (needsOf (x.1 : Int) (zsK k n n)).2.1 = nb at uN
      have hle : (n : Int) ≤ (n : Int) + 1 := by omega
      refine wpIn_region_round rfl (by kernel_rfl) (by kernel_rfl) (by kernel_rfl) ?_
      repeat (refine wpQuietIn_step (fun _ _ _ _ => trivial) (fun K hK => ?_); go_simp; first | (refine hK _ ?_; clear hK K) | (apply Exists.intro; refine ⟨fun _ => ?_, hK _ ?_⟩; exact uN _ _ _; clear hK K))
      refine wpQuietIn_nil ?_
      rintro _ ⟨p, rfl⟩
      have hb1 := below_regrown W1 p.d p.os
      generalize grow (redrawn W1 p.d) p.os = W2 at hb1 ⊢
      clear u0 uN
      have x2 := kept_of hb1 mx
      obtain ⟨o0, o1, o2, o3, o4, o5, o6, oz, ol⟩ := cells7 x2
      by_cases hn0 : n = 0
      · exfalso
        omega
      · have hpos : decide ((0 : Int) < (n : Int)) = true := decide_eq_true (by omega)
        have hwr : IntKind.i64.wrap ((n : Int) - 1) = (n : Int) - 1 := by rw [IntKind.wrap_i64]; omega
        gi_wp2_with (refine ⟨trivial, ?_⟩; gi_at_call 17; refine (CallsIn.inRound l (callsIn_wide.2 (needs_zsK (x.1 : Int) k n (n + 1) ⟨W.heap.size, 0, none⟩ (n + 1) _ (by omega) (ints_below hb1 (MZ.out (n + 1) (by omega))) (by omega) (by omega) hn false HM.out))).mono ?_; rintro e W3 ⟨rfl, hb3⟩)
        have hB1 := hb1.trans (hb3.mono hb1.size)
        have x3 := kept_of hB1 mx
        clear o0 o1 o2 o3 o4 o5 o6 oz ol q0 q1 q2 q3 q4 q5 q6 qz
        obtain ⟨o0, o1, o2, o3, o4, o5, o6, oz, ol⟩ := cells7 x3
        have u0 := fun d os => cell_regrown o0 d os
        have uN := fun r d os => callsIn_grown (w := W3) (r := r) (fun w1 hb => needs_zsK (x.1 : Int) k n (n - 1) ⟨W.heap.size, 0, none⟩ (n + 1) w1 (by omega) (ints_below hb (ints_below hB1 (MZ.out (n - 1) (by omega)))) (by omega) (by omega) hn false (HF.out (by omega))) d os
        have hle0 : (1 : Int) ≤ (n : Int) := by omega
        have hle2 : (0 : Int) ≤ (n : Int) - 1 := by omega
        have hle1 : (n : Int) - 1 ≤ (n : Int) + 1 := by omega
        have hto : ((n : Int) - 1).toNat = n - 1 := by omega
        refine wpIn_region_round rfl (by kernel_rfl) (by kernel_rfl) (by kernel_rfl) ?_
        repeat (refine wpQuietIn_step (fun _ _ _ _ => trivial) (fun K hK => ?_); go_simp; first | (refine hK _ ?_; clear hK K) | (apply Exists.intro; refine ⟨fun _ => ?_, hK _ ?_⟩; exact uN _ _ _; clear hK K))
        refine wpQuietIn_nil ?_
        rintro _ ⟨p', rfl⟩
        have hb4 := below_regrown W3 p'.d p'.os
        generalize grow (redrawn W3 p'.d) p'.os = W4 at hb4 ⊢
        clear u0 uN
        gi_wp2
        have hB2 := hB1.trans (hb4.mono hB1.size)
        have hKB : KeepsFrom W0.heap.size W1 W4 := KeepsFrom.of_grownBy (grownBy_below hB2) (fun _ h => by cases h)
        exact ⟨mK.trans hKB, trivial, kept_of hB2 m1, kept_of hB2 m2, mB.trans (hB2.mono mB.size)⟩
    · obtain rfl : imm = n := by rw [himk]; unfold immN; rw [if_neg him]
      clear himk
      gi_wp2
      generalize (W.alloc (.cells ((madeCells #[.int .u8 0] (n + 1)).setIfInBounds 0 (.int .u8 k)) 5)) = W1 at m1 m2 mx mr mB mK MZ ⊢
      clear a1 y0 y1 hrow hmk q0 q1 q2 q3 q4 q5 q6 qz
      obtain ⟨q0, q1, q2, q3, q4, q5, q6, qz, ql2⟩ := cells7 mx
      have u0 := fun d os => cell_regrown q0 d os
      have uN := fun r d os => callsIn_grown (w := W1) (r := r) (fun w1 hb => needs_zsK (x.1 : Int) k n n ⟨W.heap.size, 0, none⟩ (n + 1) w1 (by omega) (ints_below hb (MZ.out n (by omega))) (by omega) (by omega) hn true HR.out) d os
      generalize (needsOf (x.1 : Int) (zsK k n n)).1 = na, (needsOf (x.1 : Int) (zsK k n n)).2.1 = nb at uN
      have hle : (n : Int) ≤ (n : Int) + 1 := by omega
      refine wpIn_region_round rfl (by kernel_rfl) (by kernel_rfl) (by kernel_rfl) ?_
      repeat (refine wpQuietIn_step (fun _ _ _ _ => trivial) (fun K hK => ?_); go_simp; first | (refine hK _ ?_; clear hK K) | (apply Exists.intro; refine ⟨fun _ => ?_, hK _ ?_⟩; exact uN _ _ _; clear hK K))
      refine wpQuietIn_nil ?_
      rintro _ ⟨p, rfl⟩
      have hb1 := below_regrown W1 p.d p.os
      generalize grow (redrawn W1 p.d) p.os = W2 at hb1 ⊢
      clear u0 uN
      have x2 := kept_of hb1 mx
      obtain ⟨o0, o1, o2, o3, o4, o5, o6, oz, ol⟩ := cells7 x2
      by_cases hn0 : n = 0
      · have hnp : ¬ (0 : Int) < (n : Int) := by omega
        clear hn0
        gi_wp2_with (refine ⟨trivial, ?_⟩; gi_at_call 17; refine (CallsIn.inRound l (callsIn_wide.2 (needs_zsK (x.1 : Int) k n (n + 1) ⟨W.heap.size, 0, none⟩ (n + 1) _ (by omega) (ints_below hb1 (MZ.out (n + 1) (by omega))) (by omega) (by omega) hn false HM.out))).mono ?_; rintro e W3 ⟨rfl, hb3⟩)
        have hB1 := hb1.trans (hb3.mono hb1.size)
        have hKB : KeepsFrom W0.heap.size W1 W3 := KeepsFrom.of_grownBy (grownBy_below hB1) (fun _ h => by cases h)
        exact ⟨mK.trans hKB, trivial, kept_of hB1 m1, kept_of hB1 m2, mB.trans (hB1.mono mB.size)⟩
      · have hpos : decide ((0 : Int) < (n : Int)) = true := decide_eq_true (by omega)
        have hwr : IntKind.i64.wrap ((n : Int) - 1) = (n : Int) - 1 := by rw [IntKind.wrap_i64]; omega
        gi_wp2_with (refine ⟨trivial, ?_⟩; gi_at_call 17; refine (CallsIn.inRound l (callsIn_wide.2 (needs_zsK (x.1 : Int) k n (n + 1) ⟨W.heap.size, 0, none⟩ (n + 1) _ (by omega) (ints_below hb1 (MZ.out (n + 1) (by omega))) (by omega) (by omega) hn false HM.out))).mono ?_; rintro e W3 ⟨rfl, hb3⟩)
        have hB1 := hb1.trans (hb3.mono hb1.size)
        have x3 := kept_of hB1 mx
        clear o0 o1 o2 o3 o4 o5 o6 oz ol q0 q1 q2 q3 q4 q5 q6 qz
        obtain ⟨o0, o1, o2, o3, o4, o5, o6, oz, ol⟩ := cells7 x3
        have u0 := fun d os => cell_regrown o0 d os
        have uN := fun r d os => callsIn_grown (w := W3) (r := r) (fun w1 hb => needs_zsK (x.1 : Int) k n (n - 1) ⟨W.heap.size, 0, none⟩ (n + 1) w1 (by omega) (ints_below hb (ints_below hB1 (MZ.out (n - 1) (by omega)))) (by omega) (by omega) hn false (HF.out (by omega))) d os
        have hle0 : (1 : Int) ≤ (n : Int) := by omega
        have hle2 : (0 : Int) ≤ (n : Int) - 1 := by omega
        have hle1 : (n : Int) - 1 ≤ (n : Int) + 1 := by omega
        have hto : ((n : Int) - 1).toNat = n - 1 := by omega
        refine wpIn_region_round rfl (by kernel_rfl) (by kernel_rfl) (by kernel_rfl) ?_
        repeat (refine wpQuietIn_step (fun _ _ _ _ => trivial) (fun K hK => ?_); go_simp; first | (refine hK _ ?_; clear hK K) | (apply Exists.intro; refine ⟨fun _ => ?_, hK _ ?_⟩; exact uN _ _ _; clear hK K))
        refine wpQuietIn_nil ?_
        rintro _ ⟨p', rfl⟩
        have hb4 := below_regrown W3 p'.d p'.os
        generalize grow (redrawn W3 p'.d) p'.os = W4 at hb4 ⊢
        clear u0 uN
        gi_wp2
        have hB2 := hB1.trans (hb4.mono hB1.size)
        have hKB : KeepsFrom W0.heap.size W1 W4 := KeepsFrom.of_grownBy (grownBy_below hB2) (fun _ h => by cases h)
        exact ⟨mK.trans hKB, trivial, kept_of hB2 m1, kept_of hB2 m2, mB.trans (hB2.mono mB.size)⟩
  case done =>
    rintro D ys W hD rfl ⟨h1, h2, hB⟩ hK
    have c0 : W.cell? ⟨w.heap.size + 1, 0, none⟩ = some (.bool false) := by simp [World.cell?, h2]
    have f0 : W.frozen? ⟨w.heap.size + 1, 0, none⟩ = false := by simp [World.frozen?, h2]
    gi_wp2
    refine ⟨trivial, ?_⟩
    gi_at_call 11
    refine (callsIn_wide.2 (awake_any _)).mono ?_
    rintro e w1 ⟨rfl, hb⟩
    have h2b := kept_of hb h2
    have c1 : w1.cell? ⟨w.heap.size + 1, 0, none⟩ = some (.bool false) := by simp [World.cell?, h2b]
    have f1 : w1.frozen? ⟨w.heap.size + 1, 0, none⟩ = false := by simp [World.frozen?, h2b]
    gi_wp2
    have hKD := (hb.block D (Array.getElem?_eq_some_iff.1 hK).1).trans hK
    have hK' := (KeepsOthers.setCell w1 ⟨w.heap.size + 1, 0, none⟩ (.bool true)).same D _ hKD rfl
    have hv : Boxed (w1.setCell ⟨w.heap.size + 1, 0, none⟩ (.bool true)) (w.heap.size + 1) 4 (.bool true) := (show Boxed _ _ _ _ from h2b).set _
    have hv2 := blk_kept (B := W0.heap.size) hv (grownBy_putObj' _ D (.deferred none)) (fun r e => by cases e; exact ⟨hD, _, hK', rfl⟩)
    refine ⟨by simp, .inl ⟨_, _, rfl, run_takeDeferred hK', ?_⟩⟩
    refine ⟨_, fits_end rfl hv2, rfl, ?_⟩
    exact below_kept (B := W0.heap.size) ((hB.trans (hb.mono hB.size)).setCell (by simp) _) (by omega) (grownBy_putObj' _ D (.deferred none)) (fun r e => by cases e; exact ⟨hD, _, hK', rfl⟩)
  case stop =>
    rintro D c pre W hD hpre hn hK
    exact hn.elim
end Go.Proofs.YtchhbifldfnppaaDoor
