/- vouchlaw4.OpRows returns true. -/
import Derived.Test.YtchhbifldfnppaaDoorIterX
namespace Go.Proofs.YtchhbifldfnppaaDoor
open Go.RowKit Vouch Go.Vk Go.Shelf
attribute [local go_sem] Oper.semAt_some
deriving instance DecidableEq for OpRow
theorem byName_row (x : OpIx) : byName x.row.name = some x.row := by
  obtain ⟨k, hk, ho⟩ := x
  have : ∀ i : Fin 256, isOp (i.1 : Int) = true → byName (opR (i.1 : Int)).name = some (opR (i.1 : Int)) := by decide +kernel
  exact this ⟨k, hk⟩ ho
def upc (i : Nat) (c : Nat) : Bool := (decide (65 ≤ c) && decide (c ≤ 90)) || (decide (0 < i) && decide (48 ≤ c) && decide (c ≤ 57))
theorem name_up (x : OpIx) : ∀ i, (h : i < x.row.name.size) → upc i (x.row.name[i]'h).toNat = true := by
  obtain ⟨k, hk, ho⟩ := x
  have : ∀ i : Fin 256, isOp (i.1 : Int) = true → ∀ j : Fin (opR (i.1 : Int)).name.size, upc j.1 ((opR (i.1 : Int)).name[j.1]'j.2).toNat = true := by decide +kernel
  intro i hi
  exact this ⟨k, hk⟩ ho ⟨i, hi⟩
theorem of_code (x : OpIx) : opR (x.1 : Int) = x.row ∧ isOp (x.1 : Int) = true := ⟨rfl, x.2.2⟩
def lastOf (pre : List OpIx) : Int := ((pre.getLast?).map fun x => (x.1 : Int)).getD (-1)
theorem lastOf_snoc (pre : List OpIx) (x : OpIx) : lastOf (pre ++ [x]) = (x.1 : Int) := by unfold lastOf; simp
theorem lastOf_le (pre : List OpIx) : -1 ≤ lastOf pre ∧ lastOf pre ≤ 255 := by
  unfold lastOf
  cases pre.getLast? with
  | none => simp
  | some x => have := x.2.1; simp; omega
theorem lastOf_lt {pre : List OpIx} {x : OpIx} (h : pre ++ [x] <+: allIx) : lastOf pre < (x.1 : Int) := by
  unfold lastOf
  cases e : pre.getLast? with
  | none => simp; omega
  | some y => have := prefix_rise h y (List.mem_of_getLast? e); simp; omega
theorem run_equalIn_fnil {P : Program} (w : World) (d : Nat) {t : TypeId} {ps rs : Array TypeId} {v : Bool} (f : Fn) (b c : Array Value) (h : P.underlying t = some (.func ps rs v)) : (Op.equalIn (d + 1) t (.func f b c) .nilFunc).run P w = .ok false w := by
  simp [Op.equalIn, run_underlying h]
@[local go_sem] theorem run_eql_fnil (w : World) (f : Fn) (b c : Array Value) : (binOp .eql 32 (.func f b c) .nilFunc).run Tryd.prog w = .ok (.bool false) w := by
  simp only [binOp]
  rw [Sem.run_bind, show (Op.equal 32 (.func f b c) .nilFunc).run Tryd.prog w = .ok false w from run_equalIn_fnil w 9999 f b c Tryd.underlying32]
  rfl
theorem rows_end {W : World} {g : Nat} {b : Bool} {tmps : Array Value} (h2 : tmps.getD 0 undef = .pointer (some ⟨g, 0, none⟩)) (hA : W.heap[g]? = some (.cells #[.bool b] 4)) :
    (results Tryd.f6 tmps).run Tryd.prog W = .ok (.bool b) W := by
  have hc : W.cell? ⟨g, 0, none⟩ = some (.bool b) := by simp [World.cell?, hA]
  have h2' : tmps[0]?.getD undef = .pointer (some ⟨g, 0, none⟩) := by simpa using h2
  simp [results, h2', asAddr, loadVar, go_sem, hc]
set_option maxHeartbeats 4000000 in
set_option maxRecDepth 100000 in
theorem oprows_walk (w : World) :
    Calls Tryd.prog 6 #[] w fun e w' => e = .returned (.bool true) ∧ Below w.heap.size w w' := by
  refine (callsIn_wide (n := 8)).1 ?_
  refine callsIn_of_wp_marks Tryd.func6 rfl trivial ?_ rfl
  simp only [Tryd.ntmps6, List.size_toArray, List.length_nil, Nat.reduceSub, Array.replicate_succ, Array.replicate_zero, List.push_toArray, List.append_toArray, List.nil_append, List.cons_append]
  gi_wp2_with (refine ⟨trivial, ?_⟩; gi_at_call 13; refine (callsIn_wide.2 (all_val _)).mono ?_; rintro e w' ⟨rfl, rfl⟩)
  have b3 : (((w.alloc (.cells #[.bool false] 4)).alloc (.cells #[.int .i64 0] 3)).alloc (.cells #[.int .i64 (-1)] 3)).heap[w.heap.size + 1 + 1]? = some (.cells #[.int .i64 (-1)] 3) := by
    have := heap_alloc_new ((w.alloc (.cells #[.bool false] 4)).alloc (.cells #[.int .i64 0] 3)) (.cells #[.int .i64 (-1)] 3)
    simpa using this
  have b2 : (((w.alloc (.cells #[.bool false] 4)).alloc (.cells #[.int .i64 0] 3)).alloc (.cells #[.int .i64 (-1)] 3)).heap[w.heap.size + 1]? = some (.cells #[.int .i64 0] 3) := by
    rw [Below.heap_alloc _ _ _ (by simp)]
    have := heap_alloc_new (w.alloc (.cells #[.bool false] 4)) (.cells #[.int .i64 0] 3)
    simpa using this
  have b1 : (((w.alloc (.cells #[.bool false] 4)).alloc (.cells #[.int .i64 0] 3)).alloc (.cells #[.int .i64 (-1)] 3)).heap[w.heap.size]? = some (.cells #[.bool false] 4) := by
    rw [Below.heap_alloc _ _ _ (by simp; omega), Below.heap_alloc _ _ _ (by simp)]
    exact heap_alloc_new _ _
  have hB0 : Below w.heap.size w (((w.alloc (.cells #[.bool false] 4)).alloc (.cells #[.int .i64 0] 3)).alloc (.cells #[.int .i64 (-1)] 3)) := (((Below.refl _ _).alloc (Nat.le_refl _) _).alloc (by simp) _).alloc (by simp; omega) _
  generalize (((w.alloc (.cells #[.bool false] 4)).alloc (.cells #[.int .i64 0] 3)).alloc (.cells #[.int .i64 (-1)] 3)) = W0 at b1 b2 b3 hB0 ⊢
  have hsz : w.heap.size + 1 + 1 < W0.heap.size := (Array.getElem?_eq_some_iff.1 b3).1
  refine wpIn_rangeFunc_ownH rfl (by omega) (gf := 24) (lb := #[]) rfl trivial (enters_of Tryd.func24 (by kernel_rfl) rfl) (all_stopsX 4 (fun _ _ => True) W0) (fun _ _ => trivial) (fun _ _ _ _ _ _ _ _ => trivial) (Below.refl _ _) (fun _ => rfl)
    (fun pre W => W.heap[w.heap.size]? = some (.cells #[.bool false] 4) ∧ W.heap[w.heap.size + 1]? = some (.cells #[.int .i64 (pre.length : Nat)] 3) ∧ W.heap[w.heap.size + 1 + 1]? = some (.cells #[.int .i64 (lastOf pre)] 3) ∧ Below w.heap.size w W)
    (fun c pre W => c = .ret ∧ ¬ (pre <+: allIx))
    (fun s W W' row hs hg hr => ⟨blk_kept hs.1 hg hr, blk_kept hs.2.1 hg hr, blk_kept hs.2.2.1 hg hr, below_kept hs.2.2.2 (by omega) hg hr⟩)
    (fun c s W W' row hs hg hr => hs)
    ⟨b1, b2, b3, hB0⟩
    (fun x a' W => ∃ Bx, w.heap.size + 1 + 1 < Bx ∧ W.heap[Bx]? = some (.cells (rowC x.row) 24) ∧ a' = { tmps := #[.pointer (some ⟨w.heap.size, 0, none⟩), .pointer (some ⟨w.heap.size + 1, 0, none⟩), .pointer (some ⟨w.heap.size + 1 + 1, 0, none⟩), .func (.func 24) #[] #[], .pointer (some ⟨Bx, 0, none⟩), undef, undef, undef, undef, undef, undef, .func (.func 24) #[] #[], .func (.func 24) #[] #[], .bool false, .func (.func 24) #[] #[], .agg (rowC x.row), undef, undef, undef, undef, undef, undef, undef, undef, undef, undef, undef, undef, undef, undef, undef, undef, undef, undef, undef, undef, undef, undef, undef, undef, undef, undef, undef, undef, undef, undef, undef, undef, undef, undef, undef, undef, undef, undef, undef, undef, undef, undef, undef, undef, undef, undef, undef, undef, undef, undef, undef, undef, undef, undef, undef, undef, undef, undef, undef, undef, undef, undef, undef, undef, undef, undef, undef, undef, undef, undef, undef, undef, undef, undef, undef, undef, undef, undef, undef, undef, undef, undef, undef, undef, undef, undef, undef, undef, undef, undef, undef, undef, undef, undef, undef, undef, undef, undef, undef, undef, undef, undef, undef, undef, undef, undef, undef, undef, undef, undef], defers := [] })
    (fun x a' _ W W' row hs hg hr => by
      obtain ⟨Bx, h1, h2, h3⟩ := hs
      exact ⟨Bx, h1, blk_kept h2 hg hr, h3⟩) ?assign ?body ?done ?stop
  case assign =>
    rintro l pre x W K hi hK
    unfold rowC
    gi_wp2
    have hlt : w.heap.size + 1 + 1 < W.heap.size := (Array.getElem?_eq_some_iff.1 hi.2.2.1).1
    exact hK _ _ ((KeepsOthers.alloc _ _).from _) trivial ⟨(Below.heap_alloc _ _ _ (by omega)).trans hi.1, (Below.heap_alloc _ _ _ (by omega)).trans hi.2.1, (Below.heap_alloc _ _ _ (by omega)).trans hi.2.2.1, hi.2.2.2.alloc hi.2.2.2.size _⟩ ⟨W.heap.size, hlt, heap_alloc_new _ _, rfl⟩
  case body =>
    rintro l pre x a' W hl ⟨lr, hlr⟩ ⟨h1, h2, h3, hB⟩ ⟨Bx, hbx, hx, rfl⟩ hlt
    have c2 : W.cell? ⟨w.heap.size + 1, 0, none⟩ = some (.int .i64 (pre.length : Nat)) := by simp [World.cell?, h2]
    have f2 : W.frozen? ⟨w.heap.size + 1, 0, none⟩ = false := by simp [World.frozen?, h2]
    have h3' : Boxed (W.setCell ⟨w.heap.size + 1, 0, none⟩ (.int .i64 ((pre.length : Int) + 1))) (w.heap.size + 1 + 1) 3 (.int .i64 (lastOf pre)) := Boxed.other h3 (by omega) _
    have hx' : (W.setCell ⟨w.heap.size + 1, 0, none⟩ (.int .i64 ((pre.length : Int) + 1))).heap[Bx]? = some (.cells (rowC x.row) 24) := (Below.heap_setCell _ _ _ _ (by simp; omega)).trans hx
    have d0 : (W.setCell ⟨w.heap.size + 1, 0, none⟩ (.int .i64 ((pre.length : Int) + 1))).heap[w.heap.size]? = some (.cells #[.bool false] 4) := Boxed.other h1 (by omega) _
    have d2 : (W.setCell ⟨w.heap.size + 1, 0, none⟩ (.int .i64 ((pre.length : Int) + 1))).heap[w.heap.size + 1]? = some (.cells #[.int .i64 ((pre.length : Int) + 1)] 3) := (show Boxed _ _ _ _ from h2).set _
    have c3 : (W.setCell ⟨w.heap.size + 1, 0, none⟩ (.int .i64 ((pre.length : Int) + 1))).cell? ⟨w.heap.size + 1 + 1, 0, none⟩ = some (.int .i64 (lastOf pre)) := by simp [World.cell?, show _ = _ from h3']
    have f3 : (W.setCell ⟨w.heap.size + 1, 0, none⟩ (.int .i64 ((pre.length : Int) + 1))).frozen? ⟨w.heap.size + 1 + 1, 0, none⟩ = false := by simp [World.frozen?, show _ = _ from h3']
    have c0 : (W.setCell ⟨w.heap.size + 1, 0, none⟩ (.int .i64 ((pre.length : Int) + 1))).cell? ⟨w.heap.size, 0, none⟩ = some (.bool false) := by simp [World.cell?, d0]
    have f0 : (W.setCell ⟨w.heap.size + 1, 0, none⟩ (.int .i64 ((pre.length : Int) + 1))).frozen? ⟨w.heap.size, 0, none⟩ = false := by simp [World.frozen?, d0]
    have hr := row_ok x
    have hby := byName_row x
    have hup := name_up x
    have hof := of_code x
    have hrise := @lastOf_lt pre x
    have hlast := lastOf_le pre
    have hsnoc := lastOf_snoc pre x
    have hk := x.2.1
    unfold rowOk at hr
    simp only [Bool.and_eq_true, decide_eq_true_eq, beq_iff_eq, Bool.or_eq_true] at hr
    obtain ⟨⟨⟨⟨⟨⟨⟨g0, g1⟩, g2⟩, g3⟩, g4⟩, g5⟩, g6⟩, g7⟩ := hr
    have hcur := hx'
    generalize x.row = r at hx hx' hcur hby hup hof g0 g1 g2 g3 g4 g5 g6 g7 ⊢
    obtain ⟨code, nm, imm, inn, out, gas, ends⟩ := r
    dsimp only at hby hup g0 g1 g2 g3 g4 g5 g6 g7
    subst g0
    obtain ⟨hofr, hofi⟩ := hof
    by_cases hlt2 : lastOf pre < (x.1 : Int)
    · clear hrise
      obtain ⟨q0, q1, q2, q3, q4, q5, q6, qz, ql⟩ := cells7 hcur
      have e0 : ((W.setCell ⟨w.heap.size + 1, 0, none⟩ (.int .i64 ((pre.length : Int) + 1))).setCell ⟨w.heap.size + 1 + 1, 0, none⟩ (.int .i64 (x.1 : Int))).heap[w.heap.size]? = some (.cells #[.bool false] 4) := Boxed.other d0 (by omega) _
      have e1 : ((W.setCell ⟨w.heap.size + 1, 0, none⟩ (.int .i64 ((pre.length : Int) + 1))).setCell ⟨w.heap.size + 1 + 1, 0, none⟩ (.int .i64 (x.1 : Int))).heap[w.heap.size + 1]? = some (.cells #[.int .i64 ((pre.length : Int) + 1)] 3) := Boxed.other d2 (by omega) _
      have e2 : ((W.setCell ⟨w.heap.size + 1, 0, none⟩ (.int .i64 ((pre.length : Int) + 1))).setCell ⟨w.heap.size + 1 + 1, 0, none⟩ (.int .i64 (x.1 : Int))).heap[w.heap.size + 1 + 1]? = some (.cells #[.int .i64 (x.1 : Int)] 3) := h3'.set _
      have eK : KeepsFrom W0.heap.size W ((W.setCell ⟨w.heap.size + 1, 0, none⟩ (.int .i64 ((pre.length : Int) + 1))).setCell ⟨w.heap.size + 1 + 1, 0, none⟩ (.int .i64 (x.1 : Int))) := ((KeepsOthers.setCell _ _ _).trans (KeepsOthers.setCell _ _ _)).from _
      have eB : Below w.heap.size w ((W.setCell ⟨w.heap.size + 1, 0, none⟩ (.int .i64 ((pre.length : Int) + 1))).setCell ⟨w.heap.size + 1 + 1, 0, none⟩ (.int .i64 (x.1 : Int))) := (hB.setCell (by simp) _).setCell (by simp; omega) _
      have eX : ((W.setCell ⟨w.heap.size + 1, 0, none⟩ (.int .i64 ((pre.length : Int) + 1))).setCell ⟨w.heap.size + 1 + 1, 0, none⟩ (.int .i64 (x.1 : Int))).heap[Bx]? = some (.cells (rowC ⟨(x.1 : Int), nm, imm, inn, out, gas, ends⟩) 24) := (Below.heap_setCell _ _ _ _ (by simp; omega)).trans hcur
      have HU := Lib.hid hup
      clear hup
      unfold rowC
      cases ends with
      | true =>
        gi_wp2
        generalize ((W.setCell ⟨w.heap.size + 1, 0, none⟩ (.int .i64 ((pre.length : Int) + 1))).setCell ⟨w.heap.size + 1 + 1, 0, none⟩ (.int .i64 (x.1 : Int))) = W2 at e0 e1 e2 eK eB eX ⊢
        gi_wp2_with (refine ⟨trivial, ?_⟩; gi_at_call 10; refine (CallsIn.inRound l (callsIn_wide.2 (of_any _ _))).mono ?_; rw [hofr, hofi]; unfold rowC; rintro e w1 ⟨rfl, hb⟩; have eX1 := kept_of hb eX; obtain ⟨p0, p1, p2, p3, p4, p5, p6, pz, pl⟩ := cells7 eX1)
        have eY : (w1.alloc (.cells (rowC ⟨(x.1 : Int), nm, imm, inn, out, gas, true⟩) 24)).heap[w1.heap.size]? = some (.cells (rowC ⟨(x.1 : Int), nm, imm, inn, out, gas, true⟩) 24) := heap_alloc_new _ _
        have eX2 := (Below.heap_alloc w1 (.cells (rowC ⟨(x.1 : Int), nm, imm, inn, out, gas, true⟩) 24) _ pl).trans eX1
        have eB2 := hb.alloc hb.size (.cells (rowC ⟨(x.1 : Int), nm, imm, inn, out, gas, true⟩) 24)
        gi_wp2_with (refine ⟨trivial, ?_⟩; gi_at_call 15; refine (CallsIn.inRound l (callsIn_wide.2 (byname_all _ _))).mono ?_; rw [hby]; simp only [Option.getD_some, Option.isSome_some]; unfold rowC; rintro e w2 ⟨rfl, hb2⟩; have eX3 := kept_of hb2 eX2; have eY3 := kept_of hb2 eY; obtain ⟨p0, p1, p2, p3, p4, p5, p6, pz, pl⟩ := cells7 eX3; obtain ⟨o0, o1, o2, o3, o4, o5, o6, oz, ol⟩ := cells7 eY3)
        have eX4 := (Below.heap_alloc w2 (.cells (rowC ⟨(x.1 : Int), nm, imm, inn, out, gas, true⟩) 24) _ pl).trans eX3
        have eB4 : Below W2.heap.size W2 (w2.alloc (.cells (rowC ⟨(x.1 : Int), nm, imm, inn, out, gas, true⟩) 24)) := (eB2.trans (hb2.mono eB2.size)).alloc (Nat.le_trans eB2.size hb2.size) _
        generalize hw5 : w2.alloc (.cells (rowC ⟨(x.1 : Int), nm, imm, inn, out, gas, true⟩) 24) = w5 at eX4 eB4
        gi_loopw [9] (fun vi wr => ∃ i : Nat, vi = .int .i64 i ∧ i ≤ nm.size ∧ wr = w5) (fun vi _ => nm.size - (intOf vi).toNat)
        case atStart => exact ⟨0, rfl, Nat.zero_le _, hw5⟩
        case round =>
          obtain ⟨i, rfl, hi, rfl⟩ := hrel
          obtain ⟨p0, p1, p2, p3, p4, p5, p6, pz, pl⟩ := cells7 eX4
          by_cases hlt3 : i < nm.size
          · have hu := HU.out i hlt3
            unfold upc at hu
            simp only [Bool.or_eq_true, Bool.and_eq_true, decide_eq_true_eq] at hu
            have hu8 := (nm[i]'hlt3).toNat_lt
            rcases hu with ⟨hu1, hu2⟩ | ⟨⟨hu1, hu2⟩, hu3⟩
            · have y1 : decide ((65 : Int) ≤ ((nm[i]'hlt3).toNat : Int)) = true := decide_eq_true (by omega)
              have y2 : decide (((nm[i]'hlt3).toNat : Int) ≤ 90) = true := decide_eq_true (by omega)
              gi_wp2
              go_roundw
              case rel => exact ⟨i + 1, by go_num, by omega, trivial⟩
              case measure => simp [intOf]; omega
            · have y1 : decide ((65 : Int) ≤ ((nm[i]'hlt3).toNat : Int)) = false := decide_eq_false (by omega)
              have y2 : decide ((48 : Int) ≤ ((nm[i]'hlt3).toNat : Int)) = true := decide_eq_true (by omega)
              have y3 : decide (((nm[i]'hlt3).toNat : Int) ≤ 57) = true := decide_eq_true (by omega)
              have y4 : decide ((0 : Int) < (i : Int)) = true := decide_eq_true (by omega)
              gi_wp2
              go_roundw
              case rel => exact ⟨i + 1, by go_num, by omega, trivial⟩
              case measure => simp [intOf]; omega
          · gi_wp2
            have hKB : KeepsFrom W0.heap.size W2 wr := KeepsFrom.of_grownBy (grownBy_below eB4) (fun _ h => by cases h)
            refine ⟨eK.trans hKB, trivial, (eB4.block _ (by have := (Array.getElem?_eq_some_iff.1 e0).1; omega)).trans e0, ?_, ?_, eB.trans (eB4.mono eB.size)⟩
            · have h := (eB4.block _ (Array.getElem?_eq_some_iff.1 e1).1).trans e1
              rw [h, List.length_append]
              simp
            · have h := (eB4.block _ (Array.getElem?_eq_some_iff.1 e2).1).trans e2
              rw [h, hsnoc]
      | false =>
        have g2' : 1 ≤ gas := by simpa using g2
        gi_wp2
        generalize ((W.setCell ⟨w.heap.size + 1, 0, none⟩ (.int .i64 ((pre.length : Int) + 1))).setCell ⟨w.heap.size + 1 + 1, 0, none⟩ (.int .i64 (x.1 : Int))) = W2 at e0 e1 e2 eK eB eX ⊢
        gi_wp2_with (refine ⟨trivial, ?_⟩; gi_at_call 10; refine (CallsIn.inRound l (callsIn_wide.2 (of_any _ _))).mono ?_; rw [hofr, hofi]; unfold rowC; rintro e w1 ⟨rfl, hb⟩; have eX1 := kept_of hb eX; obtain ⟨p0, p1, p2, p3, p4, p5, p6, pz, pl⟩ := cells7 eX1)
        have eY : (w1.alloc (.cells (rowC ⟨(x.1 : Int), nm, imm, inn, out, gas, false⟩) 24)).heap[w1.heap.size]? = some (.cells (rowC ⟨(x.1 : Int), nm, imm, inn, out, gas, false⟩) 24) := heap_alloc_new _ _
        have eX2 := (Below.heap_alloc w1 (.cells (rowC ⟨(x.1 : Int), nm, imm, inn, out, gas, false⟩) 24) _ pl).trans eX1
        have eB2 := hb.alloc hb.size (.cells (rowC ⟨(x.1 : Int), nm, imm, inn, out, gas, false⟩) 24)
        gi_wp2_with (refine ⟨trivial, ?_⟩; gi_at_call 15; refine (CallsIn.inRound l (callsIn_wide.2 (byname_all _ _))).mono ?_; rw [hby]; simp only [Option.getD_some, Option.isSome_some]; unfold rowC; rintro e w2 ⟨rfl, hb2⟩; have eX3 := kept_of hb2 eX2; have eY3 := kept_of hb2 eY; obtain ⟨p0, p1, p2, p3, p4, p5, p6, pz, pl⟩ := cells7 eX3; obtain ⟨o0, o1, o2, o3, o4, o5, o6, oz, ol⟩ := cells7 eY3)
        have eX4 := (Below.heap_alloc w2 (.cells (rowC ⟨(x.1 : Int), nm, imm, inn, out, gas, false⟩) 24) _ pl).trans eX3
        have eB4 : Below W2.heap.size W2 (w2.alloc (.cells (rowC ⟨(x.1 : Int), nm, imm, inn, out, gas, false⟩) 24)) := (eB2.trans (hb2.mono eB2.size)).alloc (Nat.le_trans eB2.size hb2.size) _
        generalize hw5 : w2.alloc (.cells (rowC ⟨(x.1 : Int), nm, imm, inn, out, gas, false⟩) 24) = w5 at eX4 eB4
        gi_loopw [9] (fun vi wr => ∃ i : Nat, vi = .int .i64 i ∧ i ≤ nm.size ∧ wr = w5) (fun vi _ => nm.size - (intOf vi).toNat)
        case atStart => exact ⟨0, rfl, Nat.zero_le _, hw5⟩
        case round =>
          obtain ⟨i, rfl, hi, rfl⟩ := hrel
          obtain ⟨p0, p1, p2, p3, p4, p5, p6, pz, pl⟩ := cells7 eX4
          by_cases hlt3 : i < nm.size
          · have hu := HU.out i hlt3
            unfold upc at hu
            simp only [Bool.or_eq_true, Bool.and_eq_true, decide_eq_true_eq] at hu
            have hu8 := (nm[i]'hlt3).toNat_lt
            rcases hu with ⟨hu1, hu2⟩ | ⟨⟨hu1, hu2⟩, hu3⟩
            · have y1 : decide ((65 : Int) ≤ ((nm[i]'hlt3).toNat : Int)) = true := decide_eq_true (by omega)
              have y2 : decide (((nm[i]'hlt3).toNat : Int) ≤ 90) = true := decide_eq_true (by omega)
              gi_wp2
              go_roundw
              case rel => exact ⟨i + 1, by go_num, by omega, trivial⟩
              case measure => simp [intOf]; omega
            · have y1 : decide ((65 : Int) ≤ ((nm[i]'hlt3).toNat : Int)) = false := decide_eq_false (by omega)
              have y2 : decide ((48 : Int) ≤ ((nm[i]'hlt3).toNat : Int)) = true := decide_eq_true (by omega)
              have y3 : decide (((nm[i]'hlt3).toNat : Int) ≤ 57) = true := decide_eq_true (by omega)
              have y4 : decide ((0 : Int) < (i : Int)) = true := decide_eq_true (by omega)
              gi_wp2
              go_roundw
              case rel => exact ⟨i + 1, by go_num, by omega, trivial⟩
              case measure => simp [intOf]; omega
          · gi_wp2
            have hKB : KeepsFrom W0.heap.size W2 wr := KeepsFrom.of_grownBy (grownBy_below eB4) (fun _ h => by cases h)
            refine ⟨eK.trans hKB, trivial, (eB4.block _ (by have := (Array.getElem?_eq_some_iff.1 e0).1; omega)).trans e0, ?_, ?_, eB.trans (eB4.mono eB.size)⟩
            · have h := (eB4.block _ (Array.getElem?_eq_some_iff.1 e1).1).trans e1
              rw [h, List.length_append]
              simp
            · have h := (eB4.block _ (Array.getElem?_eq_some_iff.1 e2).1).trans e2
              rw [h, hsnoc]
    · have hnp : ¬ (pre ++ [x] <+: allIx) := fun h => hlt2 (hrise h)
      have HN := Lib.hid hnp
      clear hnp hrise hup hby hofr hofi
      obtain ⟨q0, q1, q2, q3, q4, q5, q6, qz, ql⟩ := cells7 hcur
      unfold rowC
      gi_wp2
      exact ⟨((KeepsOthers.setCell _ _ _).trans (KeepsOthers.setCell _ _ _)).from _, rfl, HN.out⟩
  case done =>
    rintro D ys W hD rfl ⟨h1, h2, h3, hB⟩ hK
    rw [show allIx.length = 153 from allIx_length] at h2
    have c2 : W.cell? ⟨w.heap.size + 1, 0, none⟩ = some (.int .i64 153) := by simp [World.cell?, h2]
    have f2 : W.frozen? ⟨w.heap.size + 1, 0, none⟩ = false := by simp [World.frozen?, h2]
    have c0 : W.cell? ⟨w.heap.size, 0, none⟩ = some (.bool false) := by simp [World.cell?, h1]
    have f0 : W.frozen? ⟨w.heap.size, 0, none⟩ = false := by simp [World.frozen?, h1]
    gi_wp2
    have hK' := (KeepsOthers.setCell W ⟨w.heap.size, 0, none⟩ (.bool true)).same D _ hK rfl
    have hv : Boxed (W.setCell ⟨w.heap.size, 0, none⟩ (.bool true)) w.heap.size 4 (.bool true) := (show Boxed _ _ _ _ from h1).set _
    have hv2 := blk_kept (B := W0.heap.size) hv (grownBy_putObj' _ D (.deferred none)) (fun r e => by cases e; exact ⟨hD, _, hK', rfl⟩)
    refine ⟨by simp, .inl ⟨_, _, rfl, run_takeDeferred hK', ?_⟩⟩
    refine ⟨_, rows_end rfl hv2, rfl, ?_⟩
    exact below_kept (B := W0.heap.size) (hB.setCell (by simp) _) (by omega) (grownBy_putObj' _ D (.deferred none)) (fun r e => by cases e; exact ⟨hD, _, hK', rfl⟩)
  case stop =>
    rintro D c pre W hD hpre ⟨rfl, hn⟩ hK
    exact absurd hpre hn
end Go.Proofs.YtchhbifldfnppaaDoor
