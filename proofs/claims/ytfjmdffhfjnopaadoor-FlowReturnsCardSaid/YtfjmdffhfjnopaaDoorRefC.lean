/- vouchref4.kept: the row opR tells where the code is one of its own, for every code. -/
import Derived.Test.YtfjmdffhfjnopaaDoorRefN
namespace Go.Proofs.YtfjmdffhfjnopaaDoor
open Go.RowKit Vouch Go.Vk
def in_kept (c : Int) : Bool := decide ((80 ≤ c ∧ c ≤ 85) ∨ c = 89 ∨ (91 ≤ c ∧ c ≤ 164))
def r_kept (c : Int) : OpRow := if in_kept c then opR c else zeroR
set_option maxHeartbeats 4000000 in
set_option maxRecDepth 100000 in
theorem kept_c0 (c : Int) (w : World) (h : c = 80 ∨ c = 81 ∨ c = 82 ∨ c = 83 ∨ c = 84 ∨ c = 85 ∨ c = 89 ∨ c = 91 ∨ c = 92 ∨ c = 93 ∨ c = 94 ∨ c = 95) :
    Calls Tryd.prog 75 #[.int .i64 c] w fun e w' => e = .returned (.tuple #[.agg (rowC (r_kept c)), .bool (in_kept c)]) ∧ Below w.heap.size w w' := by
  rcases h with rfl | rfl | rfl | rfl | rfl | rfl | rfl | rfl | rfl | rfl | rfl | rfl
  all_goals
    go_enter Tryd.func75, Tryd.ntmps75
    go_wp2_with (first | (go_at_call 82; refine (word_any _ _ _ (by decide) (by decide) (by decide)).mono ?_; rintro e w1 ⟨rfl, rfl⟩) | (go_at_call 81; refine (row_any _ _ _ _ _ _ _ _).mono ?_; rintro e w1 ⟨rfl, hb⟩; have hg := kept_new hb) | (refine wpList_store_row rfl 82 _ _ rfl w.heap.size _ rfl rfl 82 _ hg ?_ rfl (rowC_one _) ?_; (kernel_rfl)))
    exact ref_end rfl _ rfl (setRow_heap _ _ _ _ _ _ hg) rfl rfl (by kernel_rfl) (by kernel_rfl) (below_setRow (((Below.refl _ _).alloc (Nat.le_refl _) _).trans (hb.mono (by simp))) (Nat.le_refl _) _)
set_option maxHeartbeats 4000000 in
set_option maxRecDepth 100000 in
theorem kept_s96 (c : Int) (w : World) (l : 96 ≤ c) (u : c ≤ 127) :
    Calls Tryd.prog 75 #[.int .i64 c] w fun e w' => e = .returned (.tuple #[.agg (rowC (r_kept c)), .bool (in_kept c)]) ∧ Below w.heap.size w w' := by
  have eb : in_kept c = true := by unfold in_kept; exact decide_eq_true (by omega)
  have e : opR c = ⟨c, ⟨#[80, 85, 83, 72]⟩ ++ dec (c - 95), c - 95, 0, 1, 3, false⟩ := by unfold opR; rw [if_pos (by omega), show c - 96 + 1 = c - 95 by omega]
  have E := Lib.hid e
  clear e
  have hs := dec_size (c - 95) (by omega) (by omega)
  have b80 : (c == 80) = false := beq_eq_false_iff_ne.mpr (by omega)
  have b81 : (c == 81) = false := beq_eq_false_iff_ne.mpr (by omega)
  have b82 : (c == 82) = false := beq_eq_false_iff_ne.mpr (by omega)
  have b83 : (c == 83) = false := beq_eq_false_iff_ne.mpr (by omega)
  have b84 : (c == 84) = false := beq_eq_false_iff_ne.mpr (by omega)
  have b92 : (c == 92) = false := beq_eq_false_iff_ne.mpr (by omega)
  have b85 : (c == 85) = false := beq_eq_false_iff_ne.mpr (by omega)
  have b93 : (c == 93) = false := beq_eq_false_iff_ne.mpr (by omega)
  have b89 : (c == 89) = false := beq_eq_false_iff_ne.mpr (by omega)
  have b91 : (c == 91) = false := beq_eq_false_iff_ne.mpr (by omega)
  have b94 : (c == 94) = false := beq_eq_false_iff_ne.mpr (by omega)
  have b95 : (c == 95) = false := beq_eq_false_iff_ne.mpr (by omega)
  have HB := Lib.hid eb
  clear eb
  go_enter Tryd.func75, Tryd.ntmps75
  go_wp2_with (first | (go_at_call 83; refine (number_any _ _ (by omega) (by omega)).mono ?_; rintro e w2 ⟨rfl, hb2⟩; have hg2 := kept_new hb2) | (go_at_call 81; refine (row_any _ _ _ _ _ _ _ _).mono ?_; rintro e w1 ⟨rfl, hb⟩; have hg := kept_of hb hg2) | (refine wpList_store_row rfl 82 _ _ rfl w.heap.size _ rfl rfl 82 _ hg ?_ rfl (rowC_one _) ?_; (kernel_rfl)))
  refine ref_end rfl _ rfl (setRow_heap _ _ _ _ _ _ hg) rfl rfl ?_ HB.out.symm (below_setRow ((((Below.refl _ _).alloc (Nat.le_refl _) _).trans (hb2.mono (by simp))).trans (hb.mono (by have := hb2.size; simp at this; omega))) (Nat.le_refl _) _)
  unfold r_kept; rw [HB.out, if_pos rfl]; exact E.out.symm
set_option maxHeartbeats 4000000 in
set_option maxRecDepth 100000 in
theorem kept_s128 (c : Int) (w : World) (l : 128 ≤ c) (u : c ≤ 143) :
    Calls Tryd.prog 75 #[.int .i64 c] w fun e w' => e = .returned (.tuple #[.agg (rowC (r_kept c)), .bool (in_kept c)]) ∧ Below w.heap.size w w' := by
  have eb : in_kept c = true := by unfold in_kept; exact decide_eq_true (by omega)
  have e : opR c = ⟨c, ⟨#[68, 85, 80]⟩ ++ dec (c - 127), 0, c - 127, c - 126, 3, false⟩ := by unfold opR; rw [if_neg (by omega), if_pos (by omega), show c - 128 + 1 = c - 127 by omega, show c - 127 + 1 = c - 126 by omega]
  have E := Lib.hid e
  clear e
  have hs := dec_size (c - 127) (by omega) (by omega)
  have b80 : (c == 80) = false := beq_eq_false_iff_ne.mpr (by omega)
  have b81 : (c == 81) = false := beq_eq_false_iff_ne.mpr (by omega)
  have b82 : (c == 82) = false := beq_eq_false_iff_ne.mpr (by omega)
  have b83 : (c == 83) = false := beq_eq_false_iff_ne.mpr (by omega)
  have b84 : (c == 84) = false := beq_eq_false_iff_ne.mpr (by omega)
  have b92 : (c == 92) = false := beq_eq_false_iff_ne.mpr (by omega)
  have b85 : (c == 85) = false := beq_eq_false_iff_ne.mpr (by omega)
  have b93 : (c == 93) = false := beq_eq_false_iff_ne.mpr (by omega)
  have b89 : (c == 89) = false := beq_eq_false_iff_ne.mpr (by omega)
  have b91 : (c == 91) = false := beq_eq_false_iff_ne.mpr (by omega)
  have b94 : (c == 94) = false := beq_eq_false_iff_ne.mpr (by omega)
  have b95 : (c == 95) = false := beq_eq_false_iff_ne.mpr (by omega)
  have HB := Lib.hid eb
  clear eb
  go_enter Tryd.func75, Tryd.ntmps75
  go_wp2_with (first | (go_at_call 83; refine (number_any _ _ (by omega) (by omega)).mono ?_; rintro e w2 ⟨rfl, hb2⟩; have hg2 := kept_new hb2) | (go_at_call 81; refine (row_any _ _ _ _ _ _ _ _).mono ?_; rintro e w1 ⟨rfl, hb⟩; have hg := kept_of hb hg2) | (refine wpList_store_row rfl 82 _ _ rfl w.heap.size _ rfl rfl 82 _ hg ?_ rfl (rowC_one _) ?_; (kernel_rfl)))
  refine ref_end rfl _ rfl (setRow_heap _ _ _ _ _ _ hg) rfl rfl ?_ HB.out.symm (below_setRow ((((Below.refl _ _).alloc (Nat.le_refl _) _).trans (hb2.mono (by simp))).trans (hb.mono (by have := hb2.size; simp at this; omega))) (Nat.le_refl _) _)
  unfold r_kept; rw [HB.out, if_pos rfl]; exact E.out.symm
set_option maxHeartbeats 4000000 in
set_option maxRecDepth 100000 in
theorem kept_s144 (c : Int) (w : World) (l : 144 ≤ c) (u : c ≤ 159) :
    Calls Tryd.prog 75 #[.int .i64 c] w fun e w' => e = .returned (.tuple #[.agg (rowC (r_kept c)), .bool (in_kept c)]) ∧ Below w.heap.size w w' := by
  have eb : in_kept c = true := by unfold in_kept; exact decide_eq_true (by omega)
  have e : opR c = ⟨c, ⟨#[83, 87, 65, 80]⟩ ++ dec (c - 143), 0, c - 142, c - 142, 3, false⟩ := by unfold opR; rw [if_neg (by omega), if_neg (by omega), if_pos (by omega), show c - 144 + 1 = c - 143 by omega, show c - 143 + 1 = c - 142 by omega]
  have E := Lib.hid e
  clear e
  have hs := dec_size (c - 143) (by omega) (by omega)
  have b80 : (c == 80) = false := beq_eq_false_iff_ne.mpr (by omega)
  have b81 : (c == 81) = false := beq_eq_false_iff_ne.mpr (by omega)
  have b82 : (c == 82) = false := beq_eq_false_iff_ne.mpr (by omega)
  have b83 : (c == 83) = false := beq_eq_false_iff_ne.mpr (by omega)
  have b84 : (c == 84) = false := beq_eq_false_iff_ne.mpr (by omega)
  have b92 : (c == 92) = false := beq_eq_false_iff_ne.mpr (by omega)
  have b85 : (c == 85) = false := beq_eq_false_iff_ne.mpr (by omega)
  have b93 : (c == 93) = false := beq_eq_false_iff_ne.mpr (by omega)
  have b89 : (c == 89) = false := beq_eq_false_iff_ne.mpr (by omega)
  have b91 : (c == 91) = false := beq_eq_false_iff_ne.mpr (by omega)
  have b94 : (c == 94) = false := beq_eq_false_iff_ne.mpr (by omega)
  have b95 : (c == 95) = false := beq_eq_false_iff_ne.mpr (by omega)
  have HB := Lib.hid eb
  clear eb
  go_enter Tryd.func75, Tryd.ntmps75
  go_wp2_with (first | (go_at_call 83; refine (number_any _ _ (by omega) (by omega)).mono ?_; rintro e w2 ⟨rfl, hb2⟩; have hg2 := kept_new hb2) | (go_at_call 81; refine (row_any _ _ _ _ _ _ _ _).mono ?_; rintro e w1 ⟨rfl, hb⟩; have hg := kept_of hb hg2) | (refine wpList_store_row rfl 82 _ _ rfl w.heap.size _ rfl rfl 82 _ hg ?_ rfl (rowC_one _) ?_; (kernel_rfl)))
  refine ref_end rfl _ rfl (setRow_heap _ _ _ _ _ _ hg) rfl rfl ?_ HB.out.symm (below_setRow ((((Below.refl _ _).alloc (Nat.le_refl _) _).trans (hb2.mono (by simp))).trans (hb.mono (by have := hb2.size; simp at this; omega))) (Nat.le_refl _) _)
  unfold r_kept; rw [HB.out, if_pos rfl]; exact E.out.symm
set_option maxHeartbeats 4000000 in
set_option maxRecDepth 100000 in
theorem kept_s160 (c : Int) (w : World) (l : 160 ≤ c) (u : c ≤ 164) :
    Calls Tryd.prog 75 #[.int .i64 c] w fun e w' => e = .returned (.tuple #[.agg (rowC (r_kept c)), .bool (in_kept c)]) ∧ Below w.heap.size w w' := by
  have eb : in_kept c = true := by unfold in_kept; exact decide_eq_true (by omega)
  have e : opR c = ⟨c, ⟨#[76, 79, 71]⟩ ++ dec (c - 160), 0, c - 160 + 2, 0, 375 + 375 * (c - 160), false⟩ := by unfold opR; rw [if_neg (by omega), if_neg (by omega), if_neg (by omega), if_pos (by omega), show 375 * (c - 160 + 1) = 375 + 375 * (c - 160) by omega]
  have E := Lib.hid e
  clear e
  have hs := dec_size (c - 160) (by omega) (by omega)
  have b80 : (c == 80) = false := beq_eq_false_iff_ne.mpr (by omega)
  have b81 : (c == 81) = false := beq_eq_false_iff_ne.mpr (by omega)
  have b82 : (c == 82) = false := beq_eq_false_iff_ne.mpr (by omega)
  have b83 : (c == 83) = false := beq_eq_false_iff_ne.mpr (by omega)
  have b84 : (c == 84) = false := beq_eq_false_iff_ne.mpr (by omega)
  have b92 : (c == 92) = false := beq_eq_false_iff_ne.mpr (by omega)
  have b85 : (c == 85) = false := beq_eq_false_iff_ne.mpr (by omega)
  have b93 : (c == 93) = false := beq_eq_false_iff_ne.mpr (by omega)
  have b89 : (c == 89) = false := beq_eq_false_iff_ne.mpr (by omega)
  have b91 : (c == 91) = false := beq_eq_false_iff_ne.mpr (by omega)
  have b94 : (c == 94) = false := beq_eq_false_iff_ne.mpr (by omega)
  have b95 : (c == 95) = false := beq_eq_false_iff_ne.mpr (by omega)
  have HB := Lib.hid eb
  clear eb
  go_enter Tryd.func75, Tryd.ntmps75
  go_wp2_with (first | (go_at_call 83; refine (number_any _ _ (by omega) (by omega)).mono ?_; rintro e w2 ⟨rfl, hb2⟩; have hg2 := kept_new hb2) | (go_at_call 81; refine (row_any _ _ _ _ _ _ _ _).mono ?_; rintro e w1 ⟨rfl, hb⟩; have hg := kept_of hb hg2) | (refine wpList_store_row rfl 82 _ _ rfl w.heap.size _ rfl rfl 82 _ hg ?_ rfl (rowC_one _) ?_; (kernel_rfl)))
  refine ref_end rfl _ rfl (setRow_heap _ _ _ _ _ _ hg) rfl rfl ?_ HB.out.symm (below_setRow ((((Below.refl _ _).alloc (Nat.le_refl _) _).trans (hb2.mono (by simp))).trans (hb.mono (by have := hb2.size; simp at this; omega))) (Nat.le_refl _) _)
  unfold r_kept; rw [HB.out, if_pos rfl]; exact E.out.symm
set_option maxHeartbeats 4000000 in
set_option maxRecDepth 100000 in
theorem kept_r0 (c : Int) (w : World) (u : c ≤ 79) :
    Calls Tryd.prog 75 #[.int .i64 c] w fun e w' => e = .returned (.tuple #[.agg (rowC (r_kept c)), .bool (in_kept c)]) ∧ Below w.heap.size w w' := by
  have eb : in_kept c = false := by unfold in_kept; exact decide_eq_false (by omega)
  have HB := Lib.hid eb
  clear eb
  have b80 : (c == 80) = false := beq_eq_false_iff_ne.mpr (by omega)
  have b81 : (c == 81) = false := beq_eq_false_iff_ne.mpr (by omega)
  have b82 : (c == 82) = false := beq_eq_false_iff_ne.mpr (by omega)
  have b83 : (c == 83) = false := beq_eq_false_iff_ne.mpr (by omega)
  have b84 : (c == 84) = false := beq_eq_false_iff_ne.mpr (by omega)
  have b92 : (c == 92) = false := beq_eq_false_iff_ne.mpr (by omega)
  have b85 : (c == 85) = false := beq_eq_false_iff_ne.mpr (by omega)
  have b93 : (c == 93) = false := beq_eq_false_iff_ne.mpr (by omega)
  have b89 : (c == 89) = false := beq_eq_false_iff_ne.mpr (by omega)
  have b91 : (c == 91) = false := beq_eq_false_iff_ne.mpr (by omega)
  have b94 : (c == 94) = false := beq_eq_false_iff_ne.mpr (by omega)
  have b95 : (c == 95) = false := beq_eq_false_iff_ne.mpr (by omega)
  go_enter Tryd.func75, Tryd.ntmps75
  go_wp2
  refine ref_end (r := zeroR) rfl _ rfl (heap_alloc_new _ _) rfl rfl ?_ HB.out.symm ((Below.refl _ _).alloc (Nat.le_refl _) _)
  unfold r_kept; rw [HB.out]; rfl
set_option maxHeartbeats 4000000 in
set_option maxRecDepth 100000 in
theorem kept_r1 (c : Int) (w : World) (l : 86 ≤ c) (u : c ≤ 88) :
    Calls Tryd.prog 75 #[.int .i64 c] w fun e w' => e = .returned (.tuple #[.agg (rowC (r_kept c)), .bool (in_kept c)]) ∧ Below w.heap.size w w' := by
  have eb : in_kept c = false := by unfold in_kept; exact decide_eq_false (by omega)
  have HB := Lib.hid eb
  clear eb
  have b80 : (c == 80) = false := beq_eq_false_iff_ne.mpr (by omega)
  have b81 : (c == 81) = false := beq_eq_false_iff_ne.mpr (by omega)
  have b82 : (c == 82) = false := beq_eq_false_iff_ne.mpr (by omega)
  have b83 : (c == 83) = false := beq_eq_false_iff_ne.mpr (by omega)
  have b84 : (c == 84) = false := beq_eq_false_iff_ne.mpr (by omega)
  have b92 : (c == 92) = false := beq_eq_false_iff_ne.mpr (by omega)
  have b85 : (c == 85) = false := beq_eq_false_iff_ne.mpr (by omega)
  have b93 : (c == 93) = false := beq_eq_false_iff_ne.mpr (by omega)
  have b89 : (c == 89) = false := beq_eq_false_iff_ne.mpr (by omega)
  have b91 : (c == 91) = false := beq_eq_false_iff_ne.mpr (by omega)
  have b94 : (c == 94) = false := beq_eq_false_iff_ne.mpr (by omega)
  have b95 : (c == 95) = false := beq_eq_false_iff_ne.mpr (by omega)
  go_enter Tryd.func75, Tryd.ntmps75
  go_wp2
  refine ref_end (r := zeroR) rfl _ rfl (heap_alloc_new _ _) rfl rfl ?_ HB.out.symm ((Below.refl _ _).alloc (Nat.le_refl _) _)
  unfold r_kept; rw [HB.out]; rfl
set_option maxHeartbeats 4000000 in
set_option maxRecDepth 100000 in
theorem kept_r2 (c : Int) (w : World) (l : 90 ≤ c) (u : c ≤ 90) :
    Calls Tryd.prog 75 #[.int .i64 c] w fun e w' => e = .returned (.tuple #[.agg (rowC (r_kept c)), .bool (in_kept c)]) ∧ Below w.heap.size w w' := by
  have eb : in_kept c = false := by unfold in_kept; exact decide_eq_false (by omega)
  have HB := Lib.hid eb
  clear eb
  have b80 : (c == 80) = false := beq_eq_false_iff_ne.mpr (by omega)
  have b81 : (c == 81) = false := beq_eq_false_iff_ne.mpr (by omega)
  have b82 : (c == 82) = false := beq_eq_false_iff_ne.mpr (by omega)
  have b83 : (c == 83) = false := beq_eq_false_iff_ne.mpr (by omega)
  have b84 : (c == 84) = false := beq_eq_false_iff_ne.mpr (by omega)
  have b92 : (c == 92) = false := beq_eq_false_iff_ne.mpr (by omega)
  have b85 : (c == 85) = false := beq_eq_false_iff_ne.mpr (by omega)
  have b93 : (c == 93) = false := beq_eq_false_iff_ne.mpr (by omega)
  have b89 : (c == 89) = false := beq_eq_false_iff_ne.mpr (by omega)
  have b91 : (c == 91) = false := beq_eq_false_iff_ne.mpr (by omega)
  have b94 : (c == 94) = false := beq_eq_false_iff_ne.mpr (by omega)
  have b95 : (c == 95) = false := beq_eq_false_iff_ne.mpr (by omega)
  go_enter Tryd.func75, Tryd.ntmps75
  go_wp2
  refine ref_end (r := zeroR) rfl _ rfl (heap_alloc_new _ _) rfl rfl ?_ HB.out.symm ((Below.refl _ _).alloc (Nat.le_refl _) _)
  unfold r_kept; rw [HB.out]; rfl
set_option maxHeartbeats 4000000 in
set_option maxRecDepth 100000 in
theorem kept_r3 (c : Int) (w : World) (l : 165 ≤ c) :
    Calls Tryd.prog 75 #[.int .i64 c] w fun e w' => e = .returned (.tuple #[.agg (rowC (r_kept c)), .bool (in_kept c)]) ∧ Below w.heap.size w w' := by
  have eb : in_kept c = false := by unfold in_kept; exact decide_eq_false (by omega)
  have HB := Lib.hid eb
  clear eb
  have b80 : (c == 80) = false := beq_eq_false_iff_ne.mpr (by omega)
  have b81 : (c == 81) = false := beq_eq_false_iff_ne.mpr (by omega)
  have b82 : (c == 82) = false := beq_eq_false_iff_ne.mpr (by omega)
  have b83 : (c == 83) = false := beq_eq_false_iff_ne.mpr (by omega)
  have b84 : (c == 84) = false := beq_eq_false_iff_ne.mpr (by omega)
  have b92 : (c == 92) = false := beq_eq_false_iff_ne.mpr (by omega)
  have b85 : (c == 85) = false := beq_eq_false_iff_ne.mpr (by omega)
  have b93 : (c == 93) = false := beq_eq_false_iff_ne.mpr (by omega)
  have b89 : (c == 89) = false := beq_eq_false_iff_ne.mpr (by omega)
  have b91 : (c == 91) = false := beq_eq_false_iff_ne.mpr (by omega)
  have b94 : (c == 94) = false := beq_eq_false_iff_ne.mpr (by omega)
  have b95 : (c == 95) = false := beq_eq_false_iff_ne.mpr (by omega)
  go_enter Tryd.func75, Tryd.ntmps75
  go_wp2
  refine ref_end (r := zeroR) rfl _ rfl (heap_alloc_new _ _) rfl rfl ?_ HB.out.symm ((Below.refl _ _).alloc (Nat.le_refl _) _)
  unfold r_kept; rw [HB.out]; rfl
theorem kept_any (c : Int) (w : World) :
    Calls Tryd.prog 75 #[.int .i64 c] w fun e w' => e = .returned (.tuple #[.agg (rowC (r_kept c)), .bool (in_kept c)]) ∧ Below w.heap.size w w' := by
  rcases (show (c = 80 ∨ c = 81 ∨ c = 82 ∨ c = 83 ∨ c = 84 ∨ c = 85 ∨ c = 89 ∨ c = 91 ∨ c = 92 ∨ c = 93 ∨ c = 94 ∨ c = 95) ∨ (96 ≤ c ∧ c ≤ 127) ∨ (128 ≤ c ∧ c ≤ 143) ∨ (144 ≤ c ∧ c ≤ 159) ∨ (160 ≤ c ∧ c ≤ 164) ∨ (c ≤ 79) ∨ (86 ≤ c ∧ c ≤ 88) ∨ (90 ≤ c ∧ c ≤ 90) ∨ (165 ≤ c) by omega) with h | ⟨h1, h2⟩ | ⟨h1, h2⟩ | ⟨h1, h2⟩ | ⟨h1, h2⟩ | h | ⟨h1, h2⟩ | ⟨h1, h2⟩ | h
  · exact kept_c0 c w h
  · exact kept_s96 c w h1 h2
  · exact kept_s128 c w h1 h2
  · exact kept_s144 c w h1 h2
  · exact kept_s160 c w h1 h2
  · exact kept_r0 c w h
  · exact kept_r1 c w h1 h2
  · exact kept_r2 c w h1 h2
  · exact kept_r3 c w h
end Go.Proofs.YtfjmdffhfjnopaaDoor
