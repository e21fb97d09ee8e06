/- vouchref4.numbers, vouchref4.around: the row opR tells where the code is one of theirs, for every code. -/
import Derived.Test.YtfjmdffhfjnopaaDoorRefA
namespace Go.Proofs.YtfjmdffhfjnopaaDoor
open Go.RowKit Vouch Go.Vk
def in_numbers (c : Int) : Bool := decide ((1 ≤ c ∧ c ≤ 11) ∨ (16 ≤ c ∧ c ≤ 30) ∨ c = 32)
def r_numbers (c : Int) : OpRow := if in_numbers c then opR c else zeroR
set_option maxHeartbeats 4000000 in
set_option maxRecDepth 100000 in
theorem numbers_c0 (c : Int) (w : World) (h : c = 1 ∨ c = 2 ∨ c = 3 ∨ c = 4 ∨ c = 5 ∨ c = 6 ∨ c = 7 ∨ c = 8 ∨ c = 9 ∨ c = 10 ∨ c = 11 ∨ c = 16) :
    Calls Tryd.prog 73 #[.int .i64 c] w fun e w' => e = .returned (.tuple #[.agg (rowC (r_numbers c)), .bool (in_numbers c)]) ∧ Below w.heap.size w w' := by
  rcases h with rfl | rfl | rfl | rfl | rfl | rfl | rfl | rfl | rfl | rfl | rfl | rfl
  all_goals
    go_enter Tryd.func73, Tryd.ntmps73
    go_wp2_with (first | (go_at_call 82; refine (word_any _ _ _ (by decide) (by decide) (by decide)).mono ?_; rintro e w1 ⟨rfl, rfl⟩) | (go_at_call 81; refine (row_any _ _ _ _ _ _ _ _).mono ?_; rintro e w1 ⟨rfl, hb⟩; have hg := kept_new hb) | (refine wpList_store_row rfl 82 _ _ rfl w.heap.size _ rfl rfl 82 _ hg ?_ rfl (rowC_one _) ?_; (kernel_rfl)))
    exact ref_end rfl _ rfl (setRow_heap _ _ _ _ _ _ hg) rfl rfl (by kernel_rfl) (by kernel_rfl) (below_setRow (((Below.refl _ _).alloc (Nat.le_refl _) _).trans (hb.mono (by simp))) (Nat.le_refl _) _)
set_option maxHeartbeats 4000000 in
set_option maxRecDepth 100000 in
theorem numbers_c1 (c : Int) (w : World) (h : c = 17 ∨ c = 18 ∨ c = 19 ∨ c = 20 ∨ c = 21 ∨ c = 22 ∨ c = 23 ∨ c = 24 ∨ c = 25 ∨ c = 26 ∨ c = 27 ∨ c = 28) :
    Calls Tryd.prog 73 #[.int .i64 c] w fun e w' => e = .returned (.tuple #[.agg (rowC (r_numbers c)), .bool (in_numbers c)]) ∧ Below w.heap.size w w' := by
  rcases h with rfl | rfl | rfl | rfl | rfl | rfl | rfl | rfl | rfl | rfl | rfl | rfl
  all_goals
    go_enter Tryd.func73, Tryd.ntmps73
    go_wp2_with (first | (go_at_call 82; refine (word_any _ _ _ (by decide) (by decide) (by decide)).mono ?_; rintro e w1 ⟨rfl, rfl⟩) | (go_at_call 81; refine (row_any _ _ _ _ _ _ _ _).mono ?_; rintro e w1 ⟨rfl, hb⟩; have hg := kept_new hb) | (refine wpList_store_row rfl 82 _ _ rfl w.heap.size _ rfl rfl 82 _ hg ?_ rfl (rowC_one _) ?_; (kernel_rfl)))
    exact ref_end rfl _ rfl (setRow_heap _ _ _ _ _ _ hg) rfl rfl (by kernel_rfl) (by kernel_rfl) (below_setRow (((Below.refl _ _).alloc (Nat.le_refl _) _).trans (hb.mono (by simp))) (Nat.le_refl _) _)
set_option maxHeartbeats 4000000 in
set_option maxRecDepth 100000 in
theorem numbers_c2 (c : Int) (w : World) (h : c = 29 ∨ c = 30 ∨ c = 32) :
    Calls Tryd.prog 73 #[.int .i64 c] w fun e w' => e = .returned (.tuple #[.agg (rowC (r_numbers c)), .bool (in_numbers c)]) ∧ Below w.heap.size w w' := by
  rcases h with rfl | rfl | rfl
  all_goals
    go_enter Tryd.func73, Tryd.ntmps73
    go_wp2_with (first | (go_at_call 82; refine (word_any _ _ _ (by decide) (by decide) (by decide)).mono ?_; rintro e w1 ⟨rfl, rfl⟩) | (go_at_call 81; refine (row_any _ _ _ _ _ _ _ _).mono ?_; rintro e w1 ⟨rfl, hb⟩; have hg := kept_new hb) | (refine wpList_store_row rfl 82 _ _ rfl w.heap.size _ rfl rfl 82 _ hg ?_ rfl (rowC_one _) ?_; (kernel_rfl)))
    exact ref_end rfl _ rfl (setRow_heap _ _ _ _ _ _ hg) rfl rfl (by kernel_rfl) (by kernel_rfl) (below_setRow (((Below.refl _ _).alloc (Nat.le_refl _) _).trans (hb.mono (by simp))) (Nat.le_refl _) _)
set_option maxHeartbeats 4000000 in
set_option maxRecDepth 100000 in
theorem numbers_r0 (c : Int) (w : World) (u : c ≤ 0) :
    Calls Tryd.prog 73 #[.int .i64 c] w fun e w' => e = .returned (.tuple #[.agg (rowC (r_numbers c)), .bool (in_numbers c)]) ∧ Below w.heap.size w w' := by
  have eb : in_numbers c = false := by unfold in_numbers; exact decide_eq_false (by omega)
  have HB := Lib.hid eb
  clear eb
  have b1 : (c == 1) = false := beq_eq_false_iff_ne.mpr (by omega)
  have b3 : (c == 3) = false := beq_eq_false_iff_ne.mpr (by omega)
  have b8 : (c == 8) = false := beq_eq_false_iff_ne.mpr (by omega)
  have b9 : (c == 9) = false := beq_eq_false_iff_ne.mpr (by omega)
  have b10 : (c == 10) = false := beq_eq_false_iff_ne.mpr (by omega)
  have b11 : (c == 11) = false := beq_eq_false_iff_ne.mpr (by omega)
  have b21 : (c == 21) = false := beq_eq_false_iff_ne.mpr (by omega)
  have b25 : (c == 25) = false := beq_eq_false_iff_ne.mpr (by omega)
  have b30 : (c == 30) = false := beq_eq_false_iff_ne.mpr (by omega)
  have b32 : (c == 32) = false := beq_eq_false_iff_ne.mpr (by omega)
  go_enter Tryd.func73, Tryd.ntmps73
  go_wp2
  refine ref_end (r := zeroR) rfl _ rfl (heap_alloc_new _ _) rfl rfl ?_ HB.out.symm ((Below.refl _ _).alloc (Nat.le_refl _) _)
  unfold r_numbers; rw [HB.out]; rfl
set_option maxHeartbeats 4000000 in
set_option maxRecDepth 100000 in
theorem numbers_r1 (c : Int) (w : World) (l : 12 ≤ c) (u : c ≤ 15) :
    Calls Tryd.prog 73 #[.int .i64 c] w fun e w' => e = .returned (.tuple #[.agg (rowC (r_numbers c)), .bool (in_numbers c)]) ∧ Below w.heap.size w w' := by
  have eb : in_numbers c = false := by unfold in_numbers; exact decide_eq_false (by omega)
  have HB := Lib.hid eb
  clear eb
  have b1 : (c == 1) = false := beq_eq_false_iff_ne.mpr (by omega)
  have b3 : (c == 3) = false := beq_eq_false_iff_ne.mpr (by omega)
  have b8 : (c == 8) = false := beq_eq_false_iff_ne.mpr (by omega)
  have b9 : (c == 9) = false := beq_eq_false_iff_ne.mpr (by omega)
  have b10 : (c == 10) = false := beq_eq_false_iff_ne.mpr (by omega)
  have b11 : (c == 11) = false := beq_eq_false_iff_ne.mpr (by omega)
  have b21 : (c == 21) = false := beq_eq_false_iff_ne.mpr (by omega)
  have b25 : (c == 25) = false := beq_eq_false_iff_ne.mpr (by omega)
  have b30 : (c == 30) = false := beq_eq_false_iff_ne.mpr (by omega)
  have b32 : (c == 32) = false := beq_eq_false_iff_ne.mpr (by omega)
  go_enter Tryd.func73, Tryd.ntmps73
  go_wp2
  refine ref_end (r := zeroR) rfl _ rfl (heap_alloc_new _ _) rfl rfl ?_ HB.out.symm ((Below.refl _ _).alloc (Nat.le_refl _) _)
  unfold r_numbers; rw [HB.out]; rfl
set_option maxHeartbeats 4000000 in
set_option maxRecDepth 100000 in
theorem numbers_r2 (c : Int) (w : World) (l : 31 ≤ c) (u : c ≤ 31) :
    Calls Tryd.prog 73 #[.int .i64 c] w fun e w' => e = .returned (.tuple #[.agg (rowC (r_numbers c)), .bool (in_numbers c)]) ∧ Below w.heap.size w w' := by
  have eb : in_numbers c = false := by unfold in_numbers; exact decide_eq_false (by omega)
  have HB := Lib.hid eb
  clear eb
  have b1 : (c == 1) = false := beq_eq_false_iff_ne.mpr (by omega)
  have b3 : (c == 3) = false := beq_eq_false_iff_ne.mpr (by omega)
  have b8 : (c == 8) = false := beq_eq_false_iff_ne.mpr (by omega)
  have b9 : (c == 9) = false := beq_eq_false_iff_ne.mpr (by omega)
  have b10 : (c == 10) = false := beq_eq_false_iff_ne.mpr (by omega)
  have b11 : (c == 11) = false := beq_eq_false_iff_ne.mpr (by omega)
  have b21 : (c == 21) = false := beq_eq_false_iff_ne.mpr (by omega)
  have b25 : (c == 25) = false := beq_eq_false_iff_ne.mpr (by omega)
  have b30 : (c == 30) = false := beq_eq_false_iff_ne.mpr (by omega)
  have b32 : (c == 32) = false := beq_eq_false_iff_ne.mpr (by omega)
  go_enter Tryd.func73, Tryd.ntmps73
  go_wp2
  refine ref_end (r := zeroR) rfl _ rfl (heap_alloc_new _ _) rfl rfl ?_ HB.out.symm ((Below.refl _ _).alloc (Nat.le_refl _) _)
  unfold r_numbers; rw [HB.out]; rfl
set_option maxHeartbeats 4000000 in
set_option maxRecDepth 100000 in
theorem numbers_r3 (c : Int) (w : World) (l : 33 ≤ c) :
    Calls Tryd.prog 73 #[.int .i64 c] w fun e w' => e = .returned (.tuple #[.agg (rowC (r_numbers c)), .bool (in_numbers c)]) ∧ Below w.heap.size w w' := by
  have eb : in_numbers c = false := by unfold in_numbers; exact decide_eq_false (by omega)
  have HB := Lib.hid eb
  clear eb
  have b1 : (c == 1) = false := beq_eq_false_iff_ne.mpr (by omega)
  have b3 : (c == 3) = false := beq_eq_false_iff_ne.mpr (by omega)
  have b8 : (c == 8) = false := beq_eq_false_iff_ne.mpr (by omega)
  have b9 : (c == 9) = false := beq_eq_false_iff_ne.mpr (by omega)
  have b10 : (c == 10) = false := beq_eq_false_iff_ne.mpr (by omega)
  have b11 : (c == 11) = false := beq_eq_false_iff_ne.mpr (by omega)
  have b21 : (c == 21) = false := beq_eq_false_iff_ne.mpr (by omega)
  have b25 : (c == 25) = false := beq_eq_false_iff_ne.mpr (by omega)
  have b30 : (c == 30) = false := beq_eq_false_iff_ne.mpr (by omega)
  have b32 : (c == 32) = false := beq_eq_false_iff_ne.mpr (by omega)
  go_enter Tryd.func73, Tryd.ntmps73
  go_wp2
  refine ref_end (r := zeroR) rfl _ rfl (heap_alloc_new _ _) rfl rfl ?_ HB.out.symm ((Below.refl _ _).alloc (Nat.le_refl _) _)
  unfold r_numbers; rw [HB.out]; rfl
theorem numbers_any (c : Int) (w : World) :
    Calls Tryd.prog 73 #[.int .i64 c] w fun e w' => e = .returned (.tuple #[.agg (rowC (r_numbers c)), .bool (in_numbers c)]) ∧ Below w.heap.size w w' := by
  rcases (show (c = 1 ∨ c = 2 ∨ c = 3 ∨ c = 4 ∨ c = 5 ∨ c = 6 ∨ c = 7 ∨ c = 8 ∨ c = 9 ∨ c = 10 ∨ c = 11 ∨ c = 16) ∨ (c = 17 ∨ c = 18 ∨ c = 19 ∨ c = 20 ∨ c = 21 ∨ c = 22 ∨ c = 23 ∨ c = 24 ∨ c = 25 ∨ c = 26 ∨ c = 27 ∨ c = 28) ∨ (c = 29 ∨ c = 30 ∨ c = 32) ∨ (c ≤ 0) ∨ (12 ≤ c ∧ c ≤ 15) ∨ (31 ≤ c ∧ c ≤ 31) ∨ (33 ≤ c) by omega) with h | h | h | h | ⟨h1, h2⟩ | ⟨h1, h2⟩ | h
  · exact numbers_c0 c w h
  · exact numbers_c1 c w h
  · exact numbers_c2 c w h
  · exact numbers_r0 c w h
  · exact numbers_r1 c w h1 h2
  · exact numbers_r2 c w h1 h2
  · exact numbers_r3 c w h
def in_around (c : Int) : Bool := decide ((48 ≤ c ∧ c ≤ 55) ∨ c = 58 ∨ c = 61 ∨ c = 62 ∨ (64 ≤ c ∧ c ≤ 74))
def r_around (c : Int) : OpRow := if in_around c then opR c else zeroR
set_option maxHeartbeats 4000000 in
set_option maxRecDepth 100000 in
theorem around_c0 (c : Int) (w : World) (h : c = 48 ∨ c = 49 ∨ c = 50 ∨ c = 51 ∨ c = 52 ∨ c = 53 ∨ c = 54 ∨ c = 55 ∨ c = 58 ∨ c = 61 ∨ c = 62 ∨ c = 64) :
    Calls Tryd.prog 74 #[.int .i64 c] w fun e w' => e = .returned (.tuple #[.agg (rowC (r_around c)), .bool (in_around c)]) ∧ Below w.heap.size w w' := by
  rcases h with rfl | rfl | rfl | rfl | rfl | rfl | rfl | rfl | rfl | rfl | rfl | rfl
  all_goals
    go_enter Tryd.func74, Tryd.ntmps74
    go_wp2_with (first | (go_at_call 82; refine (word_any _ _ _ (by decide) (by decide) (by decide)).mono ?_; rintro e w1 ⟨rfl, rfl⟩) | (go_at_call 81; refine (row_any _ _ _ _ _ _ _ _).mono ?_; rintro e w1 ⟨rfl, hb⟩; have hg := kept_new hb) | (refine wpList_store_row rfl 82 _ _ rfl w.heap.size _ rfl rfl 82 _ hg ?_ rfl (rowC_one _) ?_; (kernel_rfl)))
    exact ref_end rfl _ rfl (setRow_heap _ _ _ _ _ _ hg) rfl rfl (by kernel_rfl) (by kernel_rfl) (below_setRow (((Below.refl _ _).alloc (Nat.le_refl _) _).trans (hb.mono (by simp))) (Nat.le_refl _) _)
set_option maxHeartbeats 4000000 in
set_option maxRecDepth 100000 in
theorem around_c1 (c : Int) (w : World) (h : c = 65 ∨ c = 66 ∨ c = 67 ∨ c = 68 ∨ c = 69 ∨ c = 70 ∨ c = 71 ∨ c = 72 ∨ c = 73 ∨ c = 74) :
    Calls Tryd.prog 74 #[.int .i64 c] w fun e w' => e = .returned (.tuple #[.agg (rowC (r_around c)), .bool (in_around c)]) ∧ Below w.heap.size w w' := by
  rcases h with rfl | rfl | rfl | rfl | rfl | rfl | rfl | rfl | rfl | rfl
  all_goals
    go_enter Tryd.func74, Tryd.ntmps74
    go_wp2_with (first | (go_at_call 82; refine (word_any _ _ _ (by decide) (by decide) (by decide)).mono ?_; rintro e w1 ⟨rfl, rfl⟩) | (go_at_call 81; refine (row_any _ _ _ _ _ _ _ _).mono ?_; rintro e w1 ⟨rfl, hb⟩; have hg := kept_new hb) | (refine wpList_store_row rfl 82 _ _ rfl w.heap.size _ rfl rfl 82 _ hg ?_ rfl (rowC_one _) ?_; (kernel_rfl)))
    exact ref_end rfl _ rfl (setRow_heap _ _ _ _ _ _ hg) rfl rfl (by kernel_rfl) (by kernel_rfl) (below_setRow (((Below.refl _ _).alloc (Nat.le_refl _) _).trans (hb.mono (by simp))) (Nat.le_refl _) _)
set_option maxHeartbeats 4000000 in
set_option maxRecDepth 100000 in
theorem around_r0 (c : Int) (w : World) (u : c ≤ 47) :
    Calls Tryd.prog 74 #[.int .i64 c] w fun e w' => e = .returned (.tuple #[.agg (rowC (r_around c)), .bool (in_around c)]) ∧ Below w.heap.size w w' := by
  have eb : in_around c = false := by unfold in_around; exact decide_eq_false (by omega)
  have HB := Lib.hid eb
  clear eb
  have b49 : (c == 49) = false := beq_eq_false_iff_ne.mpr (by omega)
  have b53 : (c == 53) = false := beq_eq_false_iff_ne.mpr (by omega)
  have b55 : (c == 55) = false := beq_eq_false_iff_ne.mpr (by omega)
  have b62 : (c == 62) = false := beq_eq_false_iff_ne.mpr (by omega)
  have b58 : (c == 58) = false := beq_eq_false_iff_ne.mpr (by omega)
  have b61 : (c == 61) = false := beq_eq_false_iff_ne.mpr (by omega)
  have b64 : (c == 64) = false := beq_eq_false_iff_ne.mpr (by omega)
  have b73 : (c == 73) = false := beq_eq_false_iff_ne.mpr (by omega)
  have b71 : (c == 71) = false := beq_eq_false_iff_ne.mpr (by omega)
  go_enter Tryd.func74, Tryd.ntmps74
  go_wp2
  refine ref_end (r := zeroR) rfl _ rfl (heap_alloc_new _ _) rfl rfl ?_ HB.out.symm ((Below.refl _ _).alloc (Nat.le_refl _) _)
  unfold r_around; rw [HB.out]; rfl
set_option maxHeartbeats 4000000 in
set_option maxRecDepth 100000 in
theorem around_r1 (c : Int) (w : World) (l : 56 ≤ c) (u : c ≤ 57) :
    Calls Tryd.prog 74 #[.int .i64 c] w fun e w' => e = .returned (.tuple #[.agg (rowC (r_around c)), .bool (in_around c)]) ∧ Below w.heap.size w w' := by
  have eb : in_around c = false := by unfold in_around; exact decide_eq_false (by omega)
  have HB := Lib.hid eb
  clear eb
  have b49 : (c == 49) = false := beq_eq_false_iff_ne.mpr (by omega)
  have b53 : (c == 53) = false := beq_eq_false_iff_ne.mpr (by omega)
  have b55 : (c == 55) = false := beq_eq_false_iff_ne.mpr (by omega)
  have b62 : (c == 62) = false := beq_eq_false_iff_ne.mpr (by omega)
  have b58 : (c == 58) = false := beq_eq_false_iff_ne.mpr (by omega)
  have b61 : (c == 61) = false := beq_eq_false_iff_ne.mpr (by omega)
  have b64 : (c == 64) = false := beq_eq_false_iff_ne.mpr (by omega)
  have b73 : (c == 73) = false := beq_eq_false_iff_ne.mpr (by omega)
  have b71 : (c == 71) = false := beq_eq_false_iff_ne.mpr (by omega)
  go_enter Tryd.func74, Tryd.ntmps74
  go_wp2
  refine ref_end (r := zeroR) rfl _ rfl (heap_alloc_new _ _) rfl rfl ?_ HB.out.symm ((Below.refl _ _).alloc (Nat.le_refl _) _)
  unfold r_around; rw [HB.out]; rfl
set_option maxHeartbeats 4000000 in
set_option maxRecDepth 100000 in
theorem around_r2 (c : Int) (w : World) (l : 59 ≤ c) (u : c ≤ 60) :
    Calls Tryd.prog 74 #[.int .i64 c] w fun e w' => e = .returned (.tuple #[.agg (rowC (r_around c)), .bool (in_around c)]) ∧ Below w.heap.size w w' := by
  have eb : in_around c = false := by unfold in_around; exact decide_eq_false (by omega)
  have HB := Lib.hid eb
  clear eb
  have b49 : (c == 49) = false := beq_eq_false_iff_ne.mpr (by omega)
  have b53 : (c == 53) = false := beq_eq_false_iff_ne.mpr (by omega)
  have b55 : (c == 55) = false := beq_eq_false_iff_ne.mpr (by omega)
  have b62 : (c == 62) = false := beq_eq_false_iff_ne.mpr (by omega)
  have b58 : (c == 58) = false := beq_eq_false_iff_ne.mpr (by omega)
  have b61 : (c == 61) = false := beq_eq_false_iff_ne.mpr (by omega)
  have b64 : (c == 64) = false := beq_eq_false_iff_ne.mpr (by omega)
  have b73 : (c == 73) = false := beq_eq_false_iff_ne.mpr (by omega)
  have b71 : (c == 71) = false := beq_eq_false_iff_ne.mpr (by omega)
  go_enter Tryd.func74, Tryd.ntmps74
  go_wp2
  refine ref_end (r := zeroR) rfl _ rfl (heap_alloc_new _ _) rfl rfl ?_ HB.out.symm ((Below.refl _ _).alloc (Nat.le_refl _) _)
  unfold r_around; rw [HB.out]; rfl
set_option maxHeartbeats 4000000 in
set_option maxRecDepth 100000 in
theorem around_r3 (c : Int) (w : World) (l : 63 ≤ c) (u : c ≤ 63) :
    Calls Tryd.prog 74 #[.int .i64 c] w fun e w' => e = .returned (.tuple #[.agg (rowC (r_around c)), .bool (in_around c)]) ∧ Below w.heap.size w w' := by
  have eb : in_around c = false := by unfold in_around; exact decide_eq_false (by omega)
  have HB := Lib.hid eb
  clear eb
  have b49 : (c == 49) = false := beq_eq_false_iff_ne.mpr (by omega)
  have b53 : (c == 53) = false := beq_eq_false_iff_ne.mpr (by omega)
  have b55 : (c == 55) = false := beq_eq_false_iff_ne.mpr (by omega)
  have b62 : (c == 62) = false := beq_eq_false_iff_ne.mpr (by omega)
  have b58 : (c == 58) = false := beq_eq_false_iff_ne.mpr (by omega)
  have b61 : (c == 61) = false := beq_eq_false_iff_ne.mpr (by omega)
  have b64 : (c == 64) = false := beq_eq_false_iff_ne.mpr (by omega)
  have b73 : (c == 73) = false := beq_eq_false_iff_ne.mpr (by omega)
  have b71 : (c == 71) = false := beq_eq_false_iff_ne.mpr (by omega)
  go_enter Tryd.func74, Tryd.ntmps74
  go_wp2
  refine ref_end (r := zeroR) rfl _ rfl (heap_alloc_new _ _) rfl rfl ?_ HB.out.symm ((Below.refl _ _).alloc (Nat.le_refl _) _)
  unfold r_around; rw [HB.out]; rfl
set_option maxHeartbeats 4000000 in
set_option maxRecDepth 100000 in
theorem around_r4 (c : Int) (w : World) (l : 75 ≤ c) :
    Calls Tryd.prog 74 #[.int .i64 c] w fun e w' => e = .returned (.tuple #[.agg (rowC (r_around c)), .bool (in_around c)]) ∧ Below w.heap.size w w' := by
  have eb : in_around c = false := by unfold in_around; exact decide_eq_false (by omega)
  have HB := Lib.hid eb
  clear eb
  have b49 : (c == 49) = false := beq_eq_false_iff_ne.mpr (by omega)
  have b53 : (c == 53) = false := beq_eq_false_iff_ne.mpr (by omega)
  have b55 : (c == 55) = false := beq_eq_false_iff_ne.mpr (by omega)
  have b62 : (c == 62) = false := beq_eq_false_iff_ne.mpr (by omega)
  have b58 : (c == 58) = false := beq_eq_false_iff_ne.mpr (by omega)
  have b61 : (c == 61) = false := beq_eq_false_iff_ne.mpr (by omega)
  have b64 : (c == 64) = false := beq_eq_false_iff_ne.mpr (by omega)
  have b73 : (c == 73) = false := beq_eq_false_iff_ne.mpr (by omega)
  have b71 : (c == 71) = false := beq_eq_false_iff_ne.mpr (by omega)
  go_enter Tryd.func74, Tryd.ntmps74
  go_wp2
  refine ref_end (r := zeroR) rfl _ rfl (heap_alloc_new _ _) rfl rfl ?_ HB.out.symm ((Below.refl _ _).alloc (Nat.le_refl _) _)
  unfold r_around; rw [HB.out]; rfl
theorem around_any (c : Int) (w : World) :
    Calls Tryd.prog 74 #[.int .i64 c] w fun e w' => e = .returned (.tuple #[.agg (rowC (r_around c)), .bool (in_around c)]) ∧ Below w.heap.size w w' := by
  rcases (show (c = 48 ∨ c = 49 ∨ c = 50 ∨ c = 51 ∨ c = 52 ∨ c = 53 ∨ c = 54 ∨ c = 55 ∨ c = 58 ∨ c = 61 ∨ c = 62 ∨ c = 64) ∨ (c = 65 ∨ c = 66 ∨ c = 67 ∨ c = 68 ∨ c = 69 ∨ c = 70 ∨ c = 71 ∨ c = 72 ∨ c = 73 ∨ c = 74) ∨ (c ≤ 47) ∨ (56 ≤ c ∧ c ≤ 57) ∨ (59 ≤ c ∧ c ≤ 60) ∨ (63 ≤ c ∧ c ≤ 63) ∨ (75 ≤ c) by omega) with h | h | h | ⟨h1, h2⟩ | ⟨h1, h2⟩ | ⟨h1, h2⟩ | h
  · exact around_c0 c w h
  · exact around_c1 c w h
  · exact around_r0 c w h
  · exact around_r1 c w h1 h2
  · exact around_r2 c w h1 h2
  · exact around_r3 c w h1 h2
  · exact around_r4 c w h
end Go.Proofs.YtfjmdffhfjnopaaDoor
