/- op.find returns the row opR tells, for every code. -/
import Derived.Test.YtfjmdffhfjnopaaDoorOpB
namespace Go.Proofs.YtfjmdffhfjnopaaDoor
open Go.RowKit Vouch Go.Vk
theorem dec_size (n : Int) (h0 : 0 ≤ n) (h1 : n < 100) : (dec n).size ≤ 2 := by
  obtain ⟨i, rfl⟩ := Int.eq_ofNat_of_zero_le h0
  have : ∀ i : Fin 100, (dec (i.1 : Int)).size ≤ 2 := by decide +kernel
  exact this ⟨i, by omega⟩
set_option maxHeartbeats 1000000 in
set_option maxRecDepth 100000 in
theorem find_push (c : Int) (w : World) (l1 : 96 ≤ c) (u1 : c ≤ 127) :
    Calls Tryd.prog 58 #[.int .i64 c] w fun e w' => e = .returned (.agg (rowC ⟨c, ⟨#[80, 85, 83, 72]⟩ ++ dec (c - 96 + 1), c - 96 + 1, 0, 1, 3, false⟩)) ∧ Below w.heap.size w w' := by
  have hs := dec_size (c - 96 + 1) (by omega) (by omega)
  go_enter Tryd.func58, Tryd.ntmps58
  go_wp2_with (first | (go_at_call 66; refine (itoa_any _ (by omega) (by omega) _).mono ?_; rintro e w1 ⟨rfl, rfl⟩))
  exact row_end rfl _ rfl (heap_alloc_new _ _) rfl ((Below.refl _ _).alloc (Nat.le_refl _) _)
set_option maxHeartbeats 1000000 in
set_option maxRecDepth 100000 in
theorem find_dup (c : Int) (w : World) (l1 : 128 ≤ c) (u1 : c ≤ 143) :
    Calls Tryd.prog 58 #[.int .i64 c] w fun e w' => e = .returned (.agg (rowC ⟨c, ⟨#[68, 85, 80]⟩ ++ dec (c - 128 + 1), 0, c - 128 + 1, c - 128 + 1 + 1, 3, false⟩)) ∧ Below w.heap.size w w' := by
  have hs := dec_size (c - 128 + 1) (by omega) (by omega)
  go_enter Tryd.func58, Tryd.ntmps58
  go_wp2_with (first | (go_at_call 66; refine (itoa_any _ (by omega) (by omega) _).mono ?_; rintro e w1 ⟨rfl, rfl⟩) | (go_at_call 67; refine (plain_any _ _ _ _ _ _).mono ?_; rintro e w1 ⟨rfl, hb⟩; have hg := kept_new hb) | (refine wpList_store_row rfl 82 _ _ rfl w.heap.size _ rfl rfl 82 _ hg ?_ rfl (rowC_one _) ?_; (kernel_rfl)))
  exact row_end rfl _ rfl (setRow_heap _ _ _ _ _ _ hg) rfl (below_setRow (((Below.refl _ _).alloc (Nat.le_refl _) _).trans (hb.mono (by simp))) (Nat.le_refl _) _)
set_option maxHeartbeats 1000000 in
set_option maxRecDepth 100000 in
theorem find_swap (c : Int) (w : World) (l1 : 144 ≤ c) (u1 : c ≤ 159) :
    Calls Tryd.prog 58 #[.int .i64 c] w fun e w' => e = .returned (.agg (rowC ⟨c, ⟨#[83, 87, 65, 80]⟩ ++ dec (c - 144 + 1), 0, c - 144 + 1 + 1, c - 144 + 1 + 1, 3, false⟩)) ∧ Below w.heap.size w w' := by
  have hs := dec_size (c - 144 + 1) (by omega) (by omega)
  go_enter Tryd.func58, Tryd.ntmps58
  go_wp2_with (first | (go_at_call 66; refine (itoa_any _ (by omega) (by omega) _).mono ?_; rintro e w1 ⟨rfl, rfl⟩) | (go_at_call 67; refine (plain_any _ _ _ _ _ _).mono ?_; rintro e w1 ⟨rfl, hb⟩; have hg := kept_new hb) | (refine wpList_store_row rfl 82 _ _ rfl w.heap.size _ rfl rfl 82 _ hg ?_ rfl (rowC_one _) ?_; (kernel_rfl)))
  exact row_end rfl _ rfl (setRow_heap _ _ _ _ _ _ hg) rfl (below_setRow (((Below.refl _ _).alloc (Nat.le_refl _) _).trans (hb.mono (by simp))) (Nat.le_refl _) _)
set_option maxHeartbeats 1000000 in
set_option maxRecDepth 100000 in
theorem find_log (c : Int) (w : World) (l1 : 160 ≤ c) (u1 : c ≤ 164) :
    Calls Tryd.prog 58 #[.int .i64 c] w fun e w' => e = .returned (.agg (rowC ⟨c, ⟨#[76, 79, 71]⟩ ++ dec (c - 160), 0, c - 160 + 2, 0, 375 * (c - 160 + 1), false⟩)) ∧ Below w.heap.size w w' := by
  have hs := dec_size (c - 160) (by omega) (by omega)
  go_enter Tryd.func58, Tryd.ntmps58
  go_wp2_with (first | (go_at_call 66; refine (itoa_any _ (by omega) (by omega) _).mono ?_; rintro e w1 ⟨rfl, rfl⟩) | (go_at_call 67; refine (plain_any _ _ _ _ _ _).mono ?_; rintro e w1 ⟨rfl, hb⟩; have hg := kept_new hb) | (refine wpList_store_row rfl 82 _ _ rfl w.heap.size _ rfl rfl 82 _ hg ?_ rfl (rowC_one _) ?_; (kernel_rfl)))
  exact row_end rfl _ rfl (setRow_heap _ _ _ _ _ _ hg) rfl (below_setRow (((Below.refl _ _).alloc (Nat.le_refl _) _).trans (hb.mono (by simp))) (Nat.le_refl _) _)
set_option maxHeartbeats 1000000 in
set_option maxRecDepth 100000 in
theorem find_sums (c : Int) (w : World) (u1 : c < 16) :
    Calls Tryd.prog 58 #[.int .i64 c] w fun e w' => e = .returned (.agg (rowC (sumsR c))) ∧ Below w.heap.size w w' := by
  go_enter Tryd.func58, Tryd.ntmps58
  go_wp2_with (first | (go_at_call 68; refine (sums_any _ _).mono ?_; rintro e w1 ⟨rfl, hb⟩; have hg := kept_new hb) | (refine wpList_store_row rfl 82 _ _ rfl w.heap.size _ rfl rfl 82 _ hg ?_ rfl (rowC_one _) ?_; (kernel_rfl)))
  exact row_end rfl _ rfl (setRow_heap _ _ _ _ _ _ hg) rfl (below_setRow (((Below.refl _ _).alloc (Nat.le_refl _) _).trans (hb.mono (by simp))) (Nat.le_refl _) _)
set_option maxHeartbeats 1000000 in
set_option maxRecDepth 100000 in
theorem find_comp (c : Int) (w : World) (l1 : 16 ≤ c) (u1 : c < 48) :
    Calls Tryd.prog 58 #[.int .i64 c] w fun e w' => e = .returned (.agg (rowC (comparedR c))) ∧ Below w.heap.size w w' := by
  go_enter Tryd.func58, Tryd.ntmps58
  go_wp2_with (first | (go_at_call 69; refine (compared_any _ _ l1).mono ?_; rintro e w1 ⟨rfl, hb⟩; have hg := kept_new hb) | (refine wpList_store_row rfl 82 _ _ rfl w.heap.size _ rfl rfl 82 _ hg ?_ rfl (rowC_one _) ?_; (kernel_rfl)))
  exact row_end rfl _ rfl (setRow_heap _ _ _ _ _ _ hg) rfl (below_setRow (((Below.refl _ _).alloc (Nat.le_refl _) _).trans (hb.mono (by simp))) (Nat.le_refl _) _)
set_option maxHeartbeats 1000000 in
set_option maxRecDepth 100000 in
theorem find_asked (c : Int) (w : World) (l1 : 48 ≤ c) (u1 : c < 80) :
    Calls Tryd.prog 58 #[.int .i64 c] w fun e w' => e = .returned (.agg (rowC (askedR c))) ∧ Below w.heap.size w w' := by
  go_enter Tryd.func58, Tryd.ntmps58
  go_wp2_with (first | (go_at_call 70; refine (asked_any _ _).mono ?_; rintro e w1 ⟨rfl, hb⟩; have hg := kept_new hb) | (refine wpList_store_row rfl 82 _ _ rfl w.heap.size _ rfl rfl 82 _ hg ?_ rfl (rowC_one _) ?_; (kernel_rfl)))
  exact row_end rfl _ rfl (setRow_heap _ _ _ _ _ _ hg) rfl (below_setRow (((Below.refl _ _).alloc (Nat.le_refl _) _).trans (hb.mono (by simp))) (Nat.le_refl _) _)
set_option maxHeartbeats 1000000 in
set_option maxRecDepth 100000 in
theorem find_held (c : Int) (w : World) (l1 : 80 ≤ c) (u1 : c < 96) :
    Calls Tryd.prog 58 #[.int .i64 c] w fun e w' => e = .returned (.agg (rowC (heldR c))) ∧ Below w.heap.size w w' := by
  go_enter Tryd.func58, Tryd.ntmps58
  go_wp2_with (first | (go_at_call 71; refine (held_any _ _).mono ?_; rintro e w1 ⟨rfl, hb⟩; have hg := kept_new hb) | (refine wpList_store_row rfl 82 _ _ rfl w.heap.size _ rfl rfl 82 _ hg ?_ rfl (rowC_one _) ?_; (kernel_rfl)))
  exact row_end rfl _ rfl (setRow_heap _ _ _ _ _ _ hg) rfl (below_setRow (((Below.refl _ _).alloc (Nat.le_refl _) _).trans (hb.mono (by simp))) (Nat.le_refl _) _)
set_option maxHeartbeats 1000000 in
set_option maxRecDepth 100000 in
theorem find_held2 (c : Int) (w : World) (l1 : 165 ≤ c) (u1 : c < 208) :
    Calls Tryd.prog 58 #[.int .i64 c] w fun e w' => e = .returned (.agg (rowC (heldR c))) ∧ Below w.heap.size w w' := by
  go_enter Tryd.func58, Tryd.ntmps58
  go_wp2_with (first | (go_at_call 71; refine (held_any _ _).mono ?_; rintro e w1 ⟨rfl, hb⟩; have hg := kept_new hb) | (refine wpList_store_row rfl 82 _ _ rfl w.heap.size _ rfl rfl 82 _ hg ?_ rfl (rowC_one _) ?_; (kernel_rfl)))
  exact row_end rfl _ rfl (setRow_heap _ _ _ _ _ _ hg) rfl (below_setRow (((Below.refl _ _).alloc (Nat.le_refl _) _).trans (hb.mono (by simp))) (Nat.le_refl _) _)
set_option maxHeartbeats 1000000 in
set_option maxRecDepth 100000 in
theorem find_turned (c : Int) (w : World) (l1 : 208 ≤ c) :
    Calls Tryd.prog 58 #[.int .i64 c] w fun e w' => e = .returned (.agg (rowC (turnedR c))) ∧ Below w.heap.size w w' := by
  go_enter Tryd.func58, Tryd.ntmps58
  go_wp2_with (first | (go_at_call 72; refine (turned_any _ _).mono ?_; rintro e w1 ⟨rfl, hb⟩; have hg := kept_new hb) | (refine wpList_store_row rfl 82 _ _ rfl w.heap.size _ rfl rfl 82 _ hg ?_ rfl (rowC_one _) ?_; (kernel_rfl)))
  exact row_end rfl _ rfl (setRow_heap _ _ _ _ _ _ hg) rfl (below_setRow (((Below.refl _ _).alloc (Nat.le_refl _) _).trans (hb.mono (by simp))) (Nat.le_refl _) _)
theorem find_any (c : Int) (w : World) :
    Calls Tryd.prog 58 #[.int .i64 c] w fun e w' => e = .returned (.agg (rowC (opR c))) ∧ Below w.heap.size w w' := by
  unfold opR
  by_cases h1 : 96 ≤ c ∧ c ≤ 127
  · rw [if_pos h1]; exact find_push c w h1.1 h1.2
  rw [if_neg h1]
  by_cases h2 : 128 ≤ c ∧ c ≤ 143
  · rw [if_pos h2]; exact find_dup c w h2.1 h2.2
  rw [if_neg h2]
  by_cases h3 : 144 ≤ c ∧ c ≤ 159
  · rw [if_pos h3]; exact find_swap c w h3.1 h3.2
  rw [if_neg h3]
  by_cases h4 : 160 ≤ c ∧ c ≤ 164
  · rw [if_pos h4]; exact find_log c w h4.1 h4.2
  rw [if_neg h4]
  by_cases h5 : c < 16
  · rw [if_pos h5]; exact find_sums c w h5
  rw [if_neg h5]
  by_cases h6 : c < 48
  · rw [if_pos h6]; exact find_comp c w (by omega) h6
  rw [if_neg h6]
  by_cases h7 : c < 80
  · rw [if_pos h7]; exact find_asked c w (by omega) h7
  rw [if_neg h7]
  by_cases h8 : c < 208
  · rw [if_pos h8]
    by_cases h9 : c < 96
    · exact find_held c w (by omega) h9
    · exact find_held2 c w (by omega) h8
  · rw [if_neg h8]; exact find_turned c w (by omega)
end Go.Proofs.YtfjmdffhfjnopaaDoor
