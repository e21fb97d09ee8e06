/- strconv.Itoa of 0 to 99 tells the digits; op.compared returns its table's row, for every code from 16 on. -/
import Derived.Test.YtfjmdffhfjnopaaDoorOpA
import Derived.Test.YtfjmdffhfjnopaaDoorGen
namespace Go.Proofs.YtfjmdffhfjnopaaDoor
open Go.RowKit Vouch Go.Vk
theorem itoa_any (n : Int) (h0 : 0 ≤ n) (h1 : n < 100) (w : World) :
    Calls Tryd.prog 66 #[.int .i64 n] w fun e w' => e = .returned (.string (dec n)) ∧ w = w' := by
  obtain ⟨i, rfl⟩ := Int.eq_ofNat_of_zero_le h0
  refine (Tryd.strconv_Itoa_small i (by omega) w).mono ?_
  rintro e w' ⟨rfl, rfl⟩
  exact ⟨by unfold dec; simp, rfl⟩
set_option maxHeartbeats 2000000 in
set_option maxRecDepth 100000 in
theorem compared_any (c : Int) (w : World) (h0 : 16 ≤ c) :
    Calls Tryd.prog 69 #[.int .i64 c] w fun e w' => e = .returned (.agg (rowC (comparedR c))) ∧ Below w.heap.size w w' := by
  rcases (show c = 16 ∨ c = 17 ∨ c = 18 ∨ c = 19 ∨ c = 20 ∨ c = 21 ∨ c = 22 ∨ c = 23 ∨ c = 24 ∨ c = 25 ∨ c = 26 ∨ c = 27 ∨ c = 28 ∨ c = 29 ∨ c = 30 ∨ c = 31 ∨ c = 32 ∨ 33 ≤ c by omega) with rfl | rfl | rfl | rfl | rfl | rfl | rfl | rfl | rfl | rfl | rfl | rfl | rfl | rfl | rfl | rfl | rfl | h1
  rotate_right
  · have e : comparedR c = zeroR := by unfold comparedR; rw [if_neg (by omega), if_neg (by omega), if_pos (by omega)]
    have E := Lib.hid e
    clear e
    have b30 : (c == 30) = false := beq_eq_false_iff_ne.mpr (by omega)
    have b32 : (c == 32) = false := beq_eq_false_iff_ne.mpr (by omega)
    go_enter Tryd.func69, Tryd.ntmps69
    go_wp2
    rw [E.out]
    exact row_end (r := zeroR) rfl _ rfl (heap_alloc_new _ _) rfl ((Below.refl _ _).alloc (Nat.le_refl _) _)
  all_goals
    go_enter Tryd.func69, Tryd.ntmps69
    go_wp2_with (first | (go_at_call 67; refine (plain_any _ _ _ _ _ _).mono ?_; rintro e w1 ⟨rfl, hb⟩; first | (have hg := kept_new2 hb) | (have hg := kept_new hb)) | (refine wpList_store_row rfl 82 _ _ rfl w.heap.size _ rfl rfl 82 _ hg ?_ rfl (rowC_one _) ?_; (kernel_rfl)))
    first
      | exact row_end rfl _ rfl (setRow_heap _ _ _ _ _ _ hg) rfl (below_setRow (((Below.refl _ _).alloc (Nat.le_refl _) _).trans (hb.mono (by simp))) (Nat.le_refl _) _)
      | exact row_end rfl _ rfl (setRow_heap _ _ _ _ _ _ hg) rfl (below_setRow ((((Below.refl _ _).alloc (Nat.le_refl _) _).alloc (by simp) _).trans (hb.mono (by first | (simp; done) | (simp; omega)))) (Nat.le_refl _) _)
      | exact row_end (r := zeroR) rfl _ rfl (heap_alloc_new _ _) rfl ((Below.refl _ _).alloc (Nat.le_refl _) _)
end Go.Proofs.YtfjmdffhfjnopaaDoor
