/- vouchref4.ways: the row opR tells where the code is one of its own, for every code. -/
import Derived.Test.YtfjmdffhfjnopaaDoorRefN
namespace Go.Proofs.YtfjmdffhfjnopaaDoor
open Go.RowKit Vouch Go.Vk
def in_ways (c : Int) : Bool := decide (c = 0 ∨ c = 208 ∨ c = 209 ∨ c = 210 ∨ c = 211 ∨ c = 224 ∨ c = 225 ∨ c = 226 ∨ c = 227 ∨ c = 228 ∨ c = 229 ∨ c = 230 ∨ c = 231 ∨ c = 232 ∨ c = 236 ∨ c = 238 ∨ c = 243 ∨ c = 247 ∨ c = 248 ∨ c = 249 ∨ c = 251 ∨ c = 253 ∨ c = 254)
def r_ways (c : Int) : OpRow := if in_ways c then opR c else zeroR
set_option maxHeartbeats 4000000 in
set_option maxRecDepth 100000 in
theorem ways_c0 (c : Int) (w : World) (h : c = 0 ∨ c = 208 ∨ c = 209 ∨ c = 210 ∨ c = 211 ∨ c = 224 ∨ c = 225 ∨ c = 226 ∨ c = 227 ∨ c = 228 ∨ c = 229 ∨ c = 230) :
    Calls Tryd.prog 76 #[.int .i64 c] w fun e w' => e = .returned (.tuple #[.agg (rowC (r_ways c)), .bool (in_ways c)]) ∧ Below w.heap.size w w' := by
  rcases h with rfl | rfl | rfl | rfl | rfl | rfl | rfl | rfl | rfl | rfl | rfl | rfl
  all_goals
    go_enter Tryd.func76, Tryd.ntmps76
    go_wp2_with (first | (go_at_call 82; refine (word_any _ _ _ (by decide) (by decide) (by decide)).mono ?_; rintro e w1 ⟨rfl, rfl⟩) | (go_at_call 81; refine (row_any _ _ _ _ _ _ _ _).mono ?_; rintro e w1 ⟨rfl, hb⟩; have hg := kept_new hb) | (refine wpList_store_row rfl 82 _ _ rfl w.heap.size _ rfl rfl 82 _ hg ?_ rfl (rowC_one _) ?_; (kernel_rfl)))
    exact ref_end rfl _ rfl (setRow_heap _ _ _ _ _ _ hg) rfl rfl (by kernel_rfl) (by kernel_rfl) (below_setRow (((Below.refl _ _).alloc (Nat.le_refl _) _).trans (hb.mono (by simp))) (Nat.le_refl _) _)
set_option maxHeartbeats 4000000 in
set_option maxRecDepth 100000 in
theorem ways_c1 (c : Int) (w : World) (h : c = 231 ∨ c = 232 ∨ c = 236 ∨ c = 238 ∨ c = 243 ∨ c = 247 ∨ c = 248 ∨ c = 249 ∨ c = 251 ∨ c = 253 ∨ c = 254) :
    Calls Tryd.prog 76 #[.int .i64 c] w fun e w' => e = .returned (.tuple #[.agg (rowC (r_ways c)), .bool (in_ways c)]) ∧ Below w.heap.size w w' := by
  rcases h with rfl | rfl | rfl | rfl | rfl | rfl | rfl | rfl | rfl | rfl | rfl
  all_goals
    go_enter Tryd.func76, Tryd.ntmps76
    go_wp2_with (first | (go_at_call 82; refine (word_any _ _ _ (by decide) (by decide) (by decide)).mono ?_; rintro e w1 ⟨rfl, rfl⟩) | (go_at_call 81; refine (row_any _ _ _ _ _ _ _ _).mono ?_; rintro e w1 ⟨rfl, hb⟩; have hg := kept_new hb) | (refine wpList_store_row rfl 82 _ _ rfl w.heap.size _ rfl rfl 82 _ hg ?_ rfl (rowC_one _) ?_; (kernel_rfl)))
    exact ref_end rfl _ rfl (setRow_heap _ _ _ _ _ _ hg) rfl rfl (by kernel_rfl) (by kernel_rfl) (below_setRow (((Below.refl _ _).alloc (Nat.le_refl _) _).trans (hb.mono (by simp))) (Nat.le_refl _) _)
set_option maxHeartbeats 4000000 in
set_option maxRecDepth 100000 in
theorem ways_r0 (c : Int) (w : World) (u : c ≤ -1) :
    Calls Tryd.prog 76 #[.int .i64 c] w fun e w' => e = .returned (.tuple #[.agg (rowC (r_ways c)), .bool (in_ways c)]) ∧ Below w.heap.size w w' := by
  have eb : in_ways c = false := by unfold in_ways; exact decide_eq_false (by omega)
  have HB := Lib.hid eb
  clear eb
  have b0 : (c == 0) = false := beq_eq_false_iff_ne.mpr (by omega)
  have b208 : (c == 208) = false := beq_eq_false_iff_ne.mpr (by omega)
  have b209 : (c == 209) = false := beq_eq_false_iff_ne.mpr (by omega)
  have b210 : (c == 210) = false := beq_eq_false_iff_ne.mpr (by omega)
  have b211 : (c == 211) = false := beq_eq_false_iff_ne.mpr (by omega)
  have b224 : (c == 224) = false := beq_eq_false_iff_ne.mpr (by omega)
  have b225 : (c == 225) = false := beq_eq_false_iff_ne.mpr (by omega)
  have b226 : (c == 226) = false := beq_eq_false_iff_ne.mpr (by omega)
  have b227 : (c == 227) = false := beq_eq_false_iff_ne.mpr (by omega)
  have b228 : (c == 228) = false := beq_eq_false_iff_ne.mpr (by omega)
  have b229 : (c == 229) = false := beq_eq_false_iff_ne.mpr (by omega)
  have b230 : (c == 230) = false := beq_eq_false_iff_ne.mpr (by omega)
  have b231 : (c == 231) = false := beq_eq_false_iff_ne.mpr (by omega)
  have b232 : (c == 232) = false := beq_eq_false_iff_ne.mpr (by omega)
  have b236 : (c == 236) = false := beq_eq_false_iff_ne.mpr (by omega)
  have b238 : (c == 238) = false := beq_eq_false_iff_ne.mpr (by omega)
  have b247 : (c == 247) = false := beq_eq_false_iff_ne.mpr (by omega)
  have b248 : (c == 248) = false := beq_eq_false_iff_ne.mpr (by omega)
  have b249 : (c == 249) = false := beq_eq_false_iff_ne.mpr (by omega)
  have b251 : (c == 251) = false := beq_eq_false_iff_ne.mpr (by omega)
  have b243 : (c == 243) = false := beq_eq_false_iff_ne.mpr (by omega)
  have b253 : (c == 253) = false := beq_eq_false_iff_ne.mpr (by omega)
  have b254 : (c == 254) = false := beq_eq_false_iff_ne.mpr (by omega)
  go_enter Tryd.func76, Tryd.ntmps76
  go_wp2
  refine ref_end (r := zeroR) rfl _ rfl (heap_alloc_new _ _) rfl rfl ?_ HB.out.symm ((Below.refl _ _).alloc (Nat.le_refl _) _)
  unfold r_ways; rw [HB.out]; rfl
set_option maxHeartbeats 4000000 in
set_option maxRecDepth 100000 in
theorem ways_r1 (c : Int) (w : World) (l : 1 ≤ c) (u : c ≤ 207) :
    Calls Tryd.prog 76 #[.int .i64 c] w fun e w' => e = .returned (.tuple #[.agg (rowC (r_ways c)), .bool (in_ways c)]) ∧ Below w.heap.size w w' := by
  have eb : in_ways c = false := by unfold in_ways; exact decide_eq_false (by omega)
  have HB := Lib.hid eb
  clear eb
  have b0 : (c == 0) = false := beq_eq_false_iff_ne.mpr (by omega)
  have b208 : (c == 208) = false := beq_eq_false_iff_ne.mpr (by omega)
  have b209 : (c == 209) = false := beq_eq_false_iff_ne.mpr (by omega)
  have b210 : (c == 210) = false := beq_eq_false_iff_ne.mpr (by omega)
  have b211 : (c == 211) = false := beq_eq_false_iff_ne.mpr (by omega)
  have b224 : (c == 224) = false := beq_eq_false_iff_ne.mpr (by omega)
  have b225 : (c == 225) = false := beq_eq_false_iff_ne.mpr (by omega)
  have b226 : (c == 226) = false := beq_eq_false_iff_ne.mpr (by omega)
  have b227 : (c == 227) = false := beq_eq_false_iff_ne.mpr (by omega)
  have b228 : (c == 228) = false := beq_eq_false_iff_ne.mpr (by omega)
  have b229 : (c == 229) = false := beq_eq_false_iff_ne.mpr (by omega)
  have b230 : (c == 230) = false := beq_eq_false_iff_ne.mpr (by omega)
  have b231 : (c == 231) = false := beq_eq_false_iff_ne.mpr (by omega)
  have b232 : (c == 232) = false := beq_eq_false_iff_ne.mpr (by omega)
  have b236 : (c == 236) = false := beq_eq_false_iff_ne.mpr (by omega)
  have b238 : (c == 238) = false := beq_eq_false_iff_ne.mpr (by omega)
  have b247 : (c == 247) = false := beq_eq_false_iff_ne.mpr (by omega)
  have b248 : (c == 248) = false := beq_eq_false_iff_ne.mpr (by omega)
  have b249 : (c == 249) = false := beq_eq_false_iff_ne.mpr (by omega)
  have b251 : (c == 251) = false := beq_eq_false_iff_ne.mpr (by omega)
  have b243 : (c == 243) = false := beq_eq_false_iff_ne.mpr (by omega)
  have b253 : (c == 253) = false := beq_eq_false_iff_ne.mpr (by omega)
  have b254 : (c == 254) = false := beq_eq_false_iff_ne.mpr (by omega)
  go_enter Tryd.func76, Tryd.ntmps76
  go_wp2
  refine ref_end (r := zeroR) rfl _ rfl (heap_alloc_new _ _) rfl rfl ?_ HB.out.symm ((Below.refl _ _).alloc (Nat.le_refl _) _)
  unfold r_ways; rw [HB.out]; rfl
set_option maxHeartbeats 4000000 in
set_option maxRecDepth 100000 in
theorem ways_r2 (c : Int) (w : World) (l : 212 ≤ c) (u : c ≤ 223) :
    Calls Tryd.prog 76 #[.int .i64 c] w fun e w' => e = .returned (.tuple #[.agg (rowC (r_ways c)), .bool (in_ways c)]) ∧ Below w.heap.size w w' := by
  have eb : in_ways c = false := by unfold in_ways; exact decide_eq_false (by omega)
  have HB := Lib.hid eb
  clear eb
  have b0 : (c == 0) = false := beq_eq_false_iff_ne.mpr (by omega)
  have b208 : (c == 208) = false := beq_eq_false_iff_ne.mpr (by omega)
  have b209 : (c == 209) = false := beq_eq_false_iff_ne.mpr (by omega)
  have b210 : (c == 210) = false := beq_eq_false_iff_ne.mpr (by omega)
  have b211 : (c == 211) = false := beq_eq_false_iff_ne.mpr (by omega)
  have b224 : (c == 224) = false := beq_eq_false_iff_ne.mpr (by omega)
  have b225 : (c == 225) = false := beq_eq_false_iff_ne.mpr (by omega)
  have b226 : (c == 226) = false := beq_eq_false_iff_ne.mpr (by omega)
  have b227 : (c == 227) = false := beq_eq_false_iff_ne.mpr (by omega)
  have b228 : (c == 228) = false := beq_eq_false_iff_ne.mpr (by omega)
  have b229 : (c == 229) = false := beq_eq_false_iff_ne.mpr (by omega)
  have b230 : (c == 230) = false := beq_eq_false_iff_ne.mpr (by omega)
  have b231 : (c == 231) = false := beq_eq_false_iff_ne.mpr (by omega)
  have b232 : (c == 232) = false := beq_eq_false_iff_ne.mpr (by omega)
  have b236 : (c == 236) = false := beq_eq_false_iff_ne.mpr (by omega)
  have b238 : (c == 238) = false := beq_eq_false_iff_ne.mpr (by omega)
  have b247 : (c == 247) = false := beq_eq_false_iff_ne.mpr (by omega)
  have b248 : (c == 248) = false := beq_eq_false_iff_ne.mpr (by omega)
  have b249 : (c == 249) = false := beq_eq_false_iff_ne.mpr (by omega)
  have b251 : (c == 251) = false := beq_eq_false_iff_ne.mpr (by omega)
  have b243 : (c == 243) = false := beq_eq_false_iff_ne.mpr (by omega)
  have b253 : (c == 253) = false := beq_eq_false_iff_ne.mpr (by omega)
  have b254 : (c == 254) = false := beq_eq_false_iff_ne.mpr (by omega)
  go_enter Tryd.func76, Tryd.ntmps76
  go_wp2
  refine ref_end (r := zeroR) rfl _ rfl (heap_alloc_new _ _) rfl rfl ?_ HB.out.symm ((Below.refl _ _).alloc (Nat.le_refl _) _)
  unfold r_ways; rw [HB.out]; rfl
set_option maxHeartbeats 4000000 in
set_option maxRecDepth 100000 in
theorem ways_r3 (c : Int) (w : World) (l : 233 ≤ c) (u : c ≤ 235) :
    Calls Tryd.prog 76 #[.int .i64 c] w fun e w' => e = .returned (.tuple #[.agg (rowC (r_ways c)), .bool (in_ways c)]) ∧ Below w.heap.size w w' := by
  have eb : in_ways c = false := by unfold in_ways; exact decide_eq_false (by omega)
  have HB := Lib.hid eb
  clear eb
  have b0 : (c == 0) = false := beq_eq_false_iff_ne.mpr (by omega)
  have b208 : (c == 208) = false := beq_eq_false_iff_ne.mpr (by omega)
  have b209 : (c == 209) = false := beq_eq_false_iff_ne.mpr (by omega)
  have b210 : (c == 210) = false := beq_eq_false_iff_ne.mpr (by omega)
  have b211 : (c == 211) = false := beq_eq_false_iff_ne.mpr (by omega)
  have b224 : (c == 224) = false := beq_eq_false_iff_ne.mpr (by omega)
  have b225 : (c == 225) = false := beq_eq_false_iff_ne.mpr (by omega)
  have b226 : (c == 226) = false := beq_eq_false_iff_ne.mpr (by omega)
  have b227 : (c == 227) = false := beq_eq_false_iff_ne.mpr (by omega)
  have b228 : (c == 228) = false := beq_eq_false_iff_ne.mpr (by omega)
  have b229 : (c == 229) = false := beq_eq_false_iff_ne.mpr (by omega)
  have b230 : (c == 230) = false := beq_eq_false_iff_ne.mpr (by omega)
  have b231 : (c == 231) = false := beq_eq_false_iff_ne.mpr (by omega)
  have b232 : (c == 232) = false := beq_eq_false_iff_ne.mpr (by omega)
  have b236 : (c == 236) = false := beq_eq_false_iff_ne.mpr (by omega)
  have b238 : (c == 238) = false := beq_eq_false_iff_ne.mpr (by omega)
  have b247 : (c == 247) = false := beq_eq_false_iff_ne.mpr (by omega)
  have b248 : (c == 248) = false := beq_eq_false_iff_ne.mpr (by omega)
  have b249 : (c == 249) = false := beq_eq_false_iff_ne.mpr (by omega)
  have b251 : (c == 251) = false := beq_eq_false_iff_ne.mpr (by omega)
  have b243 : (c == 243) = false := beq_eq_false_iff_ne.mpr (by omega)
  have b253 : (c == 253) = false := beq_eq_false_iff_ne.mpr (by omega)
  have b254 : (c == 254) = false := beq_eq_false_iff_ne.mpr (by omega)
  go_enter Tryd.func76, Tryd.ntmps76
  go_wp2
  refine ref_end (r := zeroR) rfl _ rfl (heap_alloc_new _ _) rfl rfl ?_ HB.out.symm ((Below.refl _ _).alloc (Nat.le_refl _) _)
  unfold r_ways; rw [HB.out]; rfl
set_option maxHeartbeats 4000000 in
set_option maxRecDepth 100000 in
theorem ways_r4 (c : Int) (w : World) (l : 237 ≤ c) (u : c ≤ 237) :
    Calls Tryd.prog 76 #[.int .i64 c] w fun e w' => e = .returned (.tuple #[.agg (rowC (r_ways c)), .bool (in_ways c)]) ∧ Below w.heap.size w w' := by
  have eb : in_ways c = false := by unfold in_ways; exact decide_eq_false (by omega)
  have HB := Lib.hid eb
  clear eb
  have b0 : (c == 0) = false := beq_eq_false_iff_ne.mpr (by omega)
  have b208 : (c == 208) = false := beq_eq_false_iff_ne.mpr (by omega)
  have b209 : (c == 209) = false := beq_eq_false_iff_ne.mpr (by omega)
  have b210 : (c == 210) = false := beq_eq_false_iff_ne.mpr (by omega)
  have b211 : (c == 211) = false := beq_eq_false_iff_ne.mpr (by omega)
  have b224 : (c == 224) = false := beq_eq_false_iff_ne.mpr (by omega)
  have b225 : (c == 225) = false := beq_eq_false_iff_ne.mpr (by omega)
  have b226 : (c == 226) = false := beq_eq_false_iff_ne.mpr (by omega)
  have b227 : (c == 227) = false := beq_eq_false_iff_ne.mpr (by omega)
  have b228 : (c == 228) = false := beq_eq_false_iff_ne.mpr (by omega)
  have b229 : (c == 229) = false := beq_eq_false_iff_ne.mpr (by omega)
  have b230 : (c == 230) = false := beq_eq_false_iff_ne.mpr (by omega)
  have b231 : (c == 231) = false := beq_eq_false_iff_ne.mpr (by omega)
  have b232 : (c == 232) = false := beq_eq_false_iff_ne.mpr (by omega)
  have b236 : (c == 236) = false := beq_eq_false_iff_ne.mpr (by omega)
  have b238 : (c == 238) = false := beq_eq_false_iff_ne.mpr (by omega)
  have b247 : (c == 247) = false := beq_eq_false_iff_ne.mpr (by omega)
  have b248 : (c == 248) = false := beq_eq_false_iff_ne.mpr (by omega)
  have b249 : (c == 249) = false := beq_eq_false_iff_ne.mpr (by omega)
  have b251 : (c == 251) = false := beq_eq_false_iff_ne.mpr (by omega)
  have b243 : (c == 243) = false := beq_eq_false_iff_ne.mpr (by omega)
  have b253 : (c == 253) = false := beq_eq_false_iff_ne.mpr (by omega)
  have b254 : (c == 254) = false := beq_eq_false_iff_ne.mpr (by omega)
  go_enter Tryd.func76, Tryd.ntmps76
  go_wp2
  refine ref_end (r := zeroR) rfl _ rfl (heap_alloc_new _ _) rfl rfl ?_ HB.out.symm ((Below.refl _ _).alloc (Nat.le_refl _) _)
  unfold r_ways; rw [HB.out]; rfl
set_option maxHeartbeats 4000000 in
set_option maxRecDepth 100000 in
theorem ways_r5 (c : Int) (w : World) (l : 239 ≤ c) (u : c ≤ 242) :
    Calls Tryd.prog 76 #[.int .i64 c] w fun e w' => e = .returned (.tuple #[.agg (rowC (r_ways c)), .bool (in_ways c)]) ∧ Below w.heap.size w w' := by
  have eb : in_ways c = false := by unfold in_ways; exact decide_eq_false (by omega)
  have HB := Lib.hid eb
  clear eb
  have b0 : (c == 0) = false := beq_eq_false_iff_ne.mpr (by omega)
  have b208 : (c == 208) = false := beq_eq_false_iff_ne.mpr (by omega)
  have b209 : (c == 209) = false := beq_eq_false_iff_ne.mpr (by omega)
  have b210 : (c == 210) = false := beq_eq_false_iff_ne.mpr (by omega)
  have b211 : (c == 211) = false := beq_eq_false_iff_ne.mpr (by omega)
  have b224 : (c == 224) = false := beq_eq_false_iff_ne.mpr (by omega)
  have b225 : (c == 225) = false := beq_eq_false_iff_ne.mpr (by omega)
  have b226 : (c == 226) = false := beq_eq_false_iff_ne.mpr (by omega)
  have b227 : (c == 227) = false := beq_eq_false_iff_ne.mpr (by omega)
  have b228 : (c == 228) = false := beq_eq_false_iff_ne.mpr (by omega)
  have b229 : (c == 229) = false := beq_eq_false_iff_ne.mpr (by omega)
  have b230 : (c == 230) = false := beq_eq_false_iff_ne.mpr (by omega)
  have b231 : (c == 231) = false := beq_eq_false_iff_ne.mpr (by omega)
  have b232 : (c == 232) = false := beq_eq_false_iff_ne.mpr (by omega)
  have b236 : (c == 236) = false := beq_eq_false_iff_ne.mpr (by omega)
  have b238 : (c == 238) = false := beq_eq_false_iff_ne.mpr (by omega)
  have b247 : (c == 247) = false := beq_eq_false_iff_ne.mpr (by omega)
  have b248 : (c == 248) = false := beq_eq_false_iff_ne.mpr (by omega)
  have b249 : (c == 249) = false := beq_eq_false_iff_ne.mpr (by omega)
  have b251 : (c == 251) = false := beq_eq_false_iff_ne.mpr (by omega)
  have b243 : (c == 243) = false := beq_eq_false_iff_ne.mpr (by omega)
  have b253 : (c == 253) = false := beq_eq_false_iff_ne.mpr (by omega)
  have b254 : (c == 254) = false := beq_eq_false_iff_ne.mpr (by omega)
  go_enter Tryd.func76, Tryd.ntmps76
  go_wp2
  refine ref_end (r := zeroR) rfl _ rfl (heap_alloc_new _ _) rfl rfl ?_ HB.out.symm ((Below.refl _ _).alloc (Nat.le_refl _) _)
  unfold r_ways; rw [HB.out]; rfl
set_option maxHeartbeats 4000000 in
set_option maxRecDepth 100000 in
theorem ways_r6 (c : Int) (w : World) (l : 244 ≤ c) (u : c ≤ 246) :
    Calls Tryd.prog 76 #[.int .i64 c] w fun e w' => e = .returned (.tuple #[.agg (rowC (r_ways c)), .bool (in_ways c)]) ∧ Below w.heap.size w w' := by
  have eb : in_ways c = false := by unfold in_ways; exact decide_eq_false (by omega)
  have HB := Lib.hid eb
  clear eb
  have b0 : (c == 0) = false := beq_eq_false_iff_ne.mpr (by omega)
  have b208 : (c == 208) = false := beq_eq_false_iff_ne.mpr (by omega)
  have b209 : (c == 209) = false := beq_eq_false_iff_ne.mpr (by omega)
  have b210 : (c == 210) = false := beq_eq_false_iff_ne.mpr (by omega)
  have b211 : (c == 211) = false := beq_eq_false_iff_ne.mpr (by omega)
  have b224 : (c == 224) = false := beq_eq_false_iff_ne.mpr (by omega)
  have b225 : (c == 225) = false := beq_eq_false_iff_ne.mpr (by omega)
  have b226 : (c == 226) = false := beq_eq_false_iff_ne.mpr (by omega)
  have b227 : (c == 227) = false := beq_eq_false_iff_ne.mpr (by omega)
  have b228 : (c == 228) = false := beq_eq_false_iff_ne.mpr (by omega)
  have b229 : (c == 229) = false := beq_eq_false_iff_ne.mpr (by omega)
  have b230 : (c == 230) = false := beq_eq_false_iff_ne.mpr (by omega)
  have b231 : (c == 231) = false := beq_eq_false_iff_ne.mpr (by omega)
  have b232 : (c == 232) = false := beq_eq_false_iff_ne.mpr (by omega)
  have b236 : (c == 236) = false := beq_eq_false_iff_ne.mpr (by omega)
  have b238 : (c == 238) = false := beq_eq_false_iff_ne.mpr (by omega)
  have b247 : (c == 247) = false := beq_eq_false_iff_ne.mpr (by omega)
  have b248 : (c == 248) = false := beq_eq_false_iff_ne.mpr (by omega)
  have b249 : (c == 249) = false := beq_eq_false_iff_ne.mpr (by omega)
  have b251 : (c == 251) = false := beq_eq_false_iff_ne.mpr (by omega)
  have b243 : (c == 243) = false := beq_eq_false_iff_ne.mpr (by omega)
  have b253 : (c == 253) = false := beq_eq_false_iff_ne.mpr (by omega)
  have b254 : (c == 254) = false := beq_eq_false_iff_ne.mpr (by omega)
  go_enter Tryd.func76, Tryd.ntmps76
  go_wp2
  refine ref_end (r := zeroR) rfl _ rfl (heap_alloc_new _ _) rfl rfl ?_ HB.out.symm ((Below.refl _ _).alloc (Nat.le_refl _) _)
  unfold r_ways; rw [HB.out]; rfl
set_option maxHeartbeats 4000000 in
set_option maxRecDepth 100000 in
theorem ways_r7 (c : Int) (w : World) (l : 250 ≤ c) (u : c ≤ 250) :
    Calls Tryd.prog 76 #[.int .i64 c] w fun e w' => e = .returned (.tuple #[.agg (rowC (r_ways c)), .bool (in_ways c)]) ∧ Below w.heap.size w w' := by
  have eb : in_ways c = false := by unfold in_ways; exact decide_eq_false (by omega)
  have HB := Lib.hid eb
  clear eb
  have b0 : (c == 0) = false := beq_eq_false_iff_ne.mpr (by omega)
  have b208 : (c == 208) = false := beq_eq_false_iff_ne.mpr (by omega)
  have b209 : (c == 209) = false := beq_eq_false_iff_ne.mpr (by omega)
  have b210 : (c == 210) = false := beq_eq_false_iff_ne.mpr (by omega)
  have b211 : (c == 211) = false := beq_eq_false_iff_ne.mpr (by omega)
  have b224 : (c == 224) = false := beq_eq_false_iff_ne.mpr (by omega)
  have b225 : (c == 225) = false := beq_eq_false_iff_ne.mpr (by omega)
  have b226 : (c == 226) = false := beq_eq_false_iff_ne.mpr (by omega)
  have b227 : (c == 227) = false := beq_eq_false_iff_ne.mpr (by omega)
  have b228 : (c == 228) = false := beq_eq_false_iff_ne.mpr (by omega)
  have b229 : (c == 229) = false := beq_eq_false_iff_ne.mpr (by omega)
  have b230 : (c == 230) = false := beq_eq_false_iff_ne.mpr (by omega)
  have b231 : (c == 231) = false := beq_eq_false_iff_ne.mpr (by omega)
  have b232 : (c == 232) = false := beq_eq_false_iff_ne.mpr (by omega)
  have b236 : (c == 236) = false := beq_eq_false_iff_ne.mpr (by omega)
  have b238 : (c == 238) = false := beq_eq_false_iff_ne.mpr (by omega)
  have b247 : (c == 247) = false := beq_eq_false_iff_ne.mpr (by omega)
  have b248 : (c == 248) = false := beq_eq_false_iff_ne.mpr (by omega)
  have b249 : (c == 249) = false := beq_eq_false_iff_ne.mpr (by omega)
  have b251 : (c == 251) = false := beq_eq_false_iff_ne.mpr (by omega)
  have b243 : (c == 243) = false := beq_eq_false_iff_ne.mpr (by omega)
  have b253 : (c == 253) = false := beq_eq_false_iff_ne.mpr (by omega)
  have b254 : (c == 254) = false := beq_eq_false_iff_ne.mpr (by omega)
  go_enter Tryd.func76, Tryd.ntmps76
  go_wp2
  refine ref_end (r := zeroR) rfl _ rfl (heap_alloc_new _ _) rfl rfl ?_ HB.out.symm ((Below.refl _ _).alloc (Nat.le_refl _) _)
  unfold r_ways; rw [HB.out]; rfl
set_option maxHeartbeats 4000000 in
set_option maxRecDepth 100000 in
theorem ways_r8 (c : Int) (w : World) (l : 252 ≤ c) (u : c ≤ 252) :
    Calls Tryd.prog 76 #[.int .i64 c] w fun e w' => e = .returned (.tuple #[.agg (rowC (r_ways c)), .bool (in_ways c)]) ∧ Below w.heap.size w w' := by
  have eb : in_ways c = false := by unfold in_ways; exact decide_eq_false (by omega)
  have HB := Lib.hid eb
  clear eb
  have b0 : (c == 0) = false := beq_eq_false_iff_ne.mpr (by omega)
  have b208 : (c == 208) = false := beq_eq_false_iff_ne.mpr (by omega)
  have b209 : (c == 209) = false := beq_eq_false_iff_ne.mpr (by omega)
  have b210 : (c == 210) = false := beq_eq_false_iff_ne.mpr (by omega)
  have b211 : (c == 211) = false := beq_eq_false_iff_ne.mpr (by omega)
  have b224 : (c == 224) = false := beq_eq_false_iff_ne.mpr (by omega)
  have b225 : (c == 225) = false := beq_eq_false_iff_ne.mpr (by omega)
  have b226 : (c == 226) = false := beq_eq_false_iff_ne.mpr (by omega)
  have b227 : (c == 227) = false := beq_eq_false_iff_ne.mpr (by omega)
  have b228 : (c == 228) = false := beq_eq_false_iff_ne.mpr (by omega)
  have b229 : (c == 229) = false := beq_eq_false_iff_ne.mpr (by omega)
  have b230 : (c == 230) = false := beq_eq_false_iff_ne.mpr (by omega)
  have b231 : (c == 231) = false := beq_eq_false_iff_ne.mpr (by omega)
  have b232 : (c == 232) = false := beq_eq_false_iff_ne.mpr (by omega)
  have b236 : (c == 236) = false := beq_eq_false_iff_ne.mpr (by omega)
  have b238 : (c == 238) = false := beq_eq_false_iff_ne.mpr (by omega)
  have b247 : (c == 247) = false := beq_eq_false_iff_ne.mpr (by omega)
  have b248 : (c == 248) = false := beq_eq_false_iff_ne.mpr (by omega)
  have b249 : (c == 249) = false := beq_eq_false_iff_ne.mpr (by omega)
  have b251 : (c == 251) = false := beq_eq_false_iff_ne.mpr (by omega)
  have b243 : (c == 243) = false := beq_eq_false_iff_ne.mpr (by omega)
  have b253 : (c == 253) = false := beq_eq_false_iff_ne.mpr (by omega)
  have b254 : (c == 254) = false := beq_eq_false_iff_ne.mpr (by omega)
  go_enter Tryd.func76, Tryd.ntmps76
  go_wp2
  refine ref_end (r := zeroR) rfl _ rfl (heap_alloc_new _ _) rfl rfl ?_ HB.out.symm ((Below.refl _ _).alloc (Nat.le_refl _) _)
  unfold r_ways; rw [HB.out]; rfl
set_option maxHeartbeats 4000000 in
set_option maxRecDepth 100000 in
theorem ways_r9 (c : Int) (w : World) (l : 255 ≤ c) :
    Calls Tryd.prog 76 #[.int .i64 c] w fun e w' => e = .returned (.tuple #[.agg (rowC (r_ways c)), .bool (in_ways c)]) ∧ Below w.heap.size w w' := by
  have eb : in_ways c = false := by unfold in_ways; exact decide_eq_false (by omega)
  have HB := Lib.hid eb
  clear eb
  have b0 : (c == 0) = false := beq_eq_false_iff_ne.mpr (by omega)
  have b208 : (c == 208) = false := beq_eq_false_iff_ne.mpr (by omega)
  have b209 : (c == 209) = false := beq_eq_false_iff_ne.mpr (by omega)
  have b210 : (c == 210) = false := beq_eq_false_iff_ne.mpr (by omega)
  have b211 : (c == 211) = false := beq_eq_false_iff_ne.mpr (by omega)
  have b224 : (c == 224) = false := beq_eq_false_iff_ne.mpr (by omega)
  have b225 : (c == 225) = false := beq_eq_false_iff_ne.mpr (by omega)
  have b226 : (c == 226) = false := beq_eq_false_iff_ne.mpr (by omega)
  have b227 : (c == 227) = false := beq_eq_false_iff_ne.mpr (by omega)
  have b228 : (c == 228) = false := beq_eq_false_iff_ne.mpr (by omega)
  have b229 : (c == 229) = false := beq_eq_false_iff_ne.mpr (by omega)
  have b230 : (c == 230) = false := beq_eq_false_iff_ne.mpr (by omega)
  have b231 : (c == 231) = false := beq_eq_false_iff_ne.mpr (by omega)
  have b232 : (c == 232) = false := beq_eq_false_iff_ne.mpr (by omega)
  have b236 : (c == 236) = false := beq_eq_false_iff_ne.mpr (by omega)
  have b238 : (c == 238) = false := beq_eq_false_iff_ne.mpr (by omega)
  have b247 : (c == 247) = false := beq_eq_false_iff_ne.mpr (by omega)
  have b248 : (c == 248) = false := beq_eq_false_iff_ne.mpr (by omega)
  have b249 : (c == 249) = false := beq_eq_false_iff_ne.mpr (by omega)
  have b251 : (c == 251) = false := beq_eq_false_iff_ne.mpr (by omega)
  have b243 : (c == 243) = false := beq_eq_false_iff_ne.mpr (by omega)
  have b253 : (c == 253) = false := beq_eq_false_iff_ne.mpr (by omega)
  have b254 : (c == 254) = false := beq_eq_false_iff_ne.mpr (by omega)
  go_enter Tryd.func76, Tryd.ntmps76
  go_wp2
  refine ref_end (r := zeroR) rfl _ rfl (heap_alloc_new _ _) rfl rfl ?_ HB.out.symm ((Below.refl _ _).alloc (Nat.le_refl _) _)
  unfold r_ways; rw [HB.out]; rfl
theorem ways_any (c : Int) (w : World) :
    Calls Tryd.prog 76 #[.int .i64 c] w fun e w' => e = .returned (.tuple #[.agg (rowC (r_ways c)), .bool (in_ways c)]) ∧ Below w.heap.size w w' := by
  rcases (show (c = 0 ∨ c = 208 ∨ c = 209 ∨ c = 210 ∨ c = 211 ∨ c = 224 ∨ c = 225 ∨ c = 226 ∨ c = 227 ∨ c = 228 ∨ c = 229 ∨ c = 230) ∨ (c = 231 ∨ c = 232 ∨ c = 236 ∨ c = 238 ∨ c = 243 ∨ c = 247 ∨ c = 248 ∨ c = 249 ∨ c = 251 ∨ c = 253 ∨ c = 254) ∨ (c ≤ -1) ∨ (1 ≤ c ∧ c ≤ 207) ∨ (212 ≤ c ∧ c ≤ 223) ∨ (233 ≤ c ∧ c ≤ 235) ∨ (237 ≤ c ∧ c ≤ 237) ∨ (239 ≤ c ∧ c ≤ 242) ∨ (244 ≤ c ∧ c ≤ 246) ∨ (250 ≤ c ∧ c ≤ 250) ∨ (252 ≤ c ∧ c ≤ 252) ∨ (255 ≤ c) by omega) with h | h | h | ⟨h1, h2⟩ | ⟨h1, h2⟩ | ⟨h1, h2⟩ | ⟨h1, h2⟩ | ⟨h1, h2⟩ | ⟨h1, h2⟩ | ⟨h1, h2⟩ | ⟨h1, h2⟩ | h
  · exact ways_c0 c w h
  · exact ways_c1 c w h
  · exact ways_r0 c w h
  · exact ways_r1 c w h1 h2
  · exact ways_r2 c w h1 h2
  · exact ways_r3 c w h1 h2
  · exact ways_r4 c w h1 h2
  · exact ways_r5 c w h1 h2
  · exact ways_r6 c w h1 h2
  · exact ways_r7 c w h1 h2
  · exact ways_r8 c w h1 h2
  · exact ways_r9 c w h
end Go.Proofs.YtfjmdffhfjnopaaDoor
