/- The tables of package op, function by function: each returns the row that Spec4's table tells, for every code; it makes memory and leaves what lay there. -/
import Derived.Test.YtfjmdffhfjnopaaDoorProg
import Derived.Test.YtfjmdffhfjnopaaDoorShelf
import Derived.Test.YtfjmdffhfjnopaaDoorSpec4
import Derived.Test.YtfjmdffhfjnopaaDoorGen
namespace Go.Proofs.YtfjmdffhfjnopaaDoor
open Go.RowKit Vouch Go.Vk
def rowC (r : OpRow) : Array Value := #[.int .i64 r.code, .string r.name, .int .i64 r.imm, .int .i64 r.inn, .int .i64 r.out, .int .i64 r.gas, .bool r.ends]
theorem rowC_size (r : OpRow) : (rowC r).size = 7 := rfl
theorem rowC_one (r : OpRow) : (rowC r).all (·.oneCell') = true := by simp [rowC, Value.oneCell']
theorem plain_any (c : Int) (nm : ByteArray) (i o g : Int) (w : World) :
    Calls Tryd.prog 67 #[.int .i64 c, .string nm, .int .i64 i, .int .i64 o, .int .i64 g] w fun e w' => e = .returned (.agg (rowC ⟨c, nm, 0, i, o, g, false⟩)) ∧ Below w.heap.size w w' := by
  go_enter Tryd.func67, Tryd.ntmps67
  go_wp2
  exact bodyPost_ret_by (results_cell_row rfl _ _ _ _ _ _ _ rfl (heap_alloc_new _ _) Tryd.underlying82 rfl (by kernel_rfl)) rfl ⟨rfl, ((Below.refl _ _).alloc (Nat.le_refl _) _)⟩
/-- The end of a function that hands such a row back. -/
theorem row_end {fn : Func} {a : Act} {W w : World} {r : OpRow} {p : Tmp} {fr : Nat × Nat} (h : fn.results = #[.cell p 82]) (g : Nat) (hp : a.tmps.getD p undef = .pointer (some ⟨g, 0, none⟩))
    (hg : w.heap[g]? = some (.cells (rowC r) 82 fr)) (hd : a.defers = []) (hb : Below W.heap.size W w) :
    bodyPost Tryd.prog fn (fun e w' => e = .returned (.agg (rowC r)) ∧ Below W.heap.size W w') .ret a w :=
  bodyPost_ret_by (results_cell_row h _ _ _ _ _ _ _ hp hg Tryd.underlying82 rfl (by kernel_rfl)) hd ⟨rfl, hb⟩
theorem sumsR_none (c : Int) (h : c ≠ 0 ∧ c ≠ 1 ∧ c ≠ 2 ∧ c ≠ 3 ∧ c ≠ 4 ∧ c ≠ 5 ∧ c ≠ 6 ∧ c ≠ 7 ∧ c ≠ 8 ∧ c ≠ 9 ∧ c ≠ 10 ∧ c ≠ 11) : sumsR c = zeroR := by
  unfold sumsR; repeat rw [if_neg (by omega)]
set_option maxHeartbeats 2000000 in
set_option maxRecDepth 100000 in
theorem sums_any (c : Int) (w : World) :
    Calls Tryd.prog 68 #[.int .i64 c] w fun e w' => e = .returned (.agg (rowC (sumsR c))) ∧ Below w.heap.size w w' := by
  rcases (show c = 0 ∨ c = 1 ∨ c = 2 ∨ c = 3 ∨ c = 4 ∨ c = 5 ∨ c = 6 ∨ c = 7 ∨ c = 8 ∨ c = 9 ∨ c = 10 ∨ c = 11 ∨ (c ≠ 0 ∧ c ≠ 1 ∧ c ≠ 2 ∧ c ≠ 3 ∧ c ≠ 4 ∧ c ≠ 5 ∧ c ≠ 6 ∧ c ≠ 7 ∧ c ≠ 8 ∧ c ≠ 9 ∧ c ≠ 10 ∧ c ≠ 11) by omega) with rfl | rfl | rfl | rfl | rfl | rfl | rfl | rfl | rfl | rfl | rfl | rfl | hd
  rotate_right
  · have e := sumsR_none c hd
    obtain ⟨h0, h1, h2, h3, h4, h5, h6, h7, h8, h9, h10, h11⟩ := hd
    have b0 : (c == 0) = false := beq_eq_false_iff_ne.mpr h0
    have b1 : (c == 1) = false := beq_eq_false_iff_ne.mpr h1
    have b2 : (c == 2) = false := beq_eq_false_iff_ne.mpr h2
    have b3 : (c == 3) = false := beq_eq_false_iff_ne.mpr h3
    have b4 : (c == 4) = false := beq_eq_false_iff_ne.mpr h4
    have b5 : (c == 5) = false := beq_eq_false_iff_ne.mpr h5
    have b6 : (c == 6) = false := beq_eq_false_iff_ne.mpr h6
    have b7 : (c == 7) = false := beq_eq_false_iff_ne.mpr h7
    have b8 : (c == 8) = false := beq_eq_false_iff_ne.mpr h8
    have b9 : (c == 9) = false := beq_eq_false_iff_ne.mpr h9
    have b10 : (c == 10) = false := beq_eq_false_iff_ne.mpr h10
    have b11 : (c == 11) = false := beq_eq_false_iff_ne.mpr h11
    clear h0 h1 h2 h3 h4 h5 h6 h7 h8 h9 h10 h11
    have E := Lib.hid e
    clear e
    go_enter Tryd.func68, Tryd.ntmps68
    go_wp2_with (first | (go_at_call 67; refine (plain_any _ _ _ _ _ _).mono ?_; rintro e w1 ⟨rfl, hb⟩; have hg := kept_new hb) | (refine wpList_store_row rfl 82 _ _ rfl w.heap.size _ rfl rfl 82 _ hg ?_ rfl (rowC_one _) ?_; (kernel_rfl)))
    rw [E.out]
    first | exact row_end rfl _ rfl (setRow_heap _ _ _ _ _ _ hg) rfl (below_setRow (((Below.refl _ _).alloc (Nat.le_refl _) _).trans (hb.mono (by simp))) (Nat.le_refl _) _) | exact row_end (r := zeroR) rfl _ rfl (heap_alloc_new _ _) rfl ((Below.refl _ _).alloc (Nat.le_refl _) _)
  all_goals
    go_enter Tryd.func68, Tryd.ntmps68
    go_wp2_with (first | (go_at_call 67; refine (plain_any _ _ _ _ _ _).mono ?_; rintro e w1 ⟨rfl, hb⟩; have hg := kept_new hb) | (refine wpList_store_row rfl 82 _ _ rfl w.heap.size _ rfl rfl 82 _ hg ?_ rfl (rowC_one _) ?_; (kernel_rfl)))
    first | exact row_end rfl _ rfl (setRow_heap _ _ _ _ _ _ hg) rfl (below_setRow (((Below.refl _ _).alloc (Nat.le_refl _) _).trans (hb.mono (by simp))) (Nat.le_refl _) _) | exact row_end rfl _ rfl (heap_alloc_new _ _) rfl ((Below.refl _ _).alloc (Nat.le_refl _) _)
theorem ofBlockR_none (c : Int) (h : c ≠ 65 ∧ c ≠ 66 ∧ c ≠ 67 ∧ c ≠ 68 ∧ c ≠ 69 ∧ c ≠ 70 ∧ c ≠ 72 ∧ c ≠ 74) : ofBlockR c = zeroR := by
  unfold ofBlockR; repeat rw [if_neg (by omega)]
set_option maxHeartbeats 2000000 in
set_option maxRecDepth 100000 in
theorem ofBlock_any (c : Int) (w : World) :
    Calls Tryd.prog 79 #[.int .i64 c] w fun e w' => e = .returned (.agg (rowC (ofBlockR c))) ∧ Below w.heap.size w w' := by
  rcases (show c = 65 ∨ c = 66 ∨ c = 67 ∨ c = 68 ∨ c = 69 ∨ c = 70 ∨ c = 72 ∨ c = 74 ∨ (c ≠ 65 ∧ c ≠ 66 ∧ c ≠ 67 ∧ c ≠ 68 ∧ c ≠ 69 ∧ c ≠ 70 ∧ c ≠ 72 ∧ c ≠ 74) by omega) with rfl | rfl | rfl | rfl | rfl | rfl | rfl | rfl | hd
  rotate_right
  · have e := ofBlockR_none c hd
    obtain ⟨h65, h66, h67, h68, h69, h70, h72, h74⟩ := hd
    have b65 : (c == 65) = false := beq_eq_false_iff_ne.mpr h65
    have b66 : (c == 66) = false := beq_eq_false_iff_ne.mpr h66
    have b67 : (c == 67) = false := beq_eq_false_iff_ne.mpr h67
    have b68 : (c == 68) = false := beq_eq_false_iff_ne.mpr h68
    have b69 : (c == 69) = false := beq_eq_false_iff_ne.mpr h69
    have b70 : (c == 70) = false := beq_eq_false_iff_ne.mpr h70
    have b72 : (c == 72) = false := beq_eq_false_iff_ne.mpr h72
    have b74 : (c == 74) = false := beq_eq_false_iff_ne.mpr h74
    clear h65 h66 h67 h68 h69 h70 h72 h74
    have E := Lib.hid e
    clear e
    go_enter Tryd.func79, Tryd.ntmps79
    go_wp2_with (first | (go_at_call 67; refine (plain_any _ _ _ _ _ _).mono ?_; rintro e w1 ⟨rfl, hb⟩; have hg := kept_new hb) | (refine wpList_store_row rfl 82 _ _ rfl w.heap.size _ rfl rfl 82 _ hg ?_ rfl (rowC_one _) ?_; (kernel_rfl)))
    rw [E.out]
    first | exact row_end rfl _ rfl (setRow_heap _ _ _ _ _ _ hg) rfl (below_setRow (((Below.refl _ _).alloc (Nat.le_refl _) _).trans (hb.mono (by simp))) (Nat.le_refl _) _) | exact row_end (r := zeroR) rfl _ rfl (heap_alloc_new _ _) rfl ((Below.refl _ _).alloc (Nat.le_refl _) _)
  all_goals
    go_enter Tryd.func79, Tryd.ntmps79
    go_wp2_with (first | (go_at_call 67; refine (plain_any _ _ _ _ _ _).mono ?_; rintro e w1 ⟨rfl, hb⟩; have hg := kept_new hb) | (refine wpList_store_row rfl 82 _ _ rfl w.heap.size _ rfl rfl 82 _ hg ?_ rfl (rowC_one _) ?_; (kernel_rfl)))
    first | exact row_end rfl _ rfl (setRow_heap _ _ _ _ _ _ hg) rfl (below_setRow (((Below.refl _ _).alloc (Nat.le_refl _) _).trans (hb.mono (by simp))) (Nat.le_refl _) _) | exact row_end rfl _ rfl (heap_alloc_new _ _) rfl ((Below.refl _ _).alloc (Nat.le_refl _) _)
theorem askedR_none (c : Int) (h : c ≠ 48 ∧ c ≠ 49 ∧ c ≠ 50 ∧ c ≠ 51 ∧ c ≠ 52 ∧ c ≠ 53 ∧ c ≠ 54 ∧ c ≠ 55 ∧ c ≠ 58 ∧ c ≠ 61 ∧ c ≠ 62 ∧ c ≠ 64 ∧ c ≠ 71 ∧ c ≠ 73) : askedR c = ofBlockR c := by
  unfold askedR; repeat rw [if_neg (by omega)]
set_option maxHeartbeats 2000000 in
set_option maxRecDepth 100000 in
theorem asked_any (c : Int) (w : World) :
    Calls Tryd.prog 70 #[.int .i64 c] w fun e w' => e = .returned (.agg (rowC (askedR c))) ∧ Below w.heap.size w w' := by
  rcases (show c = 48 ∨ c = 49 ∨ c = 50 ∨ c = 51 ∨ c = 52 ∨ c = 53 ∨ c = 54 ∨ c = 55 ∨ c = 58 ∨ c = 61 ∨ c = 62 ∨ c = 64 ∨ c = 71 ∨ c = 73 ∨ (c ≠ 48 ∧ c ≠ 49 ∧ c ≠ 50 ∧ c ≠ 51 ∧ c ≠ 52 ∧ c ≠ 53 ∧ c ≠ 54 ∧ c ≠ 55 ∧ c ≠ 58 ∧ c ≠ 61 ∧ c ≠ 62 ∧ c ≠ 64 ∧ c ≠ 71 ∧ c ≠ 73) by omega) with rfl | rfl | rfl | rfl | rfl | rfl | rfl | rfl | rfl | rfl | rfl | rfl | rfl | rfl | hd
  rotate_right
  · have e := askedR_none c hd
    obtain ⟨h48, h49, h50, h51, h52, h53, h54, h55, h58, h61, h62, h64, h71, h73⟩ := hd
    have b48 : (c == 48) = false := beq_eq_false_iff_ne.mpr h48
    have b49 : (c == 49) = false := beq_eq_false_iff_ne.mpr h49
    have b50 : (c == 50) = false := beq_eq_false_iff_ne.mpr h50
    have b51 : (c == 51) = false := beq_eq_false_iff_ne.mpr h51
    have b52 : (c == 52) = false := beq_eq_false_iff_ne.mpr h52
    have b53 : (c == 53) = false := beq_eq_false_iff_ne.mpr h53
    have b54 : (c == 54) = false := beq_eq_false_iff_ne.mpr h54
    have b55 : (c == 55) = false := beq_eq_false_iff_ne.mpr h55
    have b58 : (c == 58) = false := beq_eq_false_iff_ne.mpr h58
    have b61 : (c == 61) = false := beq_eq_false_iff_ne.mpr h61
    have b62 : (c == 62) = false := beq_eq_false_iff_ne.mpr h62
    have b64 : (c == 64) = false := beq_eq_false_iff_ne.mpr h64
    have b71 : (c == 71) = false := beq_eq_false_iff_ne.mpr h71
    have b73 : (c == 73) = false := beq_eq_false_iff_ne.mpr h73
    clear h48 h49 h50 h51 h52 h53 h54 h55 h58 h61 h62 h64 h71 h73
    have E := Lib.hid e
    clear e
    go_enter Tryd.func70, Tryd.ntmps70
    go_wp2_with (first | (go_at_call 67; refine (plain_any _ _ _ _ _ _).mono ?_; rintro e w1 ⟨rfl, hb⟩; have hg := kept_new hb) | (go_at_call 79; refine (ofBlock_any _ _).mono ?_; rintro e w1 ⟨rfl, hb⟩; have hg := kept_new hb) | (refine wpList_store_row rfl 82 _ _ rfl w.heap.size _ rfl rfl 82 _ hg ?_ rfl (rowC_one _) ?_; (kernel_rfl)))
    rw [E.out]
    first | exact row_end rfl _ rfl (setRow_heap _ _ _ _ _ _ hg) rfl (below_setRow (((Below.refl _ _).alloc (Nat.le_refl _) _).trans (hb.mono (by simp))) (Nat.le_refl _) _) | exact row_end (r := zeroR) rfl _ rfl (heap_alloc_new _ _) rfl ((Below.refl _ _).alloc (Nat.le_refl _) _)
  all_goals
    go_enter Tryd.func70, Tryd.ntmps70
    go_wp2_with (first | (go_at_call 67; refine (plain_any _ _ _ _ _ _).mono ?_; rintro e w1 ⟨rfl, hb⟩; have hg := kept_new hb) | (go_at_call 79; refine (ofBlock_any _ _).mono ?_; rintro e w1 ⟨rfl, hb⟩; have hg := kept_new hb) | (refine wpList_store_row rfl 82 _ _ rfl w.heap.size _ rfl rfl 82 _ hg ?_ rfl (rowC_one _) ?_; (kernel_rfl)))
    first | exact row_end rfl _ rfl (setRow_heap _ _ _ _ _ _ hg) rfl (below_setRow (((Below.refl _ _).alloc (Nat.le_refl _) _).trans (hb.mono (by simp))) (Nat.le_refl _) _) | exact row_end rfl _ rfl (heap_alloc_new _ _) rfl ((Below.refl _ _).alloc (Nat.le_refl _) _)
theorem heldR_none (c : Int) (h : c ≠ 80 ∧ c ≠ 81 ∧ c ≠ 82 ∧ c ≠ 83 ∧ c ≠ 84 ∧ c ≠ 85 ∧ c ≠ 89 ∧ c ≠ 91 ∧ c ≠ 92 ∧ c ≠ 93 ∧ c ≠ 94 ∧ c ≠ 95) : heldR c = zeroR := by
  unfold heldR; repeat rw [if_neg (by omega)]
set_option maxHeartbeats 2000000 in
set_option maxRecDepth 100000 in
theorem held_any (c : Int) (w : World) :
    Calls Tryd.prog 71 #[.int .i64 c] w fun e w' => e = .returned (.agg (rowC (heldR c))) ∧ Below w.heap.size w w' := by
  rcases (show c = 80 ∨ c = 81 ∨ c = 82 ∨ c = 83 ∨ c = 84 ∨ c = 85 ∨ c = 89 ∨ c = 91 ∨ c = 92 ∨ c = 93 ∨ c = 94 ∨ c = 95 ∨ (c ≠ 80 ∧ c ≠ 81 ∧ c ≠ 82 ∧ c ≠ 83 ∧ c ≠ 84 ∧ c ≠ 85 ∧ c ≠ 89 ∧ c ≠ 91 ∧ c ≠ 92 ∧ c ≠ 93 ∧ c ≠ 94 ∧ c ≠ 95) by omega) with rfl | rfl | rfl | rfl | rfl | rfl | rfl | rfl | rfl | rfl | rfl | rfl | hd
  rotate_right
  · have e := heldR_none c hd
    obtain ⟨h80, h81, h82, h83, h84, h85, h89, h91, h92, h93, h94, h95⟩ := hd
    have b80 : (c == 80) = false := beq_eq_false_iff_ne.mpr h80
    have b81 : (c == 81) = false := beq_eq_false_iff_ne.mpr h81
    have b82 : (c == 82) = false := beq_eq_false_iff_ne.mpr h82
    have b83 : (c == 83) = false := beq_eq_false_iff_ne.mpr h83
    have b84 : (c == 84) = false := beq_eq_false_iff_ne.mpr h84
    have b85 : (c == 85) = false := beq_eq_false_iff_ne.mpr h85
    have b89 : (c == 89) = false := beq_eq_false_iff_ne.mpr h89
    have b91 : (c == 91) = false := beq_eq_false_iff_ne.mpr h91
    have b92 : (c == 92) = false := beq_eq_false_iff_ne.mpr h92
    have b93 : (c == 93) = false := beq_eq_false_iff_ne.mpr h93
    have b94 : (c == 94) = false := beq_eq_false_iff_ne.mpr h94
    have b95 : (c == 95) = false := beq_eq_false_iff_ne.mpr h95
    clear h80 h81 h82 h83 h84 h85 h89 h91 h92 h93 h94 h95
    have E := Lib.hid e
    clear e
    go_enter Tryd.func71, Tryd.ntmps71
    go_wp2_with (first | (go_at_call 67; refine (plain_any _ _ _ _ _ _).mono ?_; rintro e w1 ⟨rfl, hb⟩; have hg := kept_new hb) | (refine wpList_store_row rfl 82 _ _ rfl w.heap.size _ rfl rfl 82 _ hg ?_ rfl (rowC_one _) ?_; (kernel_rfl)))
    rw [E.out]
    first | exact row_end rfl _ rfl (setRow_heap _ _ _ _ _ _ hg) rfl (below_setRow (((Below.refl _ _).alloc (Nat.le_refl _) _).trans (hb.mono (by simp))) (Nat.le_refl _) _) | exact row_end (r := zeroR) rfl _ rfl (heap_alloc_new _ _) rfl ((Below.refl _ _).alloc (Nat.le_refl _) _)
  all_goals
    go_enter Tryd.func71, Tryd.ntmps71
    go_wp2_with (first | (go_at_call 67; refine (plain_any _ _ _ _ _ _).mono ?_; rintro e w1 ⟨rfl, hb⟩; have hg := kept_new hb) | (refine wpList_store_row rfl 82 _ _ rfl w.heap.size _ rfl rfl 82 _ hg ?_ rfl (rowC_one _) ?_; (kernel_rfl)))
    first | exact row_end rfl _ rfl (setRow_heap _ _ _ _ _ _ hg) rfl (below_setRow (((Below.refl _ _).alloc (Nat.le_refl _) _).trans (hb.mono (by simp))) (Nat.le_refl _) _) | exact row_end rfl _ rfl (heap_alloc_new _ _) rfl ((Below.refl _ _).alloc (Nat.le_refl _) _)
theorem outwardR_none (c : Int) (h : c ≠ 236 ∧ c ≠ 238 ∧ c ≠ 243 ∧ c ≠ 247 ∧ c ≠ 248 ∧ c ≠ 249 ∧ c ≠ 251 ∧ c ≠ 253 ∧ c ≠ 254) : outwardR c = zeroR := by
  unfold outwardR; repeat rw [if_neg (by omega)]
set_option maxHeartbeats 2000000 in
set_option maxRecDepth 100000 in
theorem outward_any (c : Int) (w : World) :
    Calls Tryd.prog 80 #[.int .i64 c] w fun e w' => e = .returned (.agg (rowC (outwardR c))) ∧ Below w.heap.size w w' := by
  rcases (show c = 236 ∨ c = 238 ∨ c = 243 ∨ c = 247 ∨ c = 248 ∨ c = 249 ∨ c = 251 ∨ c = 253 ∨ c = 254 ∨ (c ≠ 236 ∧ c ≠ 238 ∧ c ≠ 243 ∧ c ≠ 247 ∧ c ≠ 248 ∧ c ≠ 249 ∧ c ≠ 251 ∧ c ≠ 253 ∧ c ≠ 254) by omega) with rfl | rfl | rfl | rfl | rfl | rfl | rfl | rfl | rfl | hd
  rotate_right
  · have e := outwardR_none c hd
    obtain ⟨h236, h238, h243, h247, h248, h249, h251, h253, h254⟩ := hd
    have b236 : (c == 236) = false := beq_eq_false_iff_ne.mpr h236
    have b238 : (c == 238) = false := beq_eq_false_iff_ne.mpr h238
    have b243 : (c == 243) = false := beq_eq_false_iff_ne.mpr h243
    have b247 : (c == 247) = false := beq_eq_false_iff_ne.mpr h247
    have b248 : (c == 248) = false := beq_eq_false_iff_ne.mpr h248
    have b249 : (c == 249) = false := beq_eq_false_iff_ne.mpr h249
    have b251 : (c == 251) = false := beq_eq_false_iff_ne.mpr h251
    have b253 : (c == 253) = false := beq_eq_false_iff_ne.mpr h253
    have b254 : (c == 254) = false := beq_eq_false_iff_ne.mpr h254
    clear h236 h238 h243 h247 h248 h249 h251 h253 h254
    have E := Lib.hid e
    clear e
    go_enter Tryd.func80, Tryd.ntmps80
    go_wp2_with (first | (go_at_call 67; refine (plain_any _ _ _ _ _ _).mono ?_; rintro e w1 ⟨rfl, hb⟩; have hg := kept_new hb) | (refine wpList_store_row rfl 82 _ _ rfl w.heap.size _ rfl rfl 82 _ hg ?_ rfl (rowC_one _) ?_; (kernel_rfl)))
    rw [E.out]
    first | exact row_end rfl _ rfl (setRow_heap _ _ _ _ _ _ hg) rfl (below_setRow (((Below.refl _ _).alloc (Nat.le_refl _) _).trans (hb.mono (by simp))) (Nat.le_refl _) _) | exact row_end (r := zeroR) rfl _ rfl (heap_alloc_new _ _) rfl ((Below.refl _ _).alloc (Nat.le_refl _) _)
  all_goals
    go_enter Tryd.func80, Tryd.ntmps80
    go_wp2_with (first | (go_at_call 67; refine (plain_any _ _ _ _ _ _).mono ?_; rintro e w1 ⟨rfl, hb⟩; have hg := kept_new hb) | (refine wpList_store_row rfl 82 _ _ rfl w.heap.size _ rfl rfl 82 _ hg ?_ rfl (rowC_one _) ?_; (kernel_rfl)))
    first | exact row_end rfl _ rfl (setRow_heap _ _ _ _ _ _ hg) rfl (below_setRow (((Below.refl _ _).alloc (Nat.le_refl _) _).trans (hb.mono (by simp))) (Nat.le_refl _) _) | exact row_end rfl _ rfl (heap_alloc_new _ _) rfl ((Below.refl _ _).alloc (Nat.le_refl _) _)
theorem turnedR_none (c : Int) (h : c ≠ 208 ∧ c ≠ 209 ∧ c ≠ 210 ∧ c ≠ 211 ∧ c ≠ 224 ∧ c ≠ 225 ∧ c ≠ 226 ∧ c ≠ 227 ∧ c ≠ 228 ∧ c ≠ 229 ∧ c ≠ 230 ∧ c ≠ 231 ∧ c ≠ 232) : turnedR c = outwardR c := by
  unfold turnedR; repeat rw [if_neg (by omega)]
set_option maxHeartbeats 2000000 in
set_option maxRecDepth 100000 in
theorem turned_any (c : Int) (w : World) :
    Calls Tryd.prog 72 #[.int .i64 c] w fun e w' => e = .returned (.agg (rowC (turnedR c))) ∧ Below w.heap.size w w' := by
  rcases (show c = 208 ∨ c = 209 ∨ c = 210 ∨ c = 211 ∨ c = 224 ∨ c = 225 ∨ c = 226 ∨ c = 227 ∨ c = 228 ∨ c = 229 ∨ c = 230 ∨ c = 231 ∨ c = 232 ∨ (c ≠ 208 ∧ c ≠ 209 ∧ c ≠ 210 ∧ c ≠ 211 ∧ c ≠ 224 ∧ c ≠ 225 ∧ c ≠ 226 ∧ c ≠ 227 ∧ c ≠ 228 ∧ c ≠ 229 ∧ c ≠ 230 ∧ c ≠ 231 ∧ c ≠ 232) by omega) with rfl | rfl | rfl | rfl | rfl | rfl | rfl | rfl | rfl | rfl | rfl | rfl | rfl | hd
  rotate_right
  · have e := turnedR_none c hd
    obtain ⟨h208, h209, h210, h211, h224, h225, h226, h227, h228, h229, h230, h231, h232⟩ := hd
    have b208 : (c == 208) = false := beq_eq_false_iff_ne.mpr h208
    have b209 : (c == 209) = false := beq_eq_false_iff_ne.mpr h209
    have b210 : (c == 210) = false := beq_eq_false_iff_ne.mpr h210
    have b211 : (c == 211) = false := beq_eq_false_iff_ne.mpr h211
    have b224 : (c == 224) = false := beq_eq_false_iff_ne.mpr h224
    have b225 : (c == 225) = false := beq_eq_false_iff_ne.mpr h225
    have b226 : (c == 226) = false := beq_eq_false_iff_ne.mpr h226
    have b227 : (c == 227) = false := beq_eq_false_iff_ne.mpr h227
    have b228 : (c == 228) = false := beq_eq_false_iff_ne.mpr h228
    have b229 : (c == 229) = false := beq_eq_false_iff_ne.mpr h229
    have b230 : (c == 230) = false := beq_eq_false_iff_ne.mpr h230
    have b231 : (c == 231) = false := beq_eq_false_iff_ne.mpr h231
    have b232 : (c == 232) = false := beq_eq_false_iff_ne.mpr h232
    clear h208 h209 h210 h211 h224 h225 h226 h227 h228 h229 h230 h231 h232
    have E := Lib.hid e
    clear e
    go_enter Tryd.func72, Tryd.ntmps72
    go_wp2_with (first | (go_at_call 67; refine (plain_any _ _ _ _ _ _).mono ?_; rintro e w1 ⟨rfl, hb⟩; have hg := kept_new hb) | (go_at_call 80; refine (outward_any _ _).mono ?_; rintro e w1 ⟨rfl, hb⟩; have hg := kept_new hb) | (refine wpList_store_row rfl 82 _ _ rfl w.heap.size _ rfl rfl 82 _ hg ?_ rfl (rowC_one _) ?_; (kernel_rfl)))
    rw [E.out]
    first | exact row_end rfl _ rfl (setRow_heap _ _ _ _ _ _ hg) rfl (below_setRow (((Below.refl _ _).alloc (Nat.le_refl _) _).trans (hb.mono (by simp))) (Nat.le_refl _) _) | exact row_end (r := zeroR) rfl _ rfl (heap_alloc_new _ _) rfl ((Below.refl _ _).alloc (Nat.le_refl _) _)
  all_goals
    go_enter Tryd.func72, Tryd.ntmps72
    go_wp2_with (first | (go_at_call 67; refine (plain_any _ _ _ _ _ _).mono ?_; rintro e w1 ⟨rfl, hb⟩; have hg := kept_new hb) | (go_at_call 80; refine (outward_any _ _).mono ?_; rintro e w1 ⟨rfl, hb⟩; have hg := kept_new hb) | (refine wpList_store_row rfl 82 _ _ rfl w.heap.size _ rfl rfl 82 _ hg ?_ rfl (rowC_one _) ?_; (kernel_rfl)))
    first | exact row_end rfl _ rfl (setRow_heap _ _ _ _ _ _ hg) rfl (below_setRow (((Below.refl _ _).alloc (Nat.le_refl _) _).trans (hb.mono (by simp))) (Nat.le_refl _) _) | exact row_end rfl _ rfl (heap_alloc_new _ _) rfl ((Below.refl _ _).alloc (Nat.le_refl _) _)
end Go.Proofs.YtfjmdffhfjnopaaDoor
