/- vouchref4.number of 0 to 32 tells the digits. -/
import Derived.Test.YtfjmdffhfjnopaaDoorRefA
namespace Go.Proofs.YtfjmdffhfjnopaaDoor
open Go.RowKit Vouch Go.Vk
set_option maxHeartbeats 4000000 in
set_option maxRecDepth 100000 in
theorem number_any (n : Int) (w : World) (h0 : 0 ≤ n) (h1 : n ≤ 32) :
    Calls Tryd.prog 83 #[.int .i64 n] w fun e w' => e = .returned (.string (dec n)) ∧ Below w.heap.size w w' := by
  rcases (show n = 0 ∨ n = 1 ∨ n = 2 ∨ n = 3 ∨ n = 4 ∨ n = 5 ∨ n = 6 ∨ n = 7 ∨ n = 8 ∨ n = 9 ∨ (n = 10 ∨ n = 11 ∨ n = 12 ∨ n = 13 ∨ n = 14 ∨ n = 15 ∨ n = 16 ∨ n = 17 ∨ n = 18 ∨ n = 19 ∨ n = 20 ∨ n = 21 ∨ n = 22 ∨ n = 23 ∨ n = 24 ∨ n = 25 ∨ n = 26 ∨ n = 27 ∨ n = 28 ∨ n = 29 ∨ n = 30 ∨ n = 31 ∨ n = 32) by omega) with rfl | rfl | rfl | rfl | rfl | rfl | rfl | rfl | rfl | rfl | h
  rotate_right
  · rcases h with rfl | rfl | rfl | rfl | rfl | rfl | rfl | rfl | rfl | rfl | rfl | rfl | rfl | rfl | rfl | rfl | rfl | rfl | rfl | rfl | rfl | rfl | rfl
    all_goals
      go_enter Tryd.func83, Tryd.ntmps83
      go_wp2
      go_quiet (fail)
      go_wp2
      go_ret
      exact ⟨by kernel_rfl, (drawnN_below _ _)⟩
  all_goals
    go_enter Tryd.func83, Tryd.ntmps83
    go_wp2
    go_ret
    exact ⟨by kernel_rfl, Below.refl _ _⟩
end Go.Proofs.YtfjmdffhfjnopaaDoor
