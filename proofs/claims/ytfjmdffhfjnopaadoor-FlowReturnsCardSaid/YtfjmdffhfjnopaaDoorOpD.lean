/- op.Of returns the row opR tells and whether there is one, for every code. -/
import Derived.Test.YtfjmdffhfjnopaaDoorOpC
namespace Go.Proofs.YtfjmdffhfjnopaaDoor
open Go.RowKit Vouch Go.Vk
set_option maxHeartbeats 1000000 in
set_option maxRecDepth 100000 in
theorem of_any (c : Int) (w : World) :
    Calls Tryd.prog 40 #[.int .i64 c] w fun e w' => e = .returned (.tuple #[.agg (rowC (opR c)), .bool (isOp c)]) ∧ Below w.heap.size w w' := by
  go_enter Tryd.func40, Tryd.ntmps40
  go_wp2_with (go_at_call 58; refine (find_any _ _).mono ?_; rintro e w1 ⟨rfl, hb⟩; have hg := kept_new hb; obtain ⟨hc0, hc1, hc2, hc3, hc4, hc5, hc6, hfz, hlt⟩ := cells7 hg; unfold rowC)
  go_region
  go_wp2
  rw [set7_eq hg]
  refine bodyPost_ret_by (results_row_tmp (cs := rowC (opR c)) rfl _ _ w.heap.size _ _ _ rfl (((Below.heap_alloc _ _ _ (by simpa using hlt)).trans (setRow_heap _ _ _ _ _ _ hg))) Tryd.underlying82 rfl (by kernel_rfl)) rfl ⟨rfl, ?_⟩
  exact ((below_setRow (((Below.refl _ _).alloc (Nat.le_refl _) _).trans (hb.mono (by simp))) (Nat.le_refl _) _).alloc (by simp; omega) _).drew
end Go.Proofs.YtfjmdffhfjnopaaDoor
