/- vouchlaw4.OpOf returns true for every slice of codes; nothing that lay there is changed. -/
import Derived.Test.YtchhbifldfnppaaDoorRefF
import Derived.Test.YtchhbifldfnppaaDoorOpen
namespace Go.Proofs.YtchhbifldfnppaaDoor
open Go.RowKit Vouch Go.Vk
set_option maxHeartbeats 1000000 in
set_option maxRecDepth 100000 in
theorem awake_any (w : World) :
    Calls Tryd.prog 11 #[] w fun e w' => e = .returned (.bool true) ∧ Below w.heap.size w w' := by
  have e1 : opR 1 = ⟨1, ⟨#[65, 68, 68]⟩, 0, 2, 1, 3, false⟩ := by rfl
  have e2 : isOp 1 = true := by decide +kernel
  go_enter Tryd.func11, Tryd.ntmps11
  go_wp2_with (go_at_call 10; refine (of_any _ _).mono ?_; rw [e1, e2]; unfold rowC; rintro e w1 ⟨rfl, hb⟩)
  go_ret
  exact ⟨rfl, (hb.alloc hb.size _)⟩
set_option maxHeartbeats 2000000 in
set_option maxRecDepth 100000 in
theorem opof_walk (A : Option Addr) (cap : Nat) (zs : List Int) (w : World) (hc : IntsAt w .i64 A zs) (_hwf : ∀ n ∈ zs, (Lit.int .i64 n).wf = true) (hm : zs.length ≤ 4611686018427387904) :
    Calls Tryd.prog 3 #[.slice A zs.length cap] w fun e w' => e = .returned (.bool true) ∧ Below w.heap.size w w' := by
  by_cases hbig : 5000 < zs.length
  · have hb1 : decide (5000 < zs.length) = true := decide_eq_true hbig
    go_enter Tryd.func3, Tryd.ntmps3
    go_wp2
    go_ret
    exact ⟨rfl, Below.refl _ _⟩
  · have hb1 : decide (5000 < zs.length) = false := decide_eq_false hbig
    have HC := Lib.hid hc
    clear hc
    go_enter Tryd.func3, Tryd.ntmps3
    go_wp2
    go_loopw [3] (fun vi wr => ∃ i : Nat, vi = .int .i64 i ∧ i ≤ zs.length ∧ Below w.heap.size w wr) (fun vi _ => zs.length - (intOf vi).toNat)
    case atStart => exact ⟨0, rfl, Nat.zero_le _, Below.refl _ _⟩
    case round =>
      obtain ⟨i, rfl, hi, hB⟩ := hrel
      by_cases hlt : i < zs.length
      · obtain ⟨x, rfl, hx⟩ := HC.out i hlt
        have hxr := cell_later hB hx
        generalize zs.getD i 0 = z at hx hxr
        have HX := Lib.hid hx
        clear hx
        go_wp2_with (go_at_call 9; refine (rof_any _ _).mono ?_; unfold rowC; rintro e w1 ⟨rfl, hb⟩)
        have hB1 := hB.trans (hb.mono hB.size)
        have hs1 := hB1.size
        have hgn : (w1.alloc (.cells (rowC (opR z)) 24)).heap[w1.heap.size]? = some (.cells (rowC (opR z)) 24) := heap_alloc_new _ _
        have hB2 : Below w.heap.size w (w1.alloc (.cells (rowC (opR z)) 24)) := hB1.alloc hs1 _
        go_loopw [6] (fun vj wr => ∃ j : Nat, vj = .int .i64 j ∧ j ≤ 2 ∧ Below w.heap.size w wr ∧ wr.heap[w1.heap.size]? = some (.cells (rowC (opR z)) 24)) (fun vj _ => 2 - (intOf vj).toNat)
        case atStart => exact ⟨0, rfl, by omega, hB2, hgn⟩
        case round =>
          clear hgn hB2 hxr hb
          obtain ⟨j, rfl, hj, hB3, hg⟩ := hrel
          have hxr := cell_later hB3 HX.out
          by_cases hj2 : j < 2
          · go_wp2_with (go_at_call 10; refine (of_any _ _).mono ?_; unfold rowC; rintro e w2 ⟨rfl, hb2⟩; have hg2 := kept_of hb2 hg; obtain ⟨hq0, hq1, hq2, hq3, hq4, hq5, hq6, hqz, hql⟩ := cells7 hg2)
            have hB4 := hB3.trans (hb2.mono hB3.size)
            exact ⟨⟨j + 1, by go_num, by omega, hB4.alloc hB4.size _, (Below.heap_alloc _ _ _ hql).trans hg2⟩, by simp [intOf]; omega⟩
          · go_wp2
            exact ⟨⟨i + 1, by go_num, by omega, hB3⟩, by simp [intOf]; omega⟩
      · go_wp2_with (go_at_call 11; refine (awake_any _).mono ?_; rintro e w1 ⟨rfl, hb⟩)
        go_ret
        exact ⟨rfl, hB.trans (hb.mono hB.size)⟩
end Go.Proofs.YtchhbifldfnppaaDoor
