/- op.All's iterator: it yields the rows of the codes from 0 to 255 that have one, in order, as long as it is asked. -/
import Derived.RangeFuncNested
import Derived.RangeFuncBound
import Derived.RangeFuncCalls
import Derived.RangeFuncLeaves
import Derived.Shelf.Abstract
import Derived.Shelf.RegionOpen
import Derived.OwnWalkIn
import Derived.TacticsInMore
import Derived.LoopNIn
import Derived.LoopIn
import Derived.Test.YtchhbifldfnppaaDoorOpD
namespace Go.Proofs.YtchhbifldfnppaaDoor
open Go.RowKit Vouch Go.Vk Go.Shelf
attribute [local go_sem] Oper.semAt_some
def upto (k : Nat) : List OpRow := ((List.range k).filter fun i : Nat => isOp (i : Int)).map fun i : Nat => opR (i : Int)
theorem allOps_length : (upto 256).length = 153 := by decide +kernel
def allOps : List OpRow := upto 256
theorem upto_succ (k : Nat) : upto (k + 1) = upto k ++ (if isOp (k : Int) then [opR (k : Int)] else []) := by
  unfold upto
  rw [List.range_succ, List.filter_append, List.map_append]
  congr 1
  by_cases h : isOp (k : Int) = true
  · simp [h]
  · simp at h; simp [h]
theorem upto_prefix (k : Nat) (h : k ≤ 256) : upto k <+: allOps := by
  obtain ⟨d, hd⟩ : ∃ d, d + k = 256 := ⟨256 - k, by omega⟩
  unfold allOps
  rw [← hd]
  clear hd h
  induction d with
  | zero => simp
  | succ d ih =>
    rw [show d + 1 + k = (d + k) + 1 by omega, upto_succ]
    exact ih.trans (List.prefix_append _ _)
theorem grownBy_below {W W' : World} (h : Below W.heap.size W W') : W.grownBy W' none := ⟨h.os, h.tape, h.output, h.size, fun k hk _ => h.block k hk⟩
set_option maxHeartbeats 1000000 in
set_option maxRecDepth 100000 in
theorem all_stops (Kp : World → World → Prop) (w : World) :
    SeqStopsK Fence.wide 3 Tryd.prog 24 #[] (fun x : OpRow => #[.agg (rowC x)]) Kp (fun xs => xs = allOps) (fun pre => pre <+: allOps) 153 w := by
  intro l J Jx W hW hJ hJx hY h0
  refine callsIn_of_wp Tryd.func24 rfl trivial ?_ rfl
  simp only [Tryd.ntmps24, List.size_toArray, List.length_cons, List.length_nil, Nat.reduceAdd, Nat.reduceSub, Array.replicate_succ, Array.replicate_zero, List.push_toArray, List.append_toArray, List.nil_append, List.cons_append]
  gi_wp2
  gi_loopw [5] (fun vk wr => ∃ k : Nat, vk = .int .i64 k ∧ k ≤ 256 ∧ J (upto k) wr) (fun vk _ => 256 - (intOf vk).toNat)
  case atStart => exact ⟨0, rfl, Nat.zero_le _, h0⟩
  case round =>
    obtain ⟨k, rfl, hk, hj⟩ := hrel
    have HY := Lib.hid hY
    clear hY
    by_cases hlt : k < 256
    · have hs := upto_succ k
      by_cases hop : isOp (k : Int) = true
      · rw [if_pos hop] at hs
        have hlen : (upto k).length < 153 := by
          have h1 := (upto_prefix (k + 1) (by omega)).length_le
          rw [hs, List.length_append, show allOps.length = 153 from allOps_length] at h1
          simp at h1
          omega
        have HS := Lib.hid hs
        clear hs
        gi_wp2_with (refine ⟨trivial, ?_⟩; gi_at_call 10; refine (callsIn_wide.2 (of_any _ _)).mono ?_; unfold rowC; rintro e w1 ⟨rfl, hb⟩; obtain ⟨fn, tmps, assign, body, hy, hR⟩ := HY.out (upto k) (opR k) (w1.alloc (.cells (rowC (opR k)) 24)) (hJ _ _ _ none hj (grownBy_below (hb.alloc hb.size _)) (fun r e => by cases e)) hlen; unfold rowC at hy hR)
        refine hR.mono ?_
        rintro e W3 (⟨rfl, hJ3, _⟩ | ⟨rfl, hJx3⟩)
        · gi_wp2
          go_roundw
          case rel => exact ⟨k + 1, by go_num, by omega, by rw [HS.out]; exact hJ3⟩
          case measure => simp [intOf]; omega
        · gi_wp2
          refine bodyPost_ret (results_none rfl _ _ _) rfl ?_
          exact ⟨⟨_, rfl⟩, .inr ⟨upto k ++ [opR k], by rw [← HS.out]; exact upto_prefix (k + 1) (by omega), hJx3⟩⟩
      · have hop : isOp (k : Int) = false := by simpa using hop
        rw [hop] at hs
        simp only [Bool.false_eq_true, if_false, List.append_nil] at hs
        have HS := Lib.hid hs
        clear hs
        gi_wp2_with (refine ⟨trivial, ?_⟩; gi_at_call 10; refine (callsIn_wide.2 (of_any _ _)).mono ?_; unfold rowC; rintro e w1 ⟨rfl, hb⟩)
        refine ⟨fun _ h => (by cases h), ?_⟩
        gi_wp2
        go_roundw
        case rel => exact ⟨k + 1, by go_num, by omega, by rw [HS.out]; exact hJ _ _ _ none hj (grownBy_below (hb.alloc hb.size _)) (fun r e => by cases e)⟩
        case measure => simp [intOf]; omega
    · obtain rfl : k = 256 := by omega
      gi_wp2
      go_end0
      exact ⟨⟨_, rfl⟩, .inl ⟨_, rfl, hj⟩⟩
end Go.Proofs.YtchhbifldfnppaaDoor
