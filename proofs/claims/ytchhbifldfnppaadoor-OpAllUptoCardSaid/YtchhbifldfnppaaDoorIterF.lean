/- op.All as an iterator that tells of each row that it is the next one. -/
import Derived.Test.YtchhbifldfnppaaDoorIterX
import Derived.Test.YtchhbifldfnppaaDoorRangeN
namespace Go.Proofs.YtchhbifldfnppaaDoor
open Go.RowKit Vouch Go.Vk Go.Sort
set_option maxHeartbeats 1000000 in
set_option maxRecDepth 100000 in
theorem all_seqF (n : Nat) (w : World) :
    SeqF Fence.wide (n + 3) Tryd.prog 24 #[] (fun x : OpIx => #[.agg (rowC x.row)]) (fun _ => True) (fun pre x _ => pre ++ [x] <+: allIx) (fun xs => xs = allIx) (fun pre => pre <+: allIx) w := by
  intro l J Jx W hW hJ hJx _ hY h0
  refine callsIn_of_wp Tryd.func24 rfl trivial ?_ rfl
  simp only [Tryd.ntmps24, List.size_toArray, List.length_cons, List.length_nil, Nat.reduceAdd, Nat.reduceSub, Array.replicate_succ, Array.replicate_zero, List.push_toArray, List.append_toArray, List.nil_append, List.cons_append]
  gi_wp2
  gi_loopw [5] (fun vk wr => ∃ k : Nat, vk = .int .i64 k ∧ k ≤ 256 ∧ J (uptoX k) wr) (fun vk _ => 256 - (intOf vk).toNat)
  case atStart => exact ⟨0, rfl, Nat.zero_le _, h0⟩
  case round =>
    obtain ⟨k, rfl, hk, hj⟩ := hrel
    have HY := Lib.hid hY
    clear hY
    by_cases hlt : k < 256
    · have hs := uptoX_succ k
      by_cases hop : isOp (k : Int) = true
      · obtain ⟨ix, hix⟩ : ∃ ix : OpIx, ix = ⟨k, hlt, hop⟩ := ⟨_, rfl⟩
        rw [show ixOf k = some ix by unfold ixOf; rw [dif_pos ⟨hlt, hop⟩, hix], Option.toList_some] at hs
        have hrow : ix.row = opR (k : Int) := by rw [hix]; rfl
        clear hix
        have hpf : uptoX k ++ [ix] <+: allIx := by rw [← hs]; exact uptoX_prefix (k + 1) (by omega)
        have HS := Lib.hid hs
        clear hs
        gi_wp2_with (refine ⟨trivial, ?_⟩; gi_at_call 10; refine (callsIn_wide.2 (of_any _ _)).mono ?_; unfold rowC; rintro e w1 ⟨rfl, hb⟩; obtain ⟨fn, tmps, assign, body, hy, hR⟩ := HY.out (uptoX k) ix w1 (.cells (rowC (opR k)) 24) (hJ _ _ _ none hj (grownBy_below hb) (fun r e => by cases e)) hpf rfl; rw [hrow] at hy; unfold rowC at hy)
        refine hR.mono ?_
        rintro e W3 (⟨rfl, hJ3, _⟩ | ⟨rfl, hJx3⟩)
        · gi_wp2
          go_roundw
          case rel => exact ⟨k + 1, by go_num, by omega, by rw [HS.out]; exact hJ3⟩
          case measure => simp [intOf]; omega
        · gi_wp2
          refine bodyPost_ret (results_none rfl _ _ _) rfl ?_
          exact ⟨⟨_, rfl⟩, .inr ⟨uptoX k ++ [ix], by rw [← HS.out]; exact uptoX_prefix (k + 1) (by omega), hJx3⟩⟩
      · have hop : isOp (k : Int) = false := by simpa using hop
        rw [show ixOf k = none by unfold ixOf; rw [dif_neg (by rw [hop]; simp)]] at hs
        simp only [Option.toList_none, List.append_nil] at hs
        have HS := Lib.hid hs
        clear hs
        gi_wp2_with (refine ⟨trivial, ?_⟩; gi_at_call 10; refine (callsIn_wide.2 (of_any _ _)).mono ?_; unfold rowC; rintro e w1 ⟨rfl, hb⟩)
        refine ⟨fun _ h => (by cases h), ?_⟩
        gi_wp2
        go_roundw
        case rel => exact ⟨k + 1, by go_num, by omega, by rw [HS.out]; exact hJ _ _ _ none hj (grownBy_below (hb.alloc hb.size _)) (fun r e => by cases e)⟩
        case measure => simp [intOf]; omega
    · obtain rfl : k = 256 := by omega
      gi_wp2
      go_end0
      exact ⟨⟨_, rfl⟩, .inl ⟨_, rfl, hj⟩⟩
end Go.Proofs.YtchhbifldfnppaaDoor
