/- vouchlaw6.cut: at most 70000 bytes, in new memory. -/
import Derived.Test.YthjnjdpiihpgeaaDoorAwake6
namespace Go.Proofs.YthjnjdpiihpgeaaDoor
open Go.RowKit Vouch Go.Vk Go.Sort
theorem infoByte : (Tryd.prog.info? 5).map (fun i => (i.zero, i.size, i.bytes)) = some (some (.int .u8 0), 1, 1) := by kernel_rfl
theorem byteVs_length (l : List Int) : (byteVs l).length = l.length := by unfold byteVs; simp
theorem own_empty (w : World) : (w.alloc (.cells #[] 5)).ownsRow w.heap.size 5 1 (.slice (some ⟨w.heap.size, 0, none⟩) 0 0) 0 [] :=
  ⟨rfl, .inr ⟨w.heap.size, 0, #[], rfl, Nat.le_refl _, heap_alloc_new _ _, Nat.le_refl _, by unfold maxLen; omega, rfl, rfl⟩⟩
set_option maxHeartbeats 400000 in
set_option maxRecDepth 100000 in
theorem cut_any (bs : List Int) (A : Option Addr) (cap : Nat) (w : World) (hc : IntsAt w .u8 A bs) (hcap : bs.length ≤ cap) (hnil : A = none → cap = 0) :
    Calls Tryd.prog 15 #[.slice A bs.length cap] w fun e w' => ∃ v, e = .returned v ∧ w'.ownsRow w.heap.size 5 1 v (bs.take 70000).length (byteVs (bs.take 70000)) ∧ Below w.heap.size w w' := by
  obtain ⟨i0, hi, hz0, hz1, hz2⟩ := info_parts infoByte
  have HC := Lib.hid hc
  clear hc
  have hb0 : Below w.heap.size w (w.alloc (.cells #[] 5)) := (Below.refl _ _).alloc (Nat.le_refl _) _
  cases A with
  | none =>
    obtain rfl := hnil rfl
    obtain rfl := List.eq_nil_of_length_eq_zero (by omega : bs.length = 0)
    go_enter Tryd.func15, Tryd.ntmps15
    go_wp2_with (at_builtin; refine wpList_append_own_none rfl _ _ 22 rfl w.heap.size 5 i0 1 Tryd.underlying22 hi _ _ _ rfl (own_empty w) rfl ?_)
    go_ret
    exact ⟨_, rfl, own_empty w, hb0⟩
  | some a =>
    by_cases hlt : 70000 < bs.length
    · have h1 : (70000 : Int) < bs.length := by omega
      have h2 : (70000 : Int) ≤ cap := by omega
      go_enter Tryd.func15, Tryd.ntmps15
      go_wp2_with (at_builtin; refine wpList_append_own _ rfl _ _ 22 rfl w.heap.size 5 i0 (.int .u8 0) 1 1 Tryd.underlying22 hi hz0 hz1 hz2 rfl (by decide) _ _ _ rfl (own_empty w) a 70000 cap (byteVs (bs.take 70000)) rfl ?c0 ?c1 ?c2 ?c3 ?c4 ?c5 ?_)
      case c0 => rw [byteVs_length, List.length_take]; omega
      case c1 => exact bytes_src (ints_take (ints_below hb0 HC.out) _)
      case c2 => exact bytes_one
      case c3 => unfold maxLen; omega
      case c4 => omega
      case c5 => simp
      intro v' w2 hown2 hgrow _
      go_wp2
      go_ret
      refine ⟨_, rfl, ?_, bel_own hb0 (own_empty w) (Nat.le_refl _) hgrow⟩
      rw [List.length_take, Nat.min_eq_left (by omega)]
      simpa using hown2
    · have h1 : ¬ (70000 : Int) < bs.length := by omega
      go_enter Tryd.func15, Tryd.ntmps15
      go_wp2_with (at_builtin; refine wpList_append_own _ rfl _ _ 22 rfl w.heap.size 5 i0 (.int .u8 0) 1 1 Tryd.underlying22 hi hz0 hz1 hz2 rfl (by decide) _ _ _ rfl (own_empty w) a bs.length cap (byteVs bs) rfl ?c0 ?c1 ?c2 ?c3 ?c4 ?c5 ?_)
      case c0 => exact byteVs_length _
      case c1 => exact bytes_src (ints_below hb0 HC.out)
      case c2 => exact bytes_one
      case c3 => unfold maxLen; omega
      case c4 => omega
      try (case c5 => simp)
      intro v' w2 hown2 hgrow _
      go_wp2
      go_ret
      refine ⟨_, rfl, ?_, bel_own hb0 (own_empty w) (Nat.le_refl _) hgrow⟩
      rw [List.take_of_length_le (by omega)]
      simpa using hown2
end Go.Proofs.YthjnjdpiihpgeaaDoor
