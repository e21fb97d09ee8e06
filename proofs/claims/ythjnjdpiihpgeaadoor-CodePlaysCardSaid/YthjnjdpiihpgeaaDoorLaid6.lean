/- vouchlaw6.laid, vouchlaw6.stands: the bytes in new memory with marks behind; are they the same still. -/
import Derived.Test.YthjnjdpiihpgeaaDoorSame6
namespace Go.Proofs.YthjnjdpiihpgeaaDoor
open Go.RowKit Vouch Go.Vk Go.Sort
def marksN (k : Nat) : List Int := (List.range k).map fun i : Nat => 161 + (i : Int) % 3
theorem marksN_snoc (k : Nat) : marksN (k + 1) = marksN k ++ [161 + (k : Int) % 3] := by unfold marksN; rw [List.range_succ, List.map_append]; rfl
theorem marksN_length (k : Nat) : (marksN k).length = k := by simp [marksN]
theorem byteVs_take_succ {bs : List Int} {k : Nat} (h : k < bs.length) : byteVs (bs.take (k + 1)) = byteVs (bs.take k) ++ [.int .u8 (bs.getD k 0)] := by
  rw [List.take_add_one, List.getElem?_eq_getElem h, List.getD_eq_getElem?_getD, List.getElem?_eq_getElem h]
  simp only [byteVs, List.map_append, Option.toList_some, List.map_cons, List.map_nil, Option.getD_some]
theorem take_min' (bs : List Int) (n : Nat) : bs.take (min n bs.length) = bs.take n := by
  by_cases h : bs.length ≤ n
  · rw [Nat.min_eq_right h, List.take_of_length_le (Nat.le_refl _), List.take_of_length_le h]
  · rw [Nat.min_eq_left (by omega)]
set_option maxHeartbeats 1000000 in
set_option maxRecDepth 100000 in
theorem laid_any (bs : List Int) (A : Option Addr) (cap : Nat) (w : World) (hc : IntsAt w .u8 A bs) (hn : bs.length ≤ 140737488355328) :
    Calls Tryd.prog 21 #[.slice A bs.length cap] w fun e w' => ∃ g c, e = .returned (.slice (some ⟨g, 0, none⟩) (bs.take 70000).length c) ∧ w'.ownsRow w.heap.size 5 1 (.slice (some ⟨g, 0, none⟩) ((bs.take 70000).length + 75) c) ((bs.take 70000).length + 75) (byteVs (bs.take 70000 ++ marksN 75)) ∧ Below w.heap.size w w' := by
  obtain ⟨i0, hi, hz0, hz1, hz2⟩ := info_parts infoByte
  have HC := Lib.hid hc
  clear hc
  have hl : (bs.take 70000).length = min 70000 bs.length := List.length_take
  have HL := Lib.hid hl
  clear hl
  go_enter Tryd.func21, Tryd.ntmps21
  go_wp2
  go_loopw [3, 4] (fun vp vi wr => ∃ k : Nat, vi = .int .i64 k ∧ k ≤ (bs.take 70000).length ∧ wr.ownsRow w.heap.size 5 1 vp k (byteVs (bs.take k)) ∧ Below w.heap.size w wr) (fun _ vi _ => bs.length - (intOf vi).toNat)
  case atStart => exact ⟨0, by simp, Nat.zero_le _, by simpa [byteVs] using World.ownsRow_nil w w.heap.size 5 1, Below.refl _ _⟩
  case round =>
    obtain ⟨k, rfl, hk, hown, hB⟩ := hrel
    rw [HL.out] at hk
    obtain ⟨Xp, cp, rfl⟩ := owns_shape hown
    by_cases hlt : k < bs.length ∧ k < 70000
    · obtain ⟨y, rfl, hx⟩ := HC.out k (by omega)
      have hts := byteVs_take_succ hlt.1
      have HT := Lib.hid hts
      clear hts
      have HOWN := Lib.hid hown
      clear hown
      generalize bs.getD k 0 = b at hx HT
      have hxr := cell_later hB hx
      have h1 : (k : Int) < (bs.length : Int) := by omega
      have h2 : (k : Int) < 70000 := by omega
      go_wp2_with (at_builtin; refine wpList_append_own _ rfl _ _ 22 rfl w.heap.size 5 i0 (.int .u8 0) 1 1 Tryd.underlying22 hi hz0 hz1 hz2 rfl (by decide) _ _ _ rfl (HOWN.out.alloc _) ⟨wr.heap.size, 0, none⟩ 1 1 [.int .u8 b] rfl rfl ?a1 ?a2 ?a3 ?a4 ?a5 ?_)
      case a1 => exact cells_fresh wr #[.int .u8 b] _ _ rfl
      case a2 => intro u hu; simp at hu; subst hu; rfl
      case a3 => unfold maxLen; omega
      case a4 => omega
      case a5 => have := hB.size; simp; omega
      intro v6 w6 hown6 hgrow6 _
      have hB6 := bel_own (hB.alloc hB.size (.cells #[.int .u8 b] 5)) (HOWN.out.alloc _) (Nat.le_refl _) hgrow6
      clear hgrow6
      go_wp2
      exact ⟨⟨k + 1, by go_num, by rw [HL.out]; omega, by rw [HT.out]; exact hown6, hB6⟩, by simp [intOf]; omega⟩
    · have hkk : k = (bs.take 70000).length := by rw [HL.out]; omega
      have hn1 : k ≤ 70000 := by omega
      have hbt : bs.take k = bs.take 70000 := by rw [hkk, HL.out, take_min']
      have hzl : (bs.take 70000).length = k := hkk.symm
      rw [hbt] at hown
      generalize hzs : bs.take 70000 = zs at hown hzl
      have HZS := Lib.hid hzs
      have HZL := Lib.hid hzl
      clear hzs hzl
      clear hbt hkk HL
      by_cases h1 : k < bs.length
      · have h2 : (k : Int) < (bs.length : Int) := by omega
        have h3 : ¬ (k : Int) < 70000 := by omega
        go_wp2
        go_loopw [3, 6] (fun vp vj wr => ∃ j : Nat, vj = .int .i64 j ∧ j ≤ 75 ∧ wr.ownsRow w.heap.size 5 1 vp (k + j) (byteVs (zs ++ marksN j)) ∧ Below w.heap.size w wr) (fun _ vj _ => 75 - (intOf vj).toNat)
        case atStart => exact ⟨0, by simp, Nat.zero_le _, by simpa [marksN] using hown, hB⟩
        case round =>
          clear hown hB
          obtain ⟨j, rfl, hj, hown, hB⟩ := hrel
          obtain ⟨Xq, cq, rfl⟩ := owns_shape hown
          by_cases hlt : j < 75
          · have hts : byteVs (zs ++ marksN (j + 1)) = byteVs (zs ++ marksN j) ++ [.int .u8 (161 + (j : Int) % 3)] := by rw [marksN_snoc, ← List.append_assoc]; simp [byteVs]
            have HT := Lib.hid hts
            clear hts
            have h5 : (j : Int) < 75 := by omega
            have HOWN := Lib.hid hown
            clear hown
            go_wp2_with (at_builtin; refine wpList_append_own _ rfl _ _ 22 rfl w.heap.size 5 i0 (.int .u8 0) 1 1 Tryd.underlying22 hi hz0 hz1 hz2 rfl (by decide) _ _ _ rfl (HOWN.out.alloc _) ⟨wr.heap.size, 0, none⟩ 1 1 [.int .u8 (161 + (j : Int) % 3)] rfl rfl ?a1 ?a2 ?a3 ?a4 ?a5 ?_)
            case a1 => exact cells_fresh wr #[.int .u8 (161 + (j : Int) % 3)] _ _ rfl
            case a2 => intro u hu; simp at hu; subst hu; rfl
            case a3 => unfold maxLen; omega
            case a4 => omega
            case a5 => have := hB.size; simp; omega
            intro v6 w6 hown6 hgrow6 _
            have hB6 := bel_own (hB.alloc hB.size (.cells #[.int .u8 (161 + (j : Int) % 3)] 5)) (HOWN.out.alloc _) (Nat.le_refl _) hgrow6
            clear hgrow6
            go_wp2
            exact ⟨⟨j + 1, by go_num, by omega, by rw [HT.out]; exact hown6, hB6⟩, by simp [intOf]; omega⟩
          · obtain rfl : j = 75 := by omega
            obtain ⟨g, rfl⟩ := own_head hown (by omega)
            have hcq : (k : Int) ≤ (cq : Int) := by have := owned_cap hown; omega
            have HOWN := Lib.hid hown
            clear hown
            go_wp2
            go_ret
            exact ⟨g, cq, by rw [HZS.out, HZL.out]; rfl, by rw [HZS.out, HZL.out]; exact HOWN.out, hB⟩
      · have h2 : ¬ (k : Int) < (bs.length : Int) := by omega
        go_wp2
        go_loopw [3, 6] (fun vp vj wr => ∃ j : Nat, vj = .int .i64 j ∧ j ≤ 75 ∧ wr.ownsRow w.heap.size 5 1 vp (k + j) (byteVs (zs ++ marksN j)) ∧ Below w.heap.size w wr) (fun _ vj _ => 75 - (intOf vj).toNat)
        case atStart => exact ⟨0, by simp, Nat.zero_le _, by simpa [marksN] using hown, hB⟩
        case round =>
          clear hown hB
          obtain ⟨j, rfl, hj, hown, hB⟩ := hrel
          obtain ⟨Xq, cq, rfl⟩ := owns_shape hown
          by_cases hlt : j < 75
          · have hts : byteVs (zs ++ marksN (j + 1)) = byteVs (zs ++ marksN j) ++ [.int .u8 (161 + (j : Int) % 3)] := by rw [marksN_snoc, ← List.append_assoc]; simp [byteVs]
            have HT := Lib.hid hts
            clear hts
            have h5 : (j : Int) < 75 := by omega
            have HOWN := Lib.hid hown
            clear hown
            go_wp2_with (at_builtin; refine wpList_append_own _ rfl _ _ 22 rfl w.heap.size 5 i0 (.int .u8 0) 1 1 Tryd.underlying22 hi hz0 hz1 hz2 rfl (by decide) _ _ _ rfl (HOWN.out.alloc _) ⟨wr.heap.size, 0, none⟩ 1 1 [.int .u8 (161 + (j : Int) % 3)] rfl rfl ?a1 ?a2 ?a3 ?a4 ?a5 ?_)
            case a1 => exact cells_fresh wr #[.int .u8 (161 + (j : Int) % 3)] _ _ rfl
            case a2 => intro u hu; simp at hu; subst hu; rfl
            case a3 => unfold maxLen; omega
            case a4 => omega
            case a5 => have := hB.size; simp; omega
            intro v6 w6 hown6 hgrow6 _
            have hB6 := bel_own (hB.alloc hB.size (.cells #[.int .u8 (161 + (j : Int) % 3)] 5)) (HOWN.out.alloc _) (Nat.le_refl _) hgrow6
            clear hgrow6
            go_wp2
            exact ⟨⟨j + 1, by go_num, by omega, by rw [HT.out]; exact hown6, hB6⟩, by simp [intOf]; omega⟩
          · obtain rfl : j = 75 := by omega
            obtain ⟨g, rfl⟩ := own_head hown (by omega)
            have hcq : (k : Int) ≤ (cq : Int) := by have := owned_cap hown; omega
            have HOWN := Lib.hid hown
            clear hown
            go_wp2
            go_ret
            exact ⟨g, cq, by rw [HZS.out, HZL.out]; rfl, by rw [HZS.out, HZL.out]; exact HOWN.out, hB⟩
end Go.Proofs.YthjnjdpiihpgeaaDoor
