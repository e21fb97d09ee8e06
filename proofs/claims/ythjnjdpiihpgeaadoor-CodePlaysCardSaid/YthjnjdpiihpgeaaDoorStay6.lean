/- vouchlaw6.stands: what laid made is the same still. -/
import Derived.Test.YthjnjdpiihpgeaaDoorLaid6
import Derived.WalkSmall
namespace Go.Proofs.YthjnjdpiihpgeaaDoor
open Go.RowKit Vouch Go.Vk Go.Sort
set_option maxHeartbeats 1000000 in
set_option maxRecDepth 100000 in
theorem stay_any (zs bs : List Int) (g c : Nat) (B : Option Addr) (capB B0 : Nat) (w : World) (ho : w.ownsRow B0 5 1 (.slice (some ⟨g, 0, none⟩) (zs.length + 75) c) (zs.length + 75) (byteVs (zs ++ marksN 75))) (hb : IntsAt w .u8 B bs) (he : zs = bs.take zs.length) (hl : zs.length ≤ bs.length) (hn : bs.length ≤ 140737488355328) :
    Calls Tryd.prog 24 #[.slice (some ⟨g, 0, none⟩) zs.length c, .slice B bs.length capB] w fun e w' => e = .returned (.bool true) ∧ Below w.heap.size w w' := by
  have hcap := owned_cap ho
  have hints : IntsAt w .u8 (some ⟨g, 0, none⟩) (zs ++ marksN 75) := by
    have e : (zs ++ marksN 75).length = zs.length + 75 := by rw [List.length_append, marksN_length]
    rw [← e] at ho
    exact owned_ints ho
  have HI := Lib.hid hints
  have HB := Lib.hid hb
  have HE := Lib.hid he
  clear hints hb he ho
  have hc1 : (zs.length : Int) + 75 ≤ (c : Int) := by omega
  have hc0 : (0 : Int) ≤ (zs.length : Int) + 75 := by omega
  have hto : ((zs.length : Int) + 75).toNat = zs.length + 75 := by omega
  generalize hzl : zs.length = n at *
  have HZ := Lib.hid hzl
  clear hzl
  go_enter Tryd.func24, Tryd.ntmps24
  go_wp2
  go_loopw [7] (fun vi wr => ∃ k : Nat, vi = .int .i64 k ∧ k ≤ n ∧ Below w.heap.size w wr) (fun vi _ => n - (intOf vi).toNat)
  case atStart => exact ⟨0, rfl, Nat.zero_le _, Below.refl _ _⟩
  case round =>
    obtain ⟨k, rfl, hk, hB⟩ := hrel
    by_cases hlt : k < n
    · obtain ⟨y, hy0, hx⟩ := HI.out k (by rw [List.length_append, HZ.out]; omega)
      obtain ⟨z, rfl, hx2⟩ := HB.out k (by omega)
      cases hy0
      rw [addr_zero] at hx
      have e1 : (zs ++ marksN 75).getD k 0 = bs.getD k 0 := by
        rw [List.getD_eq_getElem?_getD, List.getElem?_append_left (by rw [HZ.out]; exact hlt), HE.out, List.getElem?_take, if_pos hlt, List.getD_eq_getElem?_getD]
      rw [e1] at hx
      have hd1 := cell_later hB hx
      have hd2 := cell_later hB hx2
      clear e1 hx hx2
      generalize bs.getD k 0 = b at hd1 hd2
      have h1 : (k : Int) < (n : Int) := by omega
      have h2 : (k : Int) < (n : Int) + 75 := by omega
      have h3 : (k : Int) < (bs.length : Int) := by omega
      have h4 : (0 : Int) ≤ (k : Int) := by omega
      go_wp2
      go_quiet (fail)
      go_wp2
      exact ⟨⟨k + 1, by go_num, by omega, below_drewN hB nq⟩, by simp [intOf]; omega⟩
    · have h1 : ¬ (k : Int) < (n : Int) := by omega
      go_wp2
      go_loopw [8] (fun vi wr => ∃ k : Nat, vi = .int .i64 k ∧ k ≤ 75 ∧ Below w.heap.size w wr) (fun vi _ => 75 - (intOf vi).toNat)
      case atStart => exact ⟨0, rfl, Nat.zero_le _, hB⟩
      case round =>
        clear hB
        obtain ⟨j, rfl, hj, hB⟩ := hrel
        by_cases hlt2 : j < 75
        · obtain ⟨y, hy0, hx⟩ := HI.out (n + j) (by rw [List.length_append, HZ.out, marksN_length]; omega)
          cases hy0
          rw [addr_zero] at hx
          have e1 : (zs ++ marksN 75).getD (n + j) 0 = 161 + (j : Int) % 3 := by
            rw [List.getD_eq_getElem?_getD, List.getElem?_append_right (by rw [HZ.out]; omega), HZ.out, Nat.add_sub_cancel_left]
            simp [marksN, hlt2]
          rw [e1] at hx
          have hd1 := cell_later hB hx
          clear e1 hx
          have h2 : (n : Int) + j < (n : Int) + 75 := by omega
          have h4 : (0 : Int) ≤ (n : Int) + j := by omega
          have h5 : ((n : Int) + j).toNat = n + j := by omega
          have h6 : (j : Int) < 75 := by omega
          go_wp2
          exact ⟨⟨j + 1, by go_num, by omega, hB⟩, by simp [intOf]; omega⟩
        · have h6 : ¬ (j : Int) < 75 := by omega
          go_wp2
          go_ret
          exact ⟨rfl, hB⟩
end Go.Proofs.YthjnjdpiihpgeaaDoor
