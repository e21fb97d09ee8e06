/- Texts in one: Ref7A, Leads7t, Leads7j, Leads7, Read7, Index7, Turns7r, May7. -/
import Derived.Test.YtfjmdffhfjnopaaDoorSpec7
import Derived.Test.YtfjmdffhfjnopaaDoorGen
import Derived.Deep.RegionHeld3
import Derived.Test.YtfjmdffhfjnopaaDoorFlowQ
import Derived.Laws.OwnMore
import Derived.Test.YtfjmdffhfjnopaaDoorFlowD
import Derived.Test.YtfjmdffhfjnopaaDoorTurn7
/- vouchref7: ends, far, Names. -/
namespace Go.Proofs.YtfjmdffhfjnopaaDoor
open Go.RowKit Vouch Go.Vk Go.Sort
theorem rends_any (c : Int) (w : World) : Calls Tryd.prog 51 #[.int .i64 c] w fun e w' => e = .returned (.bool (opR c).ends) ∧ Below w.heap.size w w' := by
  go_enter Tryd.func51, Tryd.ntmps51
  go_wp2_with (go_at_call 61; refine stop_o ?_)
  unfold StopO
  refine (rof_any _ _).mono ?_
  unfold rowC
  rintro e w1 ⟨rfl, hb⟩
  have hb5 := hb.alloc hb.size (.cells #[.int .i64 (opR c).code, .string (opR c).name, .int .i64 (opR c).imm, .int .i64 (opR c).inn, .int .i64 (opR c).out, .int .i64 (opR c).gas, .bool (opR c).ends] 82)
  go_wp2
  go_ret
  exact ⟨rfl, hb5⟩
theorem far_any (a b : Int) (w : World) (ha : 0 ≤ a ∧ a < 256) (hb : 0 ≤ b ∧ b < 256) : Calls Tryd.prog 62 #[.int .u8 a, .int .u8 b] w fun e w' => e = .returned (.int .i64 (i16N (256 * a + b))) ∧ Below w.heap.size w w' := by
  have hw1 : wrap64 (a * 256) = a * 256 := by simp only [wrap64]; omega
  have hw2 : wrap64 (a * 256 + b) = a * 256 + b := by simp only [wrap64]; omega
  have hc : 256 * a + b = a * 256 + b := by omega
  rw [hc]
  unfold i16N
  by_cases h : 32768 ≤ a * 256 + b
  · rw [if_pos h]
    have hw3 : wrap64 (a * 256 + b - 65536) = a * 256 + b - 65536 := by simp only [wrap64]; omega
    go_enter Tryd.func62, Tryd.ntmps62
    go_wp2
    go_ret
    exact ⟨rfl, Below.refl _ _⟩
  · rw [if_neg h]
    go_enter Tryd.func62, Tryd.ntmps62
    go_wp2
    go_ret
    exact ⟨rfl, Below.refl _ _⟩
set_option maxHeartbeats 400000 in
set_option maxRecDepth 100000 in
theorem rnames_any (i : Ins) (X : Option Addr) (c : Nat) (w : World) (hc : IntsAt w .u8 X i.imm) (hz : ∀ z ∈ i.imm, 0 ≤ z ∧ z < 256) (hl : i.imm.length = 2) :
    Calls Tryd.prog 48 #[insV i (.slice X i.imm.length c)] w fun e w' => e = .returned (.int .i64 (pairN i.imm 0)) ∧ Below w.heap.size w w' := by
  obtain ⟨y, rfl, hx0⟩ := hc 0 (by omega)
  obtain ⟨y', hy, hx1⟩ := hc 1 (by omega)
  cases hy
  have ha := hz (i.imm.getD 0 0) (by rw [List.getD_eq_getElem?_getD, List.getElem?_eq_getElem (by omega)]; simp)
  have hb := hz (i.imm.getD 1 0) (by rw [List.getD_eq_getElem?_getD, List.getElem?_eq_getElem (by omega)]; simp)
  have hd : pairN i.imm 0 = i.imm.getD 0 0 * 256 + i.imm.getD 1 0 := by unfold pairN; rw [Int.mul_comm]
  rw [hd, hl]
  generalize i.imm.getD 0 0 = a at hx0 ha
  generalize i.imm.getD 1 0 = b at hx1 hb
  have hy1 : w.cell? ⟨y.block, y.off + 1, none⟩ = some (.int .u8 b) := by rw [← hx1]; unfold Addr.add; rw [if_neg (by omega)]
  have hy0 : w.cell? y = some (.int .u8 a) := by rw [← hx0]; rfl
  clear hx1 hx0 hd hc hz hl
  obtain ⟨at_, code, imm, next⟩ := i
  unfold insV
  dsimp only at *
  have hb0 : Below w.heap.size w (w.alloc (.cells #[.int .i64 at_, .int .i64 code, .slice (some y) 2 c, .int .i64 next] 94)) := (Below.refl _ _).alloc (Nat.le_refl _) _
  obtain ⟨q0, q1, q2, q3, qz, ql⟩ := cells4 (heap_alloc_new w (.cells #[.int .i64 at_, .int .i64 code, .slice (some y) 2 c, .int .i64 next] 94))
  have u0 := cell_later hb0 hy0
  have u1 := cell_later hb0 hy1
  have hwa : IntKind.i64.wrap a = a := by rw [IntKind.wrap_i64]; omega
  have hwb : IntKind.i64.wrap b = b := by rw [IntKind.wrap_i64]; omega
  have hwt : wrap64 (a * 256) = a * 256 := by unfold wrap64; omega
  have hwu : wrap64 (a * 256 + b) = a * 256 + b := by unfold wrap64; omega
  clear hy0 hy1
  go_enter Tryd.func48, Tryd.ntmps48
  go_wp2
  go_quiet (fail)
  go_wp2
  go_ret
  exact ⟨rfl, below_drewN hb0 _⟩
end Go.Proofs.YtfjmdffhfjnopaaDoor
/- vouchref7.Leads: where an instruction's jumps lead. -/
namespace Go.Proofs.YtfjmdffhfjnopaaDoor
open Go.RowKit Vouch Go.Vk Go.Sort
theorem wrap_small7 {a : Int} (h0 : 0 ≤ a) (h1 : a ≤ 1000000) : wrap64 a = a := by unfold wrap64; omega
theorem iwrap_small7 {a : Int} (h0 : -10000000 ≤ a) (h1 : a ≤ 10000000) : IntKind.i64.wrap a = a := by rw [IntKind.wrap_i64]; omega
theorem meas7 {a m : Nat} {x : Value} (hx : x = .int .i64 ((m + 2 : Nat) : Int)) (h : m < a) : a - (intOf x).toNat < a - (intOf (.int .i64 (m : Int))).toNat := by
  rw [hx]
  simp only [intOf, Int.toNat_natCast]
  omega
theorem wrap_both7 {a : Int} (h0 : -10000000 ≤ a) (h1 : a ≤ 10000000) : wrap64 a = a := by unfold wrap64; omega
set_option maxHeartbeats 1000000 in
set_option maxRecDepth 100000 in
theorem rleads7_table (i : Ins) (X : Option Addr) (c : Nat) (w : World) (hc : IntsAt w .u8 X i.imm) (hz : ∀ z ∈ i.imm, 0 ≤ z ∧ z < 256) (hs : standsI i = true) (hn : i.imm.length ≤ 140737488355328) (hq : i.code = 226) :
    Calls Tryd.prog 52 #[insV i (.slice X i.imm.length c)] w fun e w' => ∃ v, e = .returned v ∧ w'.ownsRow w.heap.size 3 1 v (leadsI i).length (intVs (leadsI i)) ∧ Below w.heap.size w w' := by
  obtain ⟨i0, hi, hz0, hz1, hz2⟩ := info_parts infoInt
  obtain ⟨fr, cnt, hL, hcnt, hfc, hlen, hcode⟩ := leads_form hz hs
  have HLN := Lib.hid (fun k => distN_range hz k)
  have HOLD := Lib.hid hL
  have HC := Lib.hid hc
  have HZ := Lib.hid hz
  have HX := Lib.hid (fun k (hk : k < i.imm.length) => hz (i.imm.getD k 0) (by rw [List.getD_eq_getElem?_getD, List.getElem?_eq_getElem hk]; simp))
  clear hc hz hL hs
  obtain ⟨at_, code, imm, next⟩ := i
  unfold insV
  dsimp only at *
  have hb0 : Below w.heap.size w (w.alloc (.cells #[.int .i64 at_, .int .i64 code, .slice X imm.length c, .int .i64 next] 94)) := (Below.refl _ _).alloc (Nat.le_refl _) _
  have hg1 := heap_alloc_new w (.cells #[.int .i64 at_, .int .i64 code, .slice X imm.length c, .int .i64 next] 94)
  have HCNT := Lib.hid hlen
  have HFC := Lib.hid hfc
  obtain ⟨rfl, rfl, h⟩ : code = 226 ∧ fr = 1 ∧ fr + 2 * cnt = imm.length := by rcases hcode with h | ⟨h4, h5, h6⟩ | ⟨n1, n2, n3, h4, h5⟩ <;> first | exact h | omega
  · have hfl := h
    have hlq : ¬ cnt = 0 → imm.length ≤ 600 := fun h0 => (hlen.resolve_left h0).1
    have HFL := Lib.hid hfl
    have HLQ := Lib.hid hlq
    obtain ⟨q0, q1, q2, q3, qz, ql⟩ := cells4 hg1
    clear hlen hfc h hfl hlq
    go_enter Tryd.func52, Tryd.ntmps52
    go_wp2
    go_loopw [3, 4] (fun vl vk wr => ∃ k m : Nat, vk = .int .i64 m ∧ Hid (m = 1 + 2 * k) ∧ k ≤ cnt ∧ wr.ownsRow w.heap.size 3 1 vl k (intVs (leadsN imm 1 k next)) ∧ Below w.heap.size w wr ∧ wr.heap[w.heap.size]? = some (.cells #[.int .i64 at_, .int .i64 226, .slice X imm.length c, .int .i64 next] 94 (0, 0))) (fun _ vk _ => 1 + 2 * cnt - (intOf vk).toNat)
    case atStart => exact ⟨0, 1, rfl, Lib.hid rfl, Nat.zero_le _, World.ownsRow_nil _ _ _ _, hb0, hg1⟩
    case round =>
      obtain ⟨k, m, rfl, HM, hk, hown, hB, hgw⟩ := hrel
      have hm := HM.out
      obtain ⟨Xp, cp, rfl⟩ := owns_shape hown
      clear q0 q1 q2 q3 qz ql
      by_cases hlt : k < cnt
      · have hl6 := HLQ.out (by omega)
        have hfl := HFL.out
        have hnx := (HCNT.out.resolve_left (by omega)).2
        obtain ⟨y, rfl, hx0⟩ := HC.out m (by omega)
        obtain ⟨y', hy, hx1⟩ := HC.out (m + 1) (by omega)
        cases hy
        rw [show y.add (m + 1) = ⟨y.block, y.off + (m + 1), none⟩ by unfold Addr.add; rw [if_neg (by omega)]] at hx1
        have ha := HX.out m (by omega)
        have hb := HX.out (m + 1) (by omega)
        have hdr := HLN.out m
        have hT := leadsN_snoc imm 1 k next
        rw [← hm] at hT
        have HT := Lib.hid hT
        clear hT
        have hd : distN imm m = i16N (256 * imm.getD m 0 + imm.getD (m + 1) 0) := rfl
        have HD := Lib.hid hd
        clear hd
        rw [HD.out] at HT hdr
        generalize imm.getD m 0 = a at hx0 ha HT hdr
        generalize imm.getD (m + 1) 0 = b at hx1 hb HT hdr
        clear HD
        have HP := Lib.hid (fun w4 => far_any a b w4 ha hb)
        generalize i16N (256 * a + b) = d at hdr HT HP
        have hw3 : IntKind.i64.wrap (next + d) = next + d := iwrap_small7 (by omega) (by omega)
        have hw4 : wrap64 (next + d) = next + d := wrap_both7 (by omega) (by omega)
        have HNE := Lib.hid (show some w.heap.size ≠ (Value.slice Xp k cp).ownBlock from fun e => own_type hgw hown (by decide) _ e.symm rfl)
        have HOWN := Lib.hid hown
        obtain ⟨r0, r1, r2, r3, rz, rl⟩ := cells4 hgw
        have hyb : (y.add m).block < w.heap.size := block_lt_of_cell hx0
        have hyb1 : y.block < w.heap.size := (block_lt_of_cell hx1 : (⟨y.block, y.off + (m + 1), none⟩ : Addr).block < w.heap.size)
        have hx0' := cell_later hB hx0
        have hx1' := cell_later hB hx1
        have HYN := Lib.hid (⟨fun e => by have := (hown.lt _ e.symm).1; omega, fun e => by have := (hown.lt _ e.symm).1; omega⟩ : some (y.add m).block ≠ (Value.slice Xp k cp).ownBlock ∧ some y.block ≠ (Value.slice Xp k cp).ownBlock)
        clear hown
        have s0 : wr.drew.cell? ⟨w.heap.size, 3, none⟩ = some (.int .i64 next) := r3
        have s1 : wr.drew.cell? ⟨w.heap.size, 2, none⟩ = some (.slice (some y) imm.length c) := r2
        have s2 : wr.drew.cell? (y.add m) = some (.int .u8 a) := hx0'
        have s3 : wr.drew.cell? ⟨y.block, y.off + (m + 1), none⟩ = some (.int .u8 b) := hx1'
        have hs2 : w.heap.size < wr.heap.size := rl
        have hm0 : (0 : Int) ≤ (m : Int) := by omega
        have hm1 : (m : Int) < (imm.length : Int) := by omega
        have hm2 : (m : Int) + 1 < (imm.length : Int) := by omega
        have hm3 : (0 : Int) ≤ (m : Int) + 1 := by omega
        have hm4 : ((m : Int) + 1).toNat = m + 1 := by omega
        have hw5 : wrap64 ((m : Int) + 1) = (m : Int) + 1 := wrap_both7 (by omega) (by omega)
        have hw6 : IntKind.i64.wrap ((m : Int) + 1) = (m : Int) + 1 := iwrap_small7 (by omega) (by omega)
        have HMB := Lib.hid (⟨by omega, by omega⟩ : (0 : Int) ≤ (m : Int) + 2 ∧ (m : Int) + 2 ≤ 1000000)
        clear hm
        go_wp2
        go_region_held3 (fun w' => w'.cell? ⟨w.heap.size, 3, none⟩ = some (.int .i64 next) ∧ w'.cell? ⟨w.heap.size, 2, none⟩ = some (.slice (some y) imm.length c) ∧ w'.cell? (y.add m) = some (.int .u8 a) ∧ w'.cell? ⟨y.block, y.off + (m + 1), none⟩ = some (.int .u8 b)) ((refine ⟨?_, ?_, ?_, ?_⟩ <;> first | exact s0 | exact s1 | exact s2 | exact s3 | exact cell_later hb5 s0 | exact cell_later hb5 s1 | exact cell_later hb5 s2 | exact cell_later hb5 s3 | exact cell_later ((Below.refl _ _).alloc (Nat.le_refl _) _) (cell_later hb5 s0) | exact cell_later ((Below.refl _ _).alloc (Nat.le_refl _) _) (cell_later hb5 s1) | exact cell_later ((Below.refl _ _).alloc (Nat.le_refl _) _) (cell_later hb5 s2) | exact cell_later ((Below.refl _ _).alloc (Nat.le_refl _) _) (cell_later hb5 s3) | exact h60 | exact h61 | exact h62 | exact h63))
            (first
              | (go_at_call 62; refine (HP.out _).mono ?_; rintro e w5 ⟨rfl, hb5⟩)
              | (refine step_append_lies _ rfl _ _ 43 rfl w.heap.size 3 i0 (.int .i64 0) 1 8 Tryd.underlying43 hi hz0 hz1 hz2 rfl (by decide) _ k _ rfl ((own_below (W := wr.drew) HOWN.out hb5).alloc _) ⟨w5.heap.size, 0, none⟩ 1 1 [.int .i64 (next + d)] rfl rfl (cells_fresh w5 #[.int .i64 (next + d)] _ _ rfl) (by intro u hu; simp at hu; subst hu; rfl) (by decide) (by unfold maxLen; omega) (by omega) (by have := hB.drew.size; have := hb5.size; simp; omega) _ rfl ?_; intro g6 c6 w6 hown6 hgrow6 hat6 hlt6; have h60 : w6.cell? ⟨w.heap.size, 3, none⟩ = _ := (hgrow6.cell_far ⟨w.heap.size, 3, none⟩ (Nat.lt_of_lt_of_le (hs2) (Nat.le_trans (show wr.heap.size ≤ w5.heap.size from hb5.size) (by simp))) HNE.out).trans (cell_later ((Below.refl _ _).alloc (Nat.le_refl _) _) (cell_later hb5 s0)); have h61 : w6.cell? ⟨w.heap.size, 2, none⟩ = _ := (hgrow6.cell_far ⟨w.heap.size, 2, none⟩ (Nat.lt_of_lt_of_le (hs2) (Nat.le_trans (show wr.heap.size ≤ w5.heap.size from hb5.size) (by simp))) HNE.out).trans (cell_later ((Below.refl _ _).alloc (Nat.le_refl _) _) (cell_later hb5 s1)); have h62 : w6.cell? (y.add m) = _ := (hgrow6.cell_far (y.add m) (Nat.lt_of_lt_of_le (Nat.lt_of_lt_of_le hyb hB.size) (Nat.le_trans (show wr.heap.size ≤ w5.heap.size from hb5.size) (by simp))) HYN.out.1).trans (cell_later ((Below.refl _ _).alloc (Nat.le_refl _) _) (cell_later hb5 s2)); have h63 : w6.cell? ⟨y.block, y.off + (m + 1), none⟩ = _ := (hgrow6.cell_far ⟨y.block, y.off + (m + 1), none⟩ (Nat.lt_of_lt_of_le (Nat.lt_of_lt_of_le hyb1 hB.size) (Nat.le_trans (show wr.heap.size ≤ w5.heap.size from hb5.size) (by simp))) HYN.out.2).trans (cell_later ((Below.refl _ _).alloc (Nat.le_refl _) _) (cell_later hb5 s3))))
        have hb6 : Below w.heap.size w (w5.alloc (.cells #[.int .i64 (next + d)] 3)) := (hB.drew.trans (hb5.mono hB.drew.size)).alloc (by have := hB.drew.size; have := hb5.size; omega) _
        have hB6 := bel_own hb6 ((own_below (W := wr.drew) HOWN.out hb5).alloc _) (Nat.le_refl _) hgrow6
        have hg6 : w6.heap[w.heap.size]? = _ := (hgrow6.block w.heap.size (Nat.lt_of_lt_of_le hs2 (Nat.le_trans (show wr.heap.size ≤ w5.heap.size from hb5.size) (by simp))) HNE.out).trans (kept_of ((hb5.trans ((Below.refl _ _).alloc hb5.size _))) (show wr.drew.heap[w.heap.size]? = _ from hgw))
        have hown7 : w6.ownsRow w.heap.size 3 1 (.slice (some ⟨g6, 0, none⟩) (k + 1) c6) (k + 1) (intVs (leadsN imm 1 (k + 1) next)) := by rw [HT.out]; unfold intVs; rw [List.map_append]; exact hown6
        have HF := Lib.hid (⟨hown7, hB6, hg6⟩ : _ ∧ _ ∧ _)
        have hw8 : wrap64 ((m : Int) + 2) = (m : Int) + 2 := wrap_small7 HMB.out.1 HMB.out.2
        have hw9 : ((m + 2 : Nat) : Int) = (m : Int) + 2 := by omega
        have HW9 := Lib.hid hw9
        clear r0 r1 r2 r3 rz rl s0 s1 s2 s3 h60 h61 h62 h63 hw3 hw4 hw5 hw6 hx0' hx1' hm0 hm1 hm2 hm3 hm4 hown6 hgrow6 hat6 hlt6 hb6 hb5 hown7 hB6 hg6 hw9 hdr ha hb hnx hfl hl6 hyb hyb1 hs2 hgw hx0 hx1
        go_wp2
        refine ⟨⟨k + 1, m + 2, congrArg (Value.int .i64) (hw8.trans HW9.out.symm), Lib.hid (by have := HM.out; omega), by omega, HF.out.1, HF.out.2.1, HF.out.2.2⟩, ?_⟩
        exact meas7 (congrArg (Value.int .i64) (hw8.trans HW9.out.symm)) (by have := HM.out; omega)
      · obtain rfl : k = cnt := by omega
        have HOWN := Lib.hid hown
        have hfl := HFL.out
        have hlt1 : ¬ (m : Int) + 1 < (imm.length : Int) := by omega
        have hw5 : wrap64 ((m : Int) + 1) = (m : Int) + 1 := wrap_both7 (by omega) (by omega)
        clear hm
        obtain ⟨r0, r1, r2, r3, rz, rl⟩ := cells4 hgw
        clear hown hfl
        go_wp2
        go_ret
        refine ⟨_, rfl, ?_, hB⟩
        rw [HOLD.out, leadsN_length]
        exact HOWN.out
end Go.Proofs.YtfjmdffhfjnopaaDoor
/- vouchref7.Leads: where an instruction's jumps lead. -/
namespace Go.Proofs.YtfjmdffhfjnopaaDoor
open Go.RowKit Vouch Go.Vk Go.Sort
set_option maxHeartbeats 1000000 in
set_option maxRecDepth 100000 in
theorem rleads7_jump (i : Ins) (X : Option Addr) (c : Nat) (w : World) (hc : IntsAt w .u8 X i.imm) (hz : ∀ z ∈ i.imm, 0 ≤ z ∧ z < 256) (hs : standsI i = true) (hn : i.imm.length ≤ 140737488355328) (hq : i.code = 224 ∨ i.code = 225) :
    Calls Tryd.prog 52 #[insV i (.slice X i.imm.length c)] w fun e w' => ∃ v, e = .returned v ∧ w'.ownsRow w.heap.size 3 1 v (leadsI i).length (intVs (leadsI i)) ∧ Below w.heap.size w w' := by
  obtain ⟨i0, hi, hz0, hz1, hz2⟩ := info_parts infoInt
  obtain ⟨fr, cnt, hL, hcnt, hfc, hlen, hcode⟩ := leads_form hz hs
  have HLN := Lib.hid (fun k => distN_range hz k)
  have HOLD := Lib.hid hL
  have HC := Lib.hid hc
  have HZ := Lib.hid hz
  have HX := Lib.hid (fun k (hk : k < i.imm.length) => hz (i.imm.getD k 0) (by rw [List.getD_eq_getElem?_getD, List.getElem?_eq_getElem hk]; simp))
  clear hc hz hL hs
  obtain ⟨at_, code, imm, next⟩ := i
  unfold insV
  dsimp only at *
  have hb0 : Below w.heap.size w (w.alloc (.cells #[.int .i64 at_, .int .i64 code, .slice X imm.length c, .int .i64 next] 94)) := (Below.refl _ _).alloc (Nat.le_refl _) _
  have hg1 := heap_alloc_new w (.cells #[.int .i64 at_, .int .i64 code, .slice X imm.length c, .int .i64 next] 94)
  have HCNT := Lib.hid hlen
  have HFC := Lib.hid hfc
  obtain ⟨h4, rfl, rfl⟩ : (code = 224 ∨ code = 225) ∧ fr = 0 ∧ cnt = 1 := by rcases hcode with h | ⟨h4, h5, h6⟩ | ⟨n1, n2, n3, h4, h5⟩ <;> first | exact ⟨h4, h5, h6⟩ | omega
  · have hl6 := (hlen.resolve_left (by decide)).1
    have hnx := (hlen.resolve_left (by decide)).2
    obtain ⟨y, hX, hx0⟩ := (show IntsAt w .u8 X imm from HC.out) 0 (by omega)
    subst hX
    obtain ⟨y2, hy, hx1⟩ := (show IntsAt w .u8 (some y) imm from HC.out) 1 (by omega)
    cases hy
    rw [show y.add 1 = ⟨y.block, y.off + 1, none⟩ by unfold Addr.add; rw [if_neg (by omega)]] at hx1
    rw [show y.add 0 = y from rfl] at hx0
    have ha := HX.out 0 (by omega)
    have hb := HX.out 1 (by omega)
    have hdr := HLN.out 0
    have HT := Lib.hid (leadsN_snoc imm 0 0 next)
    have hd : distN imm 0 = i16N (256 * imm.getD 0 0 + imm.getD 1 0) := rfl
    have hd2 : leadsN imm 0 1 next = [next + distN imm 0] := rfl
    have HOL2 := Lib.hid hd2
    have hnt : 1 < imm.length := by omega
    have hnt3 : 0 < imm.length := by omega
    have hnt4 : ¬ (imm.length : Int) ≤ 0 := by omega
    have hnt0 : (0 : Int) < (imm.length : Int) := by omega
    have hnt1 : (1 : Int) < (imm.length : Int) := by omega
    rw [hd] at hdr HOL2
    generalize imm.getD 0 0 = a at hx0 ha hdr HOL2
    generalize imm.getD 1 0 = b at hx1 hb hdr HOL2
    clear hd hd2 HT hcnt hfc hlen HCNT HFC
    have HP := Lib.hid (fun w4 => far_any a b w4 ha hb)
    generalize i16N (256 * a + b) = d at hdr HP HOL2
    have hw3 : IntKind.i64.wrap (next + d) = next + d := by rw [IntKind.wrap_i64]; omega
    have hw4 : wrap64 (next + d) = next + d := by unfold wrap64; omega
    have hyb : y.block < w.heap.size := block_lt_of_cell hx0
    have hyb1 := hyb
    have hx0' := cell_later hb0 hx0
    have hx1' := cell_later hb0 hx1
    have hcod : (code == 224) = true ∨ (code == 224) = false ∧ (code == 225) = true := by
      rcases h4 with rfl | rfl
      · exact .inl rfl
      · exact .inr ⟨rfl, rfl⟩
    generalize hW0 : w.alloc (.cells #[.int .i64 at_, .int .i64 code, .slice (some y) imm.length c, .int .i64 next] 94) = wr at hb0 hg1 hx0' hx1'
    obtain ⟨q0, q1, q2, q3, qz, ql⟩ := cells4 hg1
    have hown0 : wr.ownsRow w.heap.size 3 1 (.slice none 0 0) 0 [] := World.ownsRow_nil _ _ _ _
    have HOWN := Lib.hid hown0
    have hB := hb0
    have hgw := hg1
    have HNE := Lib.hid (show some w.heap.size ≠ (Value.slice none 0 0).ownBlock from fun e => by cases e)
    have HYN := Lib.hid ((⟨(fun e => by cases e), (fun e => by cases e)⟩) : some y.block ≠ (Value.slice none 0 0).ownBlock ∧ some y.block ≠ (Value.slice none 0 0).ownBlock)
    have s0 : wr.drew.cell? ⟨w.heap.size, 3, none⟩ = some (.int .i64 next) := q3
    have s1 : wr.drew.cell? ⟨w.heap.size, 2, none⟩ = some (.slice (some y) imm.length c) := q2
    have s2 : wr.drew.cell? y = some (.int .u8 a) := hx0'
    have s3 : wr.drew.cell? ⟨y.block, y.off + 1, none⟩ = some (.int .u8 b) := hx1'
    have hs2 : w.heap.size < wr.heap.size := ql
    obtain ⟨k, hk⟩ : ∃ k : Nat, k = 0 := ⟨0, rfl⟩
    clear hown0 hb0 hg1
    rcases hcod with e1 | ⟨e1, e2⟩
    all_goals
      go_enter Tryd.func52, Tryd.ntmps52
      go_upto_region 5 with fail
      go_region_held3 (fun w' => w'.cell? ⟨w.heap.size, 3, none⟩ = some (.int .i64 next) ∧ w'.cell? ⟨w.heap.size, 2, none⟩ = some (.slice (some y) imm.length c) ∧ w'.cell? y = some (.int .u8 a) ∧ w'.cell? ⟨y.block, y.off + 1, none⟩ = some (.int .u8 b)) ((refine ⟨?_, ?_, ?_, ?_⟩ <;> first | exact s0 | exact s1 | exact s2 | exact s3 | exact cell_later hb5 s0 | exact cell_later hb5 s1 | exact cell_later hb5 s2 | exact cell_later hb5 s3 | exact cell_later ((Below.refl _ _).alloc (Nat.le_refl _) _) (cell_later hb5 s0) | exact cell_later ((Below.refl _ _).alloc (Nat.le_refl _) _) (cell_later hb5 s1) | exact cell_later ((Below.refl _ _).alloc (Nat.le_refl _) _) (cell_later hb5 s2) | exact cell_later ((Below.refl _ _).alloc (Nat.le_refl _) _) (cell_later hb5 s3) | exact h60 | exact h61 | exact h62 | exact h63))
          (first
            | (go_at_call 62; refine (HP.out _).mono ?_; rintro e w5 ⟨rfl, hb5⟩)
            | (refine step_append_lies _ rfl _ _ 43 rfl w.heap.size 3 i0 (.int .i64 0) 1 8 Tryd.underlying43 hi hz0 hz1 hz2 rfl (by decide) _ 0 _ rfl ((own_below (W := wr.drew) HOWN.out hb5).alloc _) ⟨w5.heap.size, 0, none⟩ 1 1 [.int .i64 (next + d)] rfl rfl (cells_fresh w5 #[.int .i64 (next + d)] _ _ rfl) (by intro u hu; simp at hu; subst hu; rfl) (by decide) (by unfold maxLen; omega) (by omega) (by have := hB.drew.size; have := hb5.size; simp; omega) _ rfl ?_; intro g6 c6 w6 hown6 hgrow6 hat6 hlt6; have h60 : w6.cell? ⟨w.heap.size, 3, none⟩ = _ := (hgrow6.cell_far ⟨w.heap.size, 3, none⟩ (Nat.lt_of_lt_of_le (hs2) (Nat.le_trans (show wr.heap.size ≤ w5.heap.size from hb5.size) (by simp))) HNE.out).trans (cell_later ((Below.refl _ _).alloc (Nat.le_refl _) _) (cell_later hb5 s0)); have h61 : w6.cell? ⟨w.heap.size, 2, none⟩ = _ := (hgrow6.cell_far ⟨w.heap.size, 2, none⟩ (Nat.lt_of_lt_of_le (hs2) (Nat.le_trans (show wr.heap.size ≤ w5.heap.size from hb5.size) (by simp))) HNE.out).trans (cell_later ((Below.refl _ _).alloc (Nat.le_refl _) _) (cell_later hb5 s1)); have h62 : w6.cell? y = _ := (hgrow6.cell_far y (Nat.lt_of_lt_of_le (Nat.lt_of_lt_of_le hyb hB.size) (Nat.le_trans (show wr.heap.size ≤ w5.heap.size from hb5.size) (by simp))) HYN.out.1).trans (cell_later ((Below.refl _ _).alloc (Nat.le_refl _) _) (cell_later hb5 s2)); have h63 : w6.cell? ⟨y.block, y.off + 1, none⟩ = _ := (hgrow6.cell_far ⟨y.block, y.off + 1, none⟩ (Nat.lt_of_lt_of_le (Nat.lt_of_lt_of_le hyb1 hB.size) (Nat.le_trans (show wr.heap.size ≤ w5.heap.size from hb5.size) (by simp))) HYN.out.2).trans (cell_later ((Below.refl _ _).alloc (Nat.le_refl _) _) (cell_later hb5 s3))))
      have hb6 : Below w.heap.size w (w5.alloc (.cells #[.int .i64 (next + d)] 3)) := (hB.drew.trans (hb5.mono hB.drew.size)).alloc (by have := hB.drew.size; have := hb5.size; omega) _
      have hB6 := bel_own hb6 ((own_below (W := wr.drew) HOWN.out hb5).alloc _) (Nat.le_refl _) hgrow6
      have hg6 : w6.heap[w.heap.size]? = _ := (hgrow6.block w.heap.size (Nat.lt_of_lt_of_le hs2 (Nat.le_trans (show wr.heap.size ≤ w5.heap.size from hb5.size) (by simp))) HNE.out).trans (kept_of ((hb5.trans ((Below.refl _ _).alloc hb5.size _))) (show wr.drew.heap[w.heap.size]? = _ from hgw))
      clear s0 s1 s2 s3 h60 h61 h62 h63 hw3 hw4 hx0' hx1'
      go_wp2
      go_ret
      refine ⟨_, rfl, ?_, hB6⟩
      rw [HOLD.out, HOL2.out]
      exact hown6
end Go.Proofs.YtfjmdffhfjnopaaDoor
/- vouchref7.Leads: where an instruction's jumps lead, of every instruction that stands. -/
namespace Go.Proofs.YtfjmdffhfjnopaaDoor
open Go.RowKit Vouch Go.Vk Go.Sort
set_option maxHeartbeats 1000000 in
set_option maxRecDepth 100000 in
theorem rleads7_any (i : Ins) (X : Option Addr) (c : Nat) (w : World) (hc : IntsAt w .u8 X i.imm) (hz : ∀ z ∈ i.imm, 0 ≤ z ∧ z < 256) (hs : standsI i = true) (hn : i.imm.length ≤ 140737488355328) :
    Calls Tryd.prog 52 #[insV i (.slice X i.imm.length c)] w fun e w' => ∃ v, e = .returned v ∧ w'.ownsRow w.heap.size 3 1 v (leadsI i).length (intVs (leadsI i)) ∧ Below w.heap.size w w' := by
  by_cases h6 : i.code = 226
  · exact rleads7_table i X c w hc hz hs hn h6
  by_cases h45 : i.code = 224 ∨ i.code = 225
  · exact rleads7_jump i X c w hc hz hs hn h45
  obtain ⟨fr, cnt, hL, hcnt, hfc, hlen, hcode⟩ := leads_form hz hs
  have HOLD := Lib.hid hL
  clear hc hz hL hs
  obtain ⟨at_, code, imm, next⟩ := i
  unfold insV
  dsimp only at *
  have hb0 : Below w.heap.size w (w.alloc (.cells #[.int .i64 at_, .int .i64 code, .slice X imm.length c, .int .i64 next] 94)) := (Below.refl _ _).alloc (Nat.le_refl _) _
  have hg1 := heap_alloc_new w (.cells #[.int .i64 at_, .int .i64 code, .slice X imm.length c, .int .i64 next] 94)
  obtain ⟨n1, n2, n3, rfl, rfl⟩ : code ≠ 224 ∧ code ≠ 225 ∧ code ≠ 226 ∧ fr = 0 ∧ cnt = 0 := by rcases hcode with ⟨h1, _⟩ | ⟨h4, _⟩ | h <;> first | exact h | exact absurd h1 h6 | exact absurd h4 h45
  · have e1 : (code == 224) = false := by rw [beq_eq_false_iff_ne]; exact n1
    have e2 : (code == 225) = false := by rw [beq_eq_false_iff_ne]; exact n2
    have e3 : (code == 226) = false := by rw [beq_eq_false_iff_ne]; exact n3
    obtain ⟨q0, q1, q2, q3, qz, ql⟩ := cells4 hg1
    go_enter Tryd.func52, Tryd.ntmps52
    go_wp2
    go_ret
    refine ⟨_, rfl, ?_, hb0⟩
    rw [HOLD.out]
    exact World.ownsRow_nil _ _ _ _
end Go.Proofs.YtfjmdffhfjnopaaDoor
/- vouchref7.Read: the instructions of a section, read by the document's answer. -/
namespace Go.Proofs.YtfjmdffhfjnopaaDoor
open Go.RowKit Vouch Go.Vk Go.Sort
attribute [local go_sem] Oper.semAt_some
theorem infoIns7 : (Tryd.prog.info? 94).map (fun i => (i.zero, i.size, i.bytes)) = some (some (.agg #[.int .i64 0, .int .i64 0, .slice none 0 0, .int .i64 0]), 4, 48) := by kernel_rfl
/-- Instructions whose immediate bytes are parts of the section's bytes. -/
def PartsAt (w : World) (xs : List El) : Prop := ∀ x ∈ xs, ∃ X c, x.2 = .slice X x.1.imm.length c ∧ IntsAt w .u8 X x.1.imm
/-- Is a section read to its end, which ends it? -/
def wholeB (bs : List Int) : Bool := decide ((scanE bs (allI bs)).1 = 0)
theorem take_fst7 {xs : List El} {k : Nat} {y : El} (hy : xs[k]? = some y) : (xs.map Prod.fst).take (k + 1) = (xs.map Prod.fst).take k ++ [y.1] := by
  obtain ⟨hk, rfl⟩ := List.getElem?_eq_some_iff.1 hy
  rw [List.take_succ_eq_append_getElem (by simpa using hk)]
  simp
def ReadOut7 (bs : List Int) (w : World) (e : Ending) (w' : World) : Prop :=
  ∃ (xs : List El) (v : Value), xs.map Prod.fst = allI bs ∧ e = .returned (.tuple #[v, .bool (wholeB bs)]) ∧ w'.ownsRow w.heap.size 94 4 v xs.length (insCells xs) ∧ PartsAt w xs ∧ Below w.heap.size w w'
theorem read7_all {bs : List Int} {xs : List El} {p : Int} (h : Reads bs (xs.map Prod.fst) p) (he : (readE bs p).1 ≠ 0) : xs.map Prod.fst = allI bs := allOf_allI ⟨p, h, he⟩
theorem whole_no {bs : List Int} {xs : List El} {p : Int} (h : Reads bs (xs.map Prod.fst) p) (he : (readE bs p).1 ≠ 0) (hp : p < bs.length) : wholeB bs = false := by
  unfold wholeB
  refine decide_eq_false ?_
  rw [← read7_all h he]
  unfold scanE
  rw [← reads_next h, if_pos hp]
  exact he
theorem whole_end {bs : List Int} {xs : List El} {p : Int} (h : Reads bs (xs.map Prod.fst) p) (hp : ¬ p < bs.length) : (readE bs p).1 ≠ 0 ∧ wholeB bs = (decide (0 < xs.length) && (opR (((xs.map Prod.fst).getLast?.map Ins.code).getD 0)).ends) := by
  have he : (readE bs p).1 ≠ 0 := by unfold readE; rw [if_pos (.inr (by omega))]; decide
  refine ⟨he, ?_⟩
  unfold wholeB
  rw [← read7_all h he]
  unfold scanE
  rw [← reads_next h, if_neg hp]
  by_cases hn : xs = []
  · subst hn; rfl
  · have hn' : xs.map Prod.fst ≠ [] := fun h => hn (List.map_eq_nil_iff.1 h)
    rw [if_neg hn', decide_eq_true (List.length_pos_iff.2 hn), Bool.true_and]
    cases hb : (opR (((xs.map Prod.fst).getLast?.map Ins.code).getD 0)).ends with
    | true => rfl
    | false => rfl
theorem readOut7_mk {bs : List Int} {w : World} {e : Ending} {w' : World} (xs : List El) (v : Value) (b : Bool) (h1 : xs.map Prod.fst = allI bs) (h2 : wholeB bs = b) (he : e = .returned (.tuple #[v, .bool b])) (ho : w'.ownsRow w.heap.size 94 4 v xs.length (insCells xs)) (hp : PartsAt w xs) (hb : Below w.heap.size w w') : ReadOut7 bs w e w' := ⟨xs, v, h1, by rw [h2]; exact he, ho, hp, hb⟩
set_option maxHeartbeats 1000000 in
set_option maxRecDepth 100000 in
theorem rread7_any (bs : List Int) (A : Option Addr) (cap : Nat) (w : World) (hc : IntsAt w .u8 A bs) (hz : ∀ z ∈ bs, 0 ≤ z ∧ z < 256) (hn : bs.length ≤ 1048576) (hcap : bs.length ≤ cap) :
    Calls Tryd.prog 47 #[.slice A bs.length cap] w (ReadOut7 bs w) := by
  obtain ⟨i0, hi, hz0, hz1, hz2⟩ := info_parts infoIns7
  have HC := Lib.hid hc
  have HZ := Lib.hid hz
  clear hc hz
  go_enter Tryd.func47, Tryd.ntmps47
  go_wp2
  go_loopw [4, 5] (fun vl vp wr => ∃ (xs : List El) (p : Nat), vp = .int .i64 p ∧ Reads bs (xs.map Prod.fst) p ∧ wr.ownsRow w.heap.size 94 4 vl xs.length (insCells xs) ∧ PartsAt w xs ∧ Below w.heap.size w wr) (fun _ vp _ => bs.length - (intOf vp).toNat)
  case atStart => exact ⟨[], 0, rfl, .nil, World.ownsRow_nil _ _ _ _, (fun x hx => by cases hx), Below.refl _ _⟩
  case round =>
    obtain ⟨xs, p, rfl, hrd, hown, hpa, hB⟩ := hrel
    have hxl := reads_length hrd
    rw [List.length_map] at hxl
    have hpb := reads_pos hrd
    have HRD := Lib.hid hrd
    have HOWN := Lib.hid hown
    have HPA := Lib.hid hpa
    clear hrd hpa
    by_cases hlt : p < bs.length
    · have hlt1 : (p : Int) < (bs.length : Int) := by omega
      obtain ⟨Y, cv, rfl⟩ := owns_shape hown
      obtain ⟨y, rfl, hx⟩ := HC.out p hlt
      have hzb := HZ.out (bs.getD p 0) (by rw [List.getD_eq_getElem?_getD, List.getElem?_eq_getElem (by omega)]; simp)
      have hxr := cell_later hB hx
      cases hop : isOp (bs.getD p 0) with
      | false =>
        have HE := Lib.hid (show (readE bs p).1 ≠ 0 by rw [readE_no hlt hop]; decide)
        generalize bs.getD p 0 = c at hx hzb hop hxr
        clear hown
        have hwc : IntKind.i64.wrap c = c := by rw [IntKind.wrap_i64]; omega
        go_wp2_with (go_at_call 61; refine (rof_any _ _).mono ?_; rw [hop]; unfold rowC; rintro e w1 ⟨rfl, hb⟩)
        refine bodyPost_ret (results_tmp2 rfl _ _ _) rfl (readOut7_mk xs _ false (read7_all HRD.out HE.out) (whole_no HRD.out HE.out hlt1) rfl ((own_below HOWN.out hb).alloc _) HPA.out ((hB.trans (hb.mono hB.size)).alloc (Nat.le_trans hB.size hb.size) _))
      | true =>
        have him := imm_ok _ hzb.1 hzb.2 hop
        have HN := Lib.hid (readE_none hlt hop)
        have HS := Lib.hid (fun n => @readE_short bs p n hlt hop)
        have HO := Lib.hid (fun n => @readE_ok bs p n hlt hop)
        generalize bs.getD p 0 = c at hx hzb hop hxr him HN HS HO
        have hwc : IntKind.i64.wrap c = c := by rw [IntKind.wrap_i64]; omega
        go_wp2_with (go_at_call 61; refine stop_o ?_)
        unfold StopO
        refine (rof_any _ _).mono ?_
        rw [hop]
        unfold rowC
        rintro e w1 ⟨rfl, hb⟩
        have hB1 := hB.trans (hb.mono hB.size)
        by_cases hm : (opR c).imm = -1
        · rw [hm]
          have hB2 := hB1.alloc hB1.size (.cells #[.int .i64 (opR c).code, .string (opR c).name, .int .i64 (-1), .int .i64 (opR c).inn, .int .i64 (opR c).out, .int .i64 (opR c).gas, .bool (opR c).ends] 82)
          obtain ⟨k0, k1, k2, k3, k4, k5, k6, kz, kl⟩ := cells7 (heap_alloc_new w1 (.cells #[.int .i64 (opR c).code, .string (opR c).name, .int .i64 (-1), .int .i64 (opR c).inn, .int .i64 (opR c).out, .int .i64 (opR c).gas, .bool (opR c).ends] 82))
          by_cases hla : bs.length ≤ p + 1
          · have HR := Lib.hid (show (readE bs p).1 ≠ 0 by rw [HN.out (by unfold immL; rw [if_pos hm, if_pos (by rw [List.length_drop]; omega)])]; decide)
            have hge : (bs.length : Int) ≤ (p : Int) + 1 := by omega
            go_wp2
            refine bodyPost_ret (results_tmp2 rfl _ _ _) rfl (readOut7_mk xs _ false (read7_all HRD.out HR.out) (whole_no HRD.out HR.out hlt1) rfl ((own_below HOWN.out hb).alloc _) HPA.out hB2)
          · obtain ⟨y', hy', hx'⟩ := HC.out (p + 1) (by omega)
            cases hy'
            have hzr := HZ.out (bs.getD (p + 1) 0) (by rw [List.getD_eq_getElem?_getD, List.getElem?_eq_getElem (by omega)]; simp)
            have e0 : (bs.drop (p + 1)).getD 0 0 = bs.getD (p + 1) 0 := by simp [List.getD_eq_getElem?_getD]
            obtain ⟨m, hmm⟩ : ∃ m : Nat, 3 + 2 * bs.getD (p + 1) 0 = m := ⟨(3 + 2 * bs.getD (p + 1) 0).toNat, by omega⟩
            have him2 : immL (opR c) (bs.drop (p + 1)) = some m := by unfold immL; rw [if_pos hm, if_neg (by rw [List.length_drop]; omega), e0]; congr 1; omega
            generalize bs.getD (p + 1) 0 = z at hx' hzr hmm
            have hxb := cell_later hB2 hx'
            rw [show y.add (p + 1) = ⟨y.block, y.off + (p + 1), none⟩ by unfold Addr.add; rw [if_neg (by omega)]] at hxb
            have hge : ¬ (bs.length : Int) ≤ (p : Int) + 1 := by omega
            have hge2 : (p : Int) + 1 < (bs.length : Int) := by omega
            have hto : ((p : Int) + 1).toNat = p + 1 := by omega
            have hm6 : m ≤ 600 := by omega
            clear e0
            have hyb0 := block_lt_of_cell hx
            have hx2 := cell_later hB2 hx
            have hown2 := (own_below hown hb).alloc (o := (.cells #[.int .i64 (opR c).code, .string (opR c).name, .int .i64 (-1), .int .i64 (opR c).inn, .int .i64 (opR c).out, .int .i64 (opR c).gas, .bool (opR c).ends] 82))
            clear hx hxr hown
            by_cases hsh : bs.length < p + 1 + m
            · have HR := Lib.hid (show (readE bs p).1 ≠ 0 by rw [HS.out m him2 hsh]; decide)
              have hgt : (bs.length : Int) < (p : Int) + 1 + m := by omega
              go_wp2
              refine bodyPost_ret (results_tmp2 rfl _ _ _) rfl (readOut7_mk xs _ false (read7_all HRD.out HR.out) (whole_no HRD.out HR.out hlt1) rfl hown2 HPA.out hB2)
            · have HR := Lib.hid (HO.out m him2 (by omega))
              have hgt : ¬ (bs.length : Int) < (p : Int) + 1 + m := by omega
              have hgt2 : (p : Int) + 1 + m ≤ (bs.length : Int) := by omega
              have hgt3 : (p : Int) + 1 + m ≤ (cap : Int) := by omega
              have hto1 : ((p : Int) + 1).toNat = p + 1 := by omega
              have hto2 : ((p : Int) + 1 + m).toNat = p + 1 + m := by omega
              have hwa : IntKind.i64.wrap ((p : Int) + 1) = (p : Int) + 1 := by rw [IntKind.wrap_i64]; omega
              have hwb : IntKind.i64.wrap ((p : Int) + 1 + m) = (p : Int) + 1 + m := by rw [IntKind.wrap_i64]; omega
              have hge1 : (0 : Int) ≤ (p : Int) + 1 := by omega
              have hge3 : (p : Int) + 1 ≤ (p : Int) + 1 + m := by omega
              go_wp2
              generalize hW1 : w1.alloc (.cells #[.int .i64 (opR c).code, .string (opR c).name, .int .i64 (-1), .int .i64 (opR c).inn, .int .i64 (opR c).out, .int .i64 (opR c).gas, .bool (opR c).ends] 82) = W1 at hB2 hx2 hown2 ⊢
              clear k0 k1 k2 k3 k4 k5 k6 kz kl
              have HOWN2 := Lib.hid hown2
              have s0 : W1.drew.cell? (y.add p) = some (.int .u8 c) := hx2
              clear hown2 hx2
              have hyb : (y.add p).block < w.heap.size := hyb0
              obtain ⟨sa, hsaO⟩ : ∃ sa : Addr, (cap = p + 1 ∧ sa = y) ∨ (cap ≠ p + 1 ∧ sa = ⟨y.block, y.off + (p + 1), none⟩) := by
                by_cases hcz : cap = p + 1
                · exact ⟨y, .inl ⟨hcz, rfl⟩⟩
                · exact ⟨_, .inr ⟨hcz, rfl⟩⟩
              have HSA := Lib.hid (show IntsAt w .u8 (some sa) ((bs.drop (p + 1)).take m) by
                rcases hsaO with ⟨h1, h2⟩ | ⟨h1, h2⟩
                · rw [show m = 0 by omega, List.take_zero]
                  exact ints_nil _ _ _
                · have := ints_take (ints_drop HC.out (p + 1)) m
                  rw [show y.add (p + 1) = ⟨y.block, y.off + (p + 1), none⟩ by unfold Addr.add; rw [if_neg (by omega)], ← h2] at this
                  exact this)
              have hBW := hB2.size
              obtain ⟨nn, hnn⟩ : ∃ nn : Nat, nn = xs.length := ⟨_, rfl⟩
              rw [← hnn] at HOWN2 ⊢
              have hnb : nn ≤ 1048576 := by omega
              have hx3 : (W1.drew.alloc (.cells #[.int .i64 (p : Int), .int .i64 c, .slice (some sa) m (cap - (p + 1)), .int .i64 ((p : Int) + 1 + m)] 94)).cell? (y.add p) = some (.int .u8 c) := cell_later ((Below.refl _ _).alloc (Nat.le_refl _) _) s0
              have hx4 : (W1.alloc (.cells #[.int .i64 (p : Int), .int .i64 c, .slice (some sa) m (cap - (p + 1)), .int .i64 ((p : Int) + 1 + m)] 94)).cell? (y.add p) = some (.int .u8 c) := hx3
              obtain ⟨v2, w2, hr2, hown2, hgrow2, hloc2, -⟩ := run_append_own_keep (P := Tryd.prog) _ w.heap.size 91 91 94 i0 (.agg #[.int .i64 0, .int .i64 0, .slice none 0 0, .int .i64 0]) 4 48 Tryd.underlying91 hi hz0 hz1 hz2 rfl (by decide) _ _ _ ((show W1.drew.ownsRow w.heap.size 94 4 (.slice Y nn cv) nn (insCells xs) from HOWN2.out).alloc (.cells #[.int .i64 (p : Int), .int .i64 c, .slice (some sa) m (cap - (p + 1)), .int .i64 ((p : Int) + 1 + m)] 94)) ⟨W1.heap.size, 0, none⟩ 1 1 [.int .i64 (p : Int), .int .i64 c, .slice (some sa) m (cap - (p + 1)), .int .i64 ((p : Int) + 1 + m)] rfl (cells_fresh W1.drew ([.int .i64 (p : Int), .int .i64 c, .slice (some sa) m (cap - (p + 1)), .int .i64 ((p : Int) + 1 + m)]).toArray _ _ rfl) (by intro u hu; simp at hu; rcases hu with rfl | rfl | rfl | rfl <;> rfl) (by unfold maxLen; omega) (by omega) (by simp; show w.heap.size ≤ W1.heap.size + 1; omega)
              obtain ⟨L2, cl2, rfl⟩ := owns_shape hown2
              have hB6 := bel_own ((hB2.drew).alloc hB2.drew.size (.cells #[.int .i64 (p : Int), .int .i64 c, .slice (some sa) m (cap - (p + 1)), .int .i64 ((p : Int) + 1 + m)] 94)) ((show W1.drew.ownsRow w.heap.size 94 4 (.slice Y nn cv) nn (insCells xs) from HOWN2.out).alloc (.cells #[.int .i64 (p : Int), .int .i64 c, .slice (some sa) m (cap - (p + 1)), .int .i64 ((p : Int) + 1 + m)] 94)) (Nat.le_refl _) hgrow2
              have hown6 : w2.ownsRow w.heap.size 94 4 (.slice L2 (xs.length + 1) cl2) (xs.length + 1) (insCells xs ++ [.int .i64 (p : Int), .int .i64 c, .slice (some sa) m (cap - (p + 1)), .int .i64 ((p : Int) + 1 + m)]) := by rw [← hnn]; exact hown2
              have hll : ((bs.drop (p + 1)).take m).length = m := by rw [List.length_take, List.length_drop]; omega
              have hown7 : w2.ownsRow w.heap.size 94 4 (.slice L2 (xs.length + 1) cl2) (xs ++ [((⟨p, c, (bs.drop (p + 1)).take m, (p : Int) + 1 + m⟩ : Ins), Value.slice (some sa) m (cap - (p + 1)))]).length (insCells (xs ++ [((⟨p, c, (bs.drop (p + 1)).take m, (p : Int) + 1 + m⟩ : Ins), Value.slice (some sa) m (cap - (p + 1)))])) := by
                rw [List.length_append, insCells_snoc]
                exact hown6
              have hpa : PartsAt w (xs ++ [((⟨p, c, (bs.drop (p + 1)).take m, (p : Int) + 1 + m⟩ : Ins), Value.slice (some sa) m (cap - (p + 1)))]) := fun x hx => by
                rcases List.mem_append.1 hx with h | h
                · exact HPA.out x h
                · rw [List.mem_singleton.1 h]
                  refine ⟨some sa, cap - (p + 1), ?_, HSA.out⟩
                  dsimp only
                  rw [hll]
              have HO7 := Lib.hid (⟨hown7, hpa, hB6⟩ : _ ∧ _ ∧ _)
              have HNN := Lib.hid hnn
              clear hown6 hown7 hpa hB6 hll hown2 hgrow2 hloc2 hnn
              refine (wpIn_wide (n := 8)).1 ?_
              refine region_split 22 ?_
              simp only [List.take_succ_cons, List.take_zero, List.drop_succ_cons, List.drop_zero]
              refine wpIn_region_chain_put (vals := fun j => ([.slice Y nn cv, .int .i64 p, .slice (some y) bs.length cap, .int .i64 p, .pointer (some (y.add p)), .int .u8 c, .int .i64 c, .slice (some y) bs.length cap, .int .i64 p, .int .i64 ((p : Int) + 1), .int .i64 p, .int .i64 ((p : Int) + 1), .int .i64 m, .int .i64 ((p : Int) + 1 + m), .slice (some sa) m (cap - (p + 1)), .int .i64 p, .int .i64 ((p : Int) + 1), .int .i64 m, .int .i64 ((p : Int) + 1 + m), .agg #[.int .i64 p, .int .i64 c, .slice (some sa) m (cap - (p + 1)), .int .i64 ((p : Int) + 1 + m)], .slice (some ⟨W1.heap.size, 0, none⟩) 1 1, .slice L2 (nn + 1) cl2] : List Value).getD j undef) (fun k => ([W1.drew, W1.drew.alloc (.cells #[.int .i64 (p : Int), .int .i64 c, .slice (some sa) m (cap - (p + 1)), .int .i64 ((p : Int) + 1 + m)] 94), w2] : List World).getD k default) [20, 21] 1 (by kernel_rfl) (by kernel_rfl) (by kernel_rfl) rfl (by kernel_rfl) (by kernel_rfl) ?hlt rfl (by kernel_rfl) (by kernel_rfl) (by kernel_rfl) (by kernel_rfl) rfl (fun i o hi ho k hk ρ hr => ?_) (fun j o hj ho ρ hr => ?_) ?_
              case hlt => simp only [List.size_toArray]; kernel_rfl
              · have hil : i < 22 := (List.getElem?_eq_some_iff.1 ho).1
                have hi0 : 20 ≠ i := hi 0 (by omega)
                have hi1 : 21 ≠ i := hi 1 (by omega)
                rcases (show i = 0 ∨ i = 1 ∨ i = 2 ∨ i = 3 ∨ i = 4 ∨ i = 5 ∨ i = 6 ∨ i = 7 ∨ i = 8 ∨ i = 9 ∨ i = 10 ∨ i = 11 ∨ i = 12 ∨ i = 13 ∨ i = 14 ∨ i = 15 ∨ i = 16 ∨ i = 17 ∨ i = 18 ∨ i = 19 by omega) with rfl | rfl | rfl | rfl | rfl | rfl | rfl | rfl | rfl | rfl | rfl | rfl | rfl | rfl | rfl | rfl | rfl | rfl | rfl | rfl
                · change (_ : List Oper)[0]? = some o at ho
                  simp only [List.getElem?_cons_zero, Option.some.injEq] at ho
                  subst ho
                  have e4 : ρ (.tmp 4) = .slice Y nn cv := hr.rest 4 (by kernel_rfl)
                  rcases (show k = 0 ∨ k = 1 by omega) with rfl | rfl
                  all_goals exact ⟨rfl, .inl (by go_simp)⟩
                · change (_ : List Oper)[1]? = some o at ho
                  simp only [List.getElem?_cons_succ, List.getElem?_cons_zero, Option.some.injEq] at ho
                  subst ho
                  have e5 : ρ (.tmp 5) = .int .i64 p := hr.rest 5 (by kernel_rfl)
                  rcases (show k = 0 ∨ k = 1 by omega) with rfl | rfl
                  all_goals exact ⟨rfl, .inl (by go_simp)⟩
                · change (_ : List Oper)[2]? = some o at ho
                  simp only [List.getElem?_cons_succ, List.getElem?_cons_zero, Option.some.injEq] at ho
                  subst ho
                  have e0 : ρ (.tmp 0) = .slice (some y) bs.length cap := hr.rest 0 (by kernel_rfl)
                  rcases (show k = 0 ∨ k = 1 by omega) with rfl | rfl
                  all_goals exact ⟨rfl, .inl (by go_simp)⟩
                · change (_ : List Oper)[3]? = some o at ho
                  simp only [List.getElem?_cons_succ, List.getElem?_cons_zero, Option.some.injEq] at ho
                  subst ho
                  have e5 : ρ (.tmp 5) = .int .i64 p := hr.rest 5 (by kernel_rfl)
                  rcases (show k = 0 ∨ k = 1 by omega) with rfl | rfl
                  all_goals exact ⟨rfl, .inl (by go_simp)⟩
                · change (_ : List Oper)[4]? = some o at ho
                  simp only [List.getElem?_cons_succ, List.getElem?_cons_zero, Option.some.injEq] at ho
                  subst ho
                  have e53 : ρ (.tmp 53) = .slice (some y) bs.length cap := hr.deps ⟨2, .data⟩ (by simp) rfl _ _ rfl rfl
                  have e54 : ρ (.tmp 54) = .int .i64 p := hr.deps ⟨3, .data⟩ (by simp) rfl _ _ rfl rfl
                  rcases (show k = 0 ∨ k = 1 by omega) with rfl | rfl
                  all_goals exact ⟨rfl, .inl (by go_simp)⟩
                · change (_ : List Oper)[5]? = some o at ho
                  simp only [List.getElem?_cons_succ, List.getElem?_cons_zero, Option.some.injEq] at ho
                  subst ho
                  have e55 : ρ (.tmp 55) = .pointer (some (y.add p)) := hr.deps ⟨4, .data⟩ (by simp) rfl _ _ rfl rfl
                  rcases (show k = 0 ∨ k = 1 by omega) with rfl | rfl
                  all_goals exact ⟨rfl, .inl (by go_simp)⟩
                · change (_ : List Oper)[6]? = some o at ho
                  simp only [List.getElem?_cons_succ, List.getElem?_cons_zero, Option.some.injEq] at ho
                  subst ho
                  have e56 : ρ (.tmp 56) = .int .u8 c := hr.deps ⟨5, .data⟩ (by simp) rfl _ _ rfl rfl
                  rcases (show k = 0 ∨ k = 1 by omega) with rfl | rfl
                  all_goals exact ⟨rfl, .inl (by go_simp)⟩
                · change (_ : List Oper)[7]? = some o at ho
                  simp only [List.getElem?_cons_succ, List.getElem?_cons_zero, Option.some.injEq] at ho
                  subst ho
                  have e0 : ρ (.tmp 0) = .slice (some y) bs.length cap := hr.rest 0 (by kernel_rfl)
                  rcases (show k = 0 ∨ k = 1 by omega) with rfl | rfl
                  all_goals exact ⟨rfl, .inl (by go_simp)⟩
                · change (_ : List Oper)[8]? = some o at ho
                  simp only [List.getElem?_cons_succ, List.getElem?_cons_zero, Option.some.injEq] at ho
                  subst ho
                  have e5 : ρ (.tmp 5) = .int .i64 p := hr.rest 5 (by kernel_rfl)
                  rcases (show k = 0 ∨ k = 1 by omega) with rfl | rfl
                  all_goals exact ⟨rfl, .inl (by go_simp)⟩
                · change (_ : List Oper)[9]? = some o at ho
                  simp only [List.getElem?_cons_succ, List.getElem?_cons_zero, Option.some.injEq] at ho
                  subst ho
                  have e59 : ρ (.tmp 59) = .int .i64 p := hr.deps ⟨8, .data⟩ (by simp) rfl _ _ rfl rfl
                  have hcst := hr.const
                  rcases (show k = 0 ∨ k = 1 by omega) with rfl | rfl
                  all_goals exact ⟨rfl, .inl (by go_simp)⟩
                · change (_ : List Oper)[10]? = some o at ho
                  simp only [List.getElem?_cons_succ, List.getElem?_cons_zero, Option.some.injEq] at ho
                  subst ho
                  have e5 : ρ (.tmp 5) = .int .i64 p := hr.rest 5 (by kernel_rfl)
                  rcases (show k = 0 ∨ k = 1 by omega) with rfl | rfl
                  all_goals exact ⟨rfl, .inl (by go_simp)⟩
                · change (_ : List Oper)[11]? = some o at ho
                  simp only [List.getElem?_cons_succ, List.getElem?_cons_zero, Option.some.injEq] at ho
                  subst ho
                  have e61 : ρ (.tmp 61) = .int .i64 p := hr.deps ⟨10, .data⟩ (by simp) rfl _ _ rfl rfl
                  have hcst := hr.const
                  rcases (show k = 0 ∨ k = 1 by omega) with rfl | rfl
                  all_goals exact ⟨rfl, .inl (by go_simp)⟩
                · change (_ : List Oper)[12]? = some o at ho
                  simp only [List.getElem?_cons_succ, List.getElem?_cons_zero, Option.some.injEq] at ho
                  subst ho
                  have e8 : ρ (.tmp 8) = .int .i64 m := hr.rest 8 (by kernel_rfl)
                  rcases (show k = 0 ∨ k = 1 by omega) with rfl | rfl
                  all_goals exact ⟨rfl, .inl (by go_simp)⟩
                · change (_ : List Oper)[13]? = some o at ho
                  simp only [List.getElem?_cons_succ, List.getElem?_cons_zero, Option.some.injEq] at ho
                  subst ho
                  have e62 : ρ (.tmp 62) = .int .i64 ((p : Int) + 1) := hr.deps ⟨11, .data⟩ (by simp) rfl _ _ rfl rfl
                  have e63 : ρ (.tmp 63) = .int .i64 m := hr.deps ⟨12, .data⟩ (by simp) rfl _ _ rfl rfl
                  rcases (show k = 0 ∨ k = 1 by omega) with rfl | rfl
                  all_goals exact ⟨rfl, .inl (by go_simp)⟩
                · change (_ : List Oper)[14]? = some o at ho
                  simp only [List.getElem?_cons_succ, List.getElem?_cons_zero, Option.some.injEq] at ho
                  subst ho
                  have e58 : ρ (.tmp 58) = .slice (some y) bs.length cap := hr.deps ⟨7, .data⟩ (by simp) rfl _ _ rfl rfl
                  have e60 : ρ (.tmp 60) = .int .i64 ((p : Int) + 1) := hr.deps ⟨9, .data⟩ (by simp) rfl _ _ rfl rfl
                  have e64 : ρ (.tmp 64) = .int .i64 ((p : Int) + 1 + m) := hr.deps ⟨13, .data⟩ (by simp) rfl _ _ rfl rfl
                  rcases (show k = 0 ∨ k = 1 by omega) with rfl | rfl
                  all_goals exact ⟨rfl, .inl (by rcases hsaO with ⟨h1, h2⟩ | ⟨h1, h2⟩ <;> (have h3 : (0 : Int) ≤ (p : Int) + 1 + m := by omega) <;> first | (rw [h2]; go_simp; done) | (rw [h2]; go_simp; intro hbad; exact absurd hbad (by omega)))⟩
                · change (_ : List Oper)[15]? = some o at ho
                  simp only [List.getElem?_cons_succ, List.getElem?_cons_zero, Option.some.injEq] at ho
                  subst ho
                  have e5 : ρ (.tmp 5) = .int .i64 p := hr.rest 5 (by kernel_rfl)
                  rcases (show k = 0 ∨ k = 1 by omega) with rfl | rfl
                  all_goals exact ⟨rfl, .inl (by go_simp)⟩
                · change (_ : List Oper)[16]? = some o at ho
                  simp only [List.getElem?_cons_succ, List.getElem?_cons_zero, Option.some.injEq] at ho
                  subst ho
                  have e66 : ρ (.tmp 66) = .int .i64 p := hr.deps ⟨15, .data⟩ (by simp) rfl _ _ rfl rfl
                  have hcst := hr.const
                  rcases (show k = 0 ∨ k = 1 by omega) with rfl | rfl
                  all_goals exact ⟨rfl, .inl (by go_simp)⟩
                · change (_ : List Oper)[17]? = some o at ho
                  simp only [List.getElem?_cons_succ, List.getElem?_cons_zero, Option.some.injEq] at ho
                  subst ho
                  have e8 : ρ (.tmp 8) = .int .i64 m := hr.rest 8 (by kernel_rfl)
                  rcases (show k = 0 ∨ k = 1 by omega) with rfl | rfl
                  all_goals exact ⟨rfl, .inl (by go_simp)⟩
                · change (_ : List Oper)[18]? = some o at ho
                  simp only [List.getElem?_cons_succ, List.getElem?_cons_zero, Option.some.injEq] at ho
                  subst ho
                  have e67 : ρ (.tmp 67) = .int .i64 ((p : Int) + 1) := hr.deps ⟨16, .data⟩ (by simp) rfl _ _ rfl rfl
                  have e68 : ρ (.tmp 68) = .int .i64 m := hr.deps ⟨17, .data⟩ (by simp) rfl _ _ rfl rfl
                  rcases (show k = 0 ∨ k = 1 by omega) with rfl | rfl
                  all_goals exact ⟨rfl, .inl (by go_simp)⟩
                · change (_ : List Oper)[19]? = some o at ho
                  simp only [List.getElem?_cons_succ, List.getElem?_cons_zero, Option.some.injEq] at ho
                  subst ho
                  have e52 : ρ (.tmp 52) = .int .i64 p := hr.deps ⟨1, .data⟩ (by simp) rfl _ _ rfl rfl
                  have e57 : ρ (.tmp 57) = .int .i64 c := hr.deps ⟨6, .data⟩ (by simp) rfl _ _ rfl rfl
                  have e65 : ρ (.tmp 65) = .slice (some sa) m (cap - (p + 1)) := hr.deps ⟨14, .data⟩ (by simp) rfl _ _ rfl rfl
                  have e69 : ρ (.tmp 69) = .int .i64 ((p : Int) + 1 + m) := hr.deps ⟨18, .data⟩ (by simp) rfl _ _ rfl rfl
                  rcases (show k = 0 ∨ k = 1 by omega) with rfl | rfl
                  all_goals exact ⟨rfl, .inl (by go_simp)⟩
              · rcases (show j = 0 ∨ j = 1 by omega) with rfl | rfl
                · change (_ : List Oper)[20]? = some o at ho
                  simp only [List.getElem?_cons_succ, List.getElem?_cons_zero, Option.some.injEq] at ho
                  subst ho
                  have e70 : ρ (.tmp 70) = .agg #[.int .i64 p, .int .i64 c, .slice (some sa) m (cap - (p + 1)), .int .i64 ((p : Int) + 1 + m)] := hr.deps ⟨19, .data⟩ (by simp) rfl _ _ rfl rfl
                  exact ⟨rfl, .inl (by go_simp)⟩
                · change (_ : List Oper)[21]? = some o at ho
                  simp only [List.getElem?_cons_succ, List.getElem?_cons_zero, Option.some.injEq] at ho
                  subst ho
                  have e51 : ρ (.tmp 51) = .slice Y nn cv := hr.deps ⟨0, .data⟩ (by simp) rfl _ _ rfl rfl
                  have e71 : ρ (.tmp 71) = .slice (some ⟨W1.heap.size, 0, none⟩) 1 1 := hr.deps ⟨20, .data⟩ (by simp) rfl _ _ rfl rfl
                  exact ⟨rfl, .inl (by show (execOp ρ _).run _ (W1.drew.alloc _) = .ok (.value (.slice L2 (nn + 1) cl2)) w2; unfold execOp; simp only [resolve, invoke, builtin, Sem.run_bind, Sem.run_pure, Result.andThen_ok, List.map_toArray, List.map_cons, List.map_nil, e51, e71]; rw [hr2]; rfl)⟩
              · intro listed2 a2 hl2 hJ2
                have ha2 := jt_act hJ2 hl2 (by kernel_rfl) (by simp only [List.size_toArray]; kernel_rfl)
                simp only [putAll, List.getD_cons_zero, List.getD_cons_succ, Nat.zero_add, Nat.reduceAdd] at ha2
                subst ha2
                refine wpIn_oper_yld (v := .slice L2 (nn + 1) cl2) (w' := w2) rfl ⟨rfl, .inl (by go_simp)⟩ ?_
                clear hr2 s0 hx3 hx4 hsaO
                go_wp2
                refine ⟨⟨_, p + 1 + m, by go_num, ?_, by rw [HNN.out]; exact HO7.out.1, HO7.out.2.1, HO7.out.2.2⟩, by simp [intOf]; omega⟩
                rw [List.map_append]
                exact .snoc HRD.out HR.out
        · obtain ⟨m, hmm⟩ : ∃ m : Nat, (opR c).imm = m := ⟨(opR c).imm.toNat, by omega⟩
          have him2 : immL (opR c) (bs.drop (p + 1)) = some m := by unfold immL; rw [if_neg hm, hmm]; simp
          have hm6 : m ≤ 600 := by omega
          rw [hmm]
          have hB2 := hB1.alloc hB1.size (.cells #[.int .i64 (opR c).code, .string (opR c).name, .int .i64 (m : Int), .int .i64 (opR c).inn, .int .i64 (opR c).out, .int .i64 (opR c).gas, .bool (opR c).ends] 82)
          obtain ⟨k0, k1, k2, k3, k4, k5, k6, kz, kl⟩ := cells7 (heap_alloc_new w1 (.cells #[.int .i64 (opR c).code, .string (opR c).name, .int .i64 (m : Int), .int .i64 (opR c).inn, .int .i64 (opR c).out, .int .i64 (opR c).gas, .bool (opR c).ends] 82))
          have hyb0 := block_lt_of_cell hx
          have hx2 := cell_later hB2 hx
          have hown2 := (own_below hown hb).alloc (o := (.cells #[.int .i64 (opR c).code, .string (opR c).name, .int .i64 (m : Int), .int .i64 (opR c).inn, .int .i64 (opR c).out, .int .i64 (opR c).gas, .bool (opR c).ends] 82))
          clear hx hxr hown
          by_cases hsh : bs.length < p + 1 + m
          · have HR := Lib.hid (show (readE bs p).1 ≠ 0 by rw [HS.out m him2 hsh]; decide)
            have hgt : (bs.length : Int) < (p : Int) + 1 + m := by omega
            go_wp2
            refine bodyPost_ret (results_tmp2 rfl _ _ _) rfl (readOut7_mk xs _ false (read7_all HRD.out HR.out) (whole_no HRD.out HR.out hlt1) rfl hown2 HPA.out hB2)
          · have HR := Lib.hid (HO.out m him2 (by omega))
            have hgt : ¬ (bs.length : Int) < (p : Int) + 1 + m := by omega
            have hgt2 : (p : Int) + 1 + m ≤ (bs.length : Int) := by omega
            have hgt3 : (p : Int) + 1 + m ≤ (cap : Int) := by omega
            have hto1 : ((p : Int) + 1).toNat = p + 1 := by omega
            have hto2 : ((p : Int) + 1 + m).toNat = p + 1 + m := by omega
            have hwa : IntKind.i64.wrap ((p : Int) + 1) = (p : Int) + 1 := by rw [IntKind.wrap_i64]; omega
            have hwb : IntKind.i64.wrap ((p : Int) + 1 + m) = (p : Int) + 1 + m := by rw [IntKind.wrap_i64]; omega
            have hge1 : (0 : Int) ≤ (p : Int) + 1 := by omega
            have hge3 : (p : Int) + 1 ≤ (p : Int) + 1 + m := by omega
            go_wp2
            generalize hW1 : w1.alloc (.cells #[.int .i64 (opR c).code, .string (opR c).name, .int .i64 (m : Int), .int .i64 (opR c).inn, .int .i64 (opR c).out, .int .i64 (opR c).gas, .bool (opR c).ends] 82) = W1 at hB2 hx2 hown2 ⊢
            clear k0 k1 k2 k3 k4 k5 k6 kz kl
            have HOWN2 := Lib.hid hown2
            have s0 : W1.drew.cell? (y.add p) = some (.int .u8 c) := hx2
            clear hown2 hx2
            have hyb : (y.add p).block < w.heap.size := hyb0
            obtain ⟨sa, hsaO⟩ : ∃ sa : Addr, (cap = p + 1 ∧ sa = y) ∨ (cap ≠ p + 1 ∧ sa = ⟨y.block, y.off + (p + 1), none⟩) := by
              by_cases hcz : cap = p + 1
              · exact ⟨y, .inl ⟨hcz, rfl⟩⟩
              · exact ⟨_, .inr ⟨hcz, rfl⟩⟩
            have HSA := Lib.hid (show IntsAt w .u8 (some sa) ((bs.drop (p + 1)).take m) by
              rcases hsaO with ⟨h1, h2⟩ | ⟨h1, h2⟩
              · rw [show m = 0 by omega, List.take_zero]
                exact ints_nil _ _ _
              · have := ints_take (ints_drop HC.out (p + 1)) m
                rw [show y.add (p + 1) = ⟨y.block, y.off + (p + 1), none⟩ by unfold Addr.add; rw [if_neg (by omega)], ← h2] at this
                exact this)
            have hBW := hB2.size
            obtain ⟨nn, hnn⟩ : ∃ nn : Nat, nn = xs.length := ⟨_, rfl⟩
            rw [← hnn] at HOWN2 ⊢
            have hnb : nn ≤ 1048576 := by omega
            have hx3 : (W1.drew.alloc (.cells #[.int .i64 (p : Int), .int .i64 c, .slice (some sa) m (cap - (p + 1)), .int .i64 ((p : Int) + 1 + m)] 94)).cell? (y.add p) = some (.int .u8 c) := cell_later ((Below.refl _ _).alloc (Nat.le_refl _) _) s0
            have hx4 : (W1.alloc (.cells #[.int .i64 (p : Int), .int .i64 c, .slice (some sa) m (cap - (p + 1)), .int .i64 ((p : Int) + 1 + m)] 94)).cell? (y.add p) = some (.int .u8 c) := hx3
            obtain ⟨v2, w2, hr2, hown2, hgrow2, hloc2, -⟩ := run_append_own_keep (P := Tryd.prog) _ w.heap.size 91 91 94 i0 (.agg #[.int .i64 0, .int .i64 0, .slice none 0 0, .int .i64 0]) 4 48 Tryd.underlying91 hi hz0 hz1 hz2 rfl (by decide) _ _ _ ((show W1.drew.ownsRow w.heap.size 94 4 (.slice Y nn cv) nn (insCells xs) from HOWN2.out).alloc (.cells #[.int .i64 (p : Int), .int .i64 c, .slice (some sa) m (cap - (p + 1)), .int .i64 ((p : Int) + 1 + m)] 94)) ⟨W1.heap.size, 0, none⟩ 1 1 [.int .i64 (p : Int), .int .i64 c, .slice (some sa) m (cap - (p + 1)), .int .i64 ((p : Int) + 1 + m)] rfl (cells_fresh W1.drew ([.int .i64 (p : Int), .int .i64 c, .slice (some sa) m (cap - (p + 1)), .int .i64 ((p : Int) + 1 + m)]).toArray _ _ rfl) (by intro u hu; simp at hu; rcases hu with rfl | rfl | rfl | rfl <;> rfl) (by unfold maxLen; omega) (by omega) (by simp; show w.heap.size ≤ W1.heap.size + 1; omega)
            obtain ⟨L2, cl2, rfl⟩ := owns_shape hown2
            have hB6 := bel_own ((hB2.drew).alloc hB2.drew.size (.cells #[.int .i64 (p : Int), .int .i64 c, .slice (some sa) m (cap - (p + 1)), .int .i64 ((p : Int) + 1 + m)] 94)) ((show W1.drew.ownsRow w.heap.size 94 4 (.slice Y nn cv) nn (insCells xs) from HOWN2.out).alloc (.cells #[.int .i64 (p : Int), .int .i64 c, .slice (some sa) m (cap - (p + 1)), .int .i64 ((p : Int) + 1 + m)] 94)) (Nat.le_refl _) hgrow2
            have hown6 : w2.ownsRow w.heap.size 94 4 (.slice L2 (xs.length + 1) cl2) (xs.length + 1) (insCells xs ++ [.int .i64 (p : Int), .int .i64 c, .slice (some sa) m (cap - (p + 1)), .int .i64 ((p : Int) + 1 + m)]) := by rw [← hnn]; exact hown2
            have hll : ((bs.drop (p + 1)).take m).length = m := by rw [List.length_take, List.length_drop]; omega
            have hown7 : w2.ownsRow w.heap.size 94 4 (.slice L2 (xs.length + 1) cl2) (xs ++ [((⟨p, c, (bs.drop (p + 1)).take m, (p : Int) + 1 + m⟩ : Ins), Value.slice (some sa) m (cap - (p + 1)))]).length (insCells (xs ++ [((⟨p, c, (bs.drop (p + 1)).take m, (p : Int) + 1 + m⟩ : Ins), Value.slice (some sa) m (cap - (p + 1)))])) := by
              rw [List.length_append, insCells_snoc]
              exact hown6
            have hpa : PartsAt w (xs ++ [((⟨p, c, (bs.drop (p + 1)).take m, (p : Int) + 1 + m⟩ : Ins), Value.slice (some sa) m (cap - (p + 1)))]) := fun x hx => by
              rcases List.mem_append.1 hx with h | h
              · exact HPA.out x h
              · rw [List.mem_singleton.1 h]
                refine ⟨some sa, cap - (p + 1), ?_, HSA.out⟩
                dsimp only
                rw [hll]
            have HO7 := Lib.hid (⟨hown7, hpa, hB6⟩ : _ ∧ _ ∧ _)
            have HNN := Lib.hid hnn
            clear hown6 hown7 hpa hB6 hll hown2 hgrow2 hloc2 hnn
            refine (wpIn_wide (n := 8)).1 ?_
            refine region_split 22 ?_
            simp only [List.take_succ_cons, List.take_zero, List.drop_succ_cons, List.drop_zero]
            refine wpIn_region_chain_put (vals := fun j => ([.slice Y nn cv, .int .i64 p, .slice (some y) bs.length cap, .int .i64 p, .pointer (some (y.add p)), .int .u8 c, .int .i64 c, .slice (some y) bs.length cap, .int .i64 p, .int .i64 ((p : Int) + 1), .int .i64 p, .int .i64 ((p : Int) + 1), .int .i64 m, .int .i64 ((p : Int) + 1 + m), .slice (some sa) m (cap - (p + 1)), .int .i64 p, .int .i64 ((p : Int) + 1), .int .i64 m, .int .i64 ((p : Int) + 1 + m), .agg #[.int .i64 p, .int .i64 c, .slice (some sa) m (cap - (p + 1)), .int .i64 ((p : Int) + 1 + m)], .slice (some ⟨W1.heap.size, 0, none⟩) 1 1, .slice L2 (nn + 1) cl2] : List Value).getD j undef) (fun k => ([W1.drew, W1.drew.alloc (.cells #[.int .i64 (p : Int), .int .i64 c, .slice (some sa) m (cap - (p + 1)), .int .i64 ((p : Int) + 1 + m)] 94), w2] : List World).getD k default) [20, 21] 1 (by kernel_rfl) (by kernel_rfl) (by kernel_rfl) rfl (by kernel_rfl) (by kernel_rfl) ?hlt rfl (by kernel_rfl) (by kernel_rfl) (by kernel_rfl) (by kernel_rfl) rfl (fun i o hi ho k hk ρ hr => ?_) (fun j o hj ho ρ hr => ?_) ?_
            case hlt => simp only [List.size_toArray]; kernel_rfl
            · have hil : i < 22 := (List.getElem?_eq_some_iff.1 ho).1
              have hi0 : 20 ≠ i := hi 0 (by omega)
              have hi1 : 21 ≠ i := hi 1 (by omega)
              rcases (show i = 0 ∨ i = 1 ∨ i = 2 ∨ i = 3 ∨ i = 4 ∨ i = 5 ∨ i = 6 ∨ i = 7 ∨ i = 8 ∨ i = 9 ∨ i = 10 ∨ i = 11 ∨ i = 12 ∨ i = 13 ∨ i = 14 ∨ i = 15 ∨ i = 16 ∨ i = 17 ∨ i = 18 ∨ i = 19 by omega) with rfl | rfl | rfl | rfl | rfl | rfl | rfl | rfl | rfl | rfl | rfl | rfl | rfl | rfl | rfl | rfl | rfl | rfl | rfl | rfl
              · change (_ : List Oper)[0]? = some o at ho
                simp only [List.getElem?_cons_zero, Option.some.injEq] at ho
                subst ho
                have e4 : ρ (.tmp 4) = .slice Y nn cv := hr.rest 4 (by kernel_rfl)
                rcases (show k = 0 ∨ k = 1 by omega) with rfl | rfl
                all_goals exact ⟨rfl, .inl (by go_simp)⟩
              · change (_ : List Oper)[1]? = some o at ho
                simp only [List.getElem?_cons_succ, List.getElem?_cons_zero, Option.some.injEq] at ho
                subst ho
                have e5 : ρ (.tmp 5) = .int .i64 p := hr.rest 5 (by kernel_rfl)
                rcases (show k = 0 ∨ k = 1 by omega) with rfl | rfl
                all_goals exact ⟨rfl, .inl (by go_simp)⟩
              · change (_ : List Oper)[2]? = some o at ho
                simp only [List.getElem?_cons_succ, List.getElem?_cons_zero, Option.some.injEq] at ho
                subst ho
                have e0 : ρ (.tmp 0) = .slice (some y) bs.length cap := hr.rest 0 (by kernel_rfl)
                rcases (show k = 0 ∨ k = 1 by omega) with rfl | rfl
                all_goals exact ⟨rfl, .inl (by go_simp)⟩
              · change (_ : List Oper)[3]? = some o at ho
                simp only [List.getElem?_cons_succ, List.getElem?_cons_zero, Option.some.injEq] at ho
                subst ho
                have e5 : ρ (.tmp 5) = .int .i64 p := hr.rest 5 (by kernel_rfl)
                rcases (show k = 0 ∨ k = 1 by omega) with rfl | rfl
                all_goals exact ⟨rfl, .inl (by go_simp)⟩
              · change (_ : List Oper)[4]? = some o at ho
                simp only [List.getElem?_cons_succ, List.getElem?_cons_zero, Option.some.injEq] at ho
                subst ho
                have e53 : ρ (.tmp 53) = .slice (some y) bs.length cap := hr.deps ⟨2, .data⟩ (by simp) rfl _ _ rfl rfl
                have e54 : ρ (.tmp 54) = .int .i64 p := hr.deps ⟨3, .data⟩ (by simp) rfl _ _ rfl rfl
                rcases (show k = 0 ∨ k = 1 by omega) with rfl | rfl
                all_goals exact ⟨rfl, .inl (by go_simp)⟩
              · change (_ : List Oper)[5]? = some o at ho
                simp only [List.getElem?_cons_succ, List.getElem?_cons_zero, Option.some.injEq] at ho
                subst ho
                have e55 : ρ (.tmp 55) = .pointer (some (y.add p)) := hr.deps ⟨4, .data⟩ (by simp) rfl _ _ rfl rfl
                rcases (show k = 0 ∨ k = 1 by omega) with rfl | rfl
                all_goals exact ⟨rfl, .inl (by go_simp)⟩
              · change (_ : List Oper)[6]? = some o at ho
                simp only [List.getElem?_cons_succ, List.getElem?_cons_zero, Option.some.injEq] at ho
                subst ho
                have e56 : ρ (.tmp 56) = .int .u8 c := hr.deps ⟨5, .data⟩ (by simp) rfl _ _ rfl rfl
                rcases (show k = 0 ∨ k = 1 by omega) with rfl | rfl
                all_goals exact ⟨rfl, .inl (by go_simp)⟩
              · change (_ : List Oper)[7]? = some o at ho
                simp only [List.getElem?_cons_succ, List.getElem?_cons_zero, Option.some.injEq] at ho
                subst ho
                have e0 : ρ (.tmp 0) = .slice (some y) bs.length cap := hr.rest 0 (by kernel_rfl)
                rcases (show k = 0 ∨ k = 1 by omega) with rfl | rfl
                all_goals exact ⟨rfl, .inl (by go_simp)⟩
              · change (_ : List Oper)[8]? = some o at ho
                simp only [List.getElem?_cons_succ, List.getElem?_cons_zero, Option.some.injEq] at ho
                subst ho
                have e5 : ρ (.tmp 5) = .int .i64 p := hr.rest 5 (by kernel_rfl)
                rcases (show k = 0 ∨ k = 1 by omega) with rfl | rfl
                all_goals exact ⟨rfl, .inl (by go_simp)⟩
              · change (_ : List Oper)[9]? = some o at ho
                simp only [List.getElem?_cons_succ, List.getElem?_cons_zero, Option.some.injEq] at ho
                subst ho
                have e59 : ρ (.tmp 59) = .int .i64 p := hr.deps ⟨8, .data⟩ (by simp) rfl _ _ rfl rfl
                have hcst := hr.const
                rcases (show k = 0 ∨ k = 1 by omega) with rfl | rfl
                all_goals exact ⟨rfl, .inl (by go_simp)⟩
              · change (_ : List Oper)[10]? = some o at ho
                simp only [List.getElem?_cons_succ, List.getElem?_cons_zero, Option.some.injEq] at ho
                subst ho
                have e5 : ρ (.tmp 5) = .int .i64 p := hr.rest 5 (by kernel_rfl)
                rcases (show k = 0 ∨ k = 1 by omega) with rfl | rfl
                all_goals exact ⟨rfl, .inl (by go_simp)⟩
              · change (_ : List Oper)[11]? = some o at ho
                simp only [List.getElem?_cons_succ, List.getElem?_cons_zero, Option.some.injEq] at ho
                subst ho
                have e61 : ρ (.tmp 61) = .int .i64 p := hr.deps ⟨10, .data⟩ (by simp) rfl _ _ rfl rfl
                have hcst := hr.const
                rcases (show k = 0 ∨ k = 1 by omega) with rfl | rfl
                all_goals exact ⟨rfl, .inl (by go_simp)⟩
              · change (_ : List Oper)[12]? = some o at ho
                simp only [List.getElem?_cons_succ, List.getElem?_cons_zero, Option.some.injEq] at ho
                subst ho
                have e8 : ρ (.tmp 8) = .int .i64 m := hr.rest 8 (by kernel_rfl)
                rcases (show k = 0 ∨ k = 1 by omega) with rfl | rfl
                all_goals exact ⟨rfl, .inl (by go_simp)⟩
              · change (_ : List Oper)[13]? = some o at ho
                simp only [List.getElem?_cons_succ, List.getElem?_cons_zero, Option.some.injEq] at ho
                subst ho
                have e62 : ρ (.tmp 62) = .int .i64 ((p : Int) + 1) := hr.deps ⟨11, .data⟩ (by simp) rfl _ _ rfl rfl
                have e63 : ρ (.tmp 63) = .int .i64 m := hr.deps ⟨12, .data⟩ (by simp) rfl _ _ rfl rfl
                rcases (show k = 0 ∨ k = 1 by omega) with rfl | rfl
                all_goals exact ⟨rfl, .inl (by go_simp)⟩
              · change (_ : List Oper)[14]? = some o at ho
                simp only [List.getElem?_cons_succ, List.getElem?_cons_zero, Option.some.injEq] at ho
                subst ho
                have e58 : ρ (.tmp 58) = .slice (some y) bs.length cap := hr.deps ⟨7, .data⟩ (by simp) rfl _ _ rfl rfl
                have e60 : ρ (.tmp 60) = .int .i64 ((p : Int) + 1) := hr.deps ⟨9, .data⟩ (by simp) rfl _ _ rfl rfl
                have e64 : ρ (.tmp 64) = .int .i64 ((p : Int) + 1 + m) := hr.deps ⟨13, .data⟩ (by simp) rfl _ _ rfl rfl
                rcases (show k = 0 ∨ k = 1 by omega) with rfl | rfl
                all_goals exact ⟨rfl, .inl (by rcases hsaO with ⟨h1, h2⟩ | ⟨h1, h2⟩ <;> (have h3 : (0 : Int) ≤ (p : Int) + 1 + m := by omega) <;> first | (rw [h2]; go_simp; done) | (rw [h2]; go_simp; intro hbad; exact absurd hbad (by omega)))⟩
              · change (_ : List Oper)[15]? = some o at ho
                simp only [List.getElem?_cons_succ, List.getElem?_cons_zero, Option.some.injEq] at ho
                subst ho
                have e5 : ρ (.tmp 5) = .int .i64 p := hr.rest 5 (by kernel_rfl)
                rcases (show k = 0 ∨ k = 1 by omega) with rfl | rfl
                all_goals exact ⟨rfl, .inl (by go_simp)⟩
              · change (_ : List Oper)[16]? = some o at ho
                simp only [List.getElem?_cons_succ, List.getElem?_cons_zero, Option.some.injEq] at ho
                subst ho
                have e66 : ρ (.tmp 66) = .int .i64 p := hr.deps ⟨15, .data⟩ (by simp) rfl _ _ rfl rfl
                have hcst := hr.const
                rcases (show k = 0 ∨ k = 1 by omega) with rfl | rfl
                all_goals exact ⟨rfl, .inl (by go_simp)⟩
              · change (_ : List Oper)[17]? = some o at ho
                simp only [List.getElem?_cons_succ, List.getElem?_cons_zero, Option.some.injEq] at ho
                subst ho
                have e8 : ρ (.tmp 8) = .int .i64 m := hr.rest 8 (by kernel_rfl)
                rcases (show k = 0 ∨ k = 1 by omega) with rfl | rfl
                all_goals exact ⟨rfl, .inl (by go_simp)⟩
              · change (_ : List Oper)[18]? = some o at ho
                simp only [List.getElem?_cons_succ, List.getElem?_cons_zero, Option.some.injEq] at ho
                subst ho
                have e67 : ρ (.tmp 67) = .int .i64 ((p : Int) + 1) := hr.deps ⟨16, .data⟩ (by simp) rfl _ _ rfl rfl
                have e68 : ρ (.tmp 68) = .int .i64 m := hr.deps ⟨17, .data⟩ (by simp) rfl _ _ rfl rfl
                rcases (show k = 0 ∨ k = 1 by omega) with rfl | rfl
                all_goals exact ⟨rfl, .inl (by go_simp)⟩
              · change (_ : List Oper)[19]? = some o at ho
                simp only [List.getElem?_cons_succ, List.getElem?_cons_zero, Option.some.injEq] at ho
                subst ho
                have e52 : ρ (.tmp 52) = .int .i64 p := hr.deps ⟨1, .data⟩ (by simp) rfl _ _ rfl rfl
                have e57 : ρ (.tmp 57) = .int .i64 c := hr.deps ⟨6, .data⟩ (by simp) rfl _ _ rfl rfl
                have e65 : ρ (.tmp 65) = .slice (some sa) m (cap - (p + 1)) := hr.deps ⟨14, .data⟩ (by simp) rfl _ _ rfl rfl
                have e69 : ρ (.tmp 69) = .int .i64 ((p : Int) + 1 + m) := hr.deps ⟨18, .data⟩ (by simp) rfl _ _ rfl rfl
                rcases (show k = 0 ∨ k = 1 by omega) with rfl | rfl
                all_goals exact ⟨rfl, .inl (by go_simp)⟩
            · rcases (show j = 0 ∨ j = 1 by omega) with rfl | rfl
              · change (_ : List Oper)[20]? = some o at ho
                simp only [List.getElem?_cons_succ, List.getElem?_cons_zero, Option.some.injEq] at ho
                subst ho
                have e70 : ρ (.tmp 70) = .agg #[.int .i64 p, .int .i64 c, .slice (some sa) m (cap - (p + 1)), .int .i64 ((p : Int) + 1 + m)] := hr.deps ⟨19, .data⟩ (by simp) rfl _ _ rfl rfl
                exact ⟨rfl, .inl (by go_simp)⟩
              · change (_ : List Oper)[21]? = some o at ho
                simp only [List.getElem?_cons_succ, List.getElem?_cons_zero, Option.some.injEq] at ho
                subst ho
                have e51 : ρ (.tmp 51) = .slice Y nn cv := hr.deps ⟨0, .data⟩ (by simp) rfl _ _ rfl rfl
                have e71 : ρ (.tmp 71) = .slice (some ⟨W1.heap.size, 0, none⟩) 1 1 := hr.deps ⟨20, .data⟩ (by simp) rfl _ _ rfl rfl
                exact ⟨rfl, .inl (by show (execOp ρ _).run _ (W1.drew.alloc _) = .ok (.value (.slice L2 (nn + 1) cl2)) w2; unfold execOp; simp only [resolve, invoke, builtin, Sem.run_bind, Sem.run_pure, Result.andThen_ok, List.map_toArray, List.map_cons, List.map_nil, e51, e71]; rw [hr2]; rfl)⟩
            · intro listed2 a2 hl2 hJ2
              have ha2 := jt_act hJ2 hl2 (by kernel_rfl) (by simp only [List.size_toArray]; kernel_rfl)
              simp only [putAll, List.getD_cons_zero, List.getD_cons_succ, Nat.zero_add, Nat.reduceAdd] at ha2
              subst ha2
              refine wpIn_oper_yld (v := .slice L2 (nn + 1) cl2) (w' := w2) rfl ⟨rfl, .inl (by go_simp)⟩ ?_
              clear hr2 s0 hx3 hx4 hsaO
              go_wp2
              refine ⟨⟨_, p + 1 + m, by go_num, ?_, by rw [HNN.out]; exact HO7.out.1, HO7.out.2.1, HO7.out.2.2⟩, by simp [intOf]; omega⟩
              rw [List.map_append]
              exact .snoc HRD.out HR.out
    · have hlt1 : ¬ (p : Int) < (bs.length : Int) := by omega
      obtain ⟨he, hwh⟩ := whole_end HRD.out hlt1
      have HE := Lib.hid he
      have HWH := Lib.hid hwh
      clear he hwh
      rcases List.eq_nil_or_concat xs with rfl | ⟨ys, x, hxs⟩
      · obtain ⟨Y, cv, rfl⟩ := owns_shape hown
        go_wp2
        exact bodyPost_ret (results_tmp2 rfl _ _ _) rfl (readOut7_mk [] _ false (read7_all HRD.out HE.out) (by rw [HWH.out]; rfl) rfl HOWN.out HPA.out hB)
      · rw [List.concat_eq_append] at hxs
        have hl : xs.length = ys.length + 1 := by rw [hxs]; simp
        have hcl : (insCells xs)[ys.length * 4]? = some (.int .i64 x.1.at_) ∧ (insCells xs)[ys.length * 4 + 1]? = some (.int .i64 x.1.code) ∧ (insCells xs)[ys.length * 4 + 2]? = some x.2 ∧ (insCells xs)[ys.length * 4 + 3]? = some (.int .i64 x.1.next) := insCells_at (by rw [hxs, List.getElem?_append_right (Nat.le_refl _), Nat.sub_self]; rfl)
        have hwv : wholeB bs = (opR x.1.code).ends := by
          rw [HWH.out, hxs, decide_eq_true (by simp)]
          simp
        obtain ⟨g1, c1, h1⟩ := owns_shape hown
        subst h1
        obtain ⟨gq, rfl⟩ := own_head hown (by omega)
        have c1' := (hown.cellAt (ys.length * 4 + 1) (by omega)).trans hcl.2.1
        generalize hm : xs.length = m at *
        rw [show ys.length * 4 + 1 = (m - 1) * 4 + 1 by omega] at c1'
        have hwr : wrap64 ((m : Int) - 1) = (m : Int) - 1 := wrap_sub (by omega) (by omega)
        have ht : ((m : Int) - 1).toNat = m - 1 := by omega
        have hz1' : (0 : Int) ≤ (m : Int) - 1 := by omega
        have hz2' : (m : Int) - 1 < m := by omega
        have hz5' : (0 : Int) < m := by omega
        have HM := Lib.hid (⟨hm, hwv⟩ : _ ∧ _)
        clear hl hm hxs hown hcl hwv
        cases hen : (opR x.1.code).ends with
        | false =>
          rw [hen] at HM
          go_wp2_with (go_at_call 51; refine (rends_any _ _).mono ?_; rw [hen]; rintro e w5 ⟨rfl, hb5⟩)
          exact bodyPost_ret (results_tmp2 rfl _ _ _) rfl (readOut7_mk xs _ _ (read7_all HRD.out HE.out) HM.out.2 rfl (by rw [HM.out.1]; exact own_below HOWN.out hb5) HPA.out (hB.trans (hb5.mono hB.size)))
        | true =>
          rw [hen] at HM
          go_wp2_with (go_at_call 51; refine (rends_any _ _).mono ?_; rw [hen]; rintro e w5 ⟨rfl, hb5⟩)
          exact bodyPost_ret (results_tmp2 rfl _ _ _) rfl (readOut7_mk xs _ _ (read7_all HRD.out HE.out) HM.out.2 rfl (by rw [HM.out.1]; exact own_below HOWN.out hb5) HPA.out (hB.trans (hb5.mono hB.size)))
end Go.Proofs.YtfjmdffhfjnopaaDoor
/- vouchref7.index: the numbers of the instructions by their places. -/
namespace Vouch
open Go.Proofs.YtfjmdffhfjnopaaDoor
/-- The number of the instruction that begins at a place; -1: none does. -/
def idxV (l : List Ins) (t : Nat) : Int := if startAt l t = true then (idxI l t : Int) else -1
theorem idxV_nil (t : Nat) : idxV [] t = -1 := by simp [idxV, startAt]
theorem idxV_snoc {l : List Ins} {i : Ins} {a : Nat} (hi : i.at_ = a) (hne : startAt l a = false) (t : Nat) : idxV (l ++ [i]) t = if t = a then (l.length : Int) else idxV l t := by
  have hst : startAt (l ++ [i]) t = (startAt l t || i.at_ == (t : Int)) := by simp [startAt]
  unfold idxV
  rw [hst]
  by_cases e : t = a
  · subst e
    rw [if_pos rfl, hne, hi]
    simp only [beq_self_eq_true, Bool.or_true, if_true]
    have hnl : ¬ l.findIdx (fun i => i.at_ == (t : Int)) < l.length := by
      rw [List.findIdx_lt_length]
      rintro ⟨x, hx, hp⟩
      have : startAt l t = true := by unfold startAt; rw [List.any_eq_true]; exact ⟨x, hx, hp⟩
      rw [hne] at this
      exact absurd this (by decide)
    unfold idxI
    rw [List.findIdx_append, if_neg hnl]
    simp [List.findIdx_cons, hi]
  · rw [if_neg e, show (i.at_ == (t : Int)) = false by rw [hi, beq_eq_false_iff_ne]; omega, Bool.or_false]
    by_cases h : startAt l t = true
    · rw [if_pos h, if_pos h]
      have hl : l.findIdx (fun i => i.at_ == (t : Int)) < l.length := by
        rw [List.findIdx_lt_length]
        unfold startAt at h
        rw [List.any_eq_true] at h
        exact h
      unfold idxI
      rw [List.findIdx_append, if_pos hl]
    · rw [if_neg h, if_neg h]
theorem start_none {bs : List Int} {l : List Ins} {p : Int} {a : Nat} (h : Reads bs l p) (hp : p ≤ a) : startAt l a = false := by
  cases hs : startAt l a with
  | false => rfl
  | true =>
    unfold startAt at hs
    obtain ⟨i, hi, he⟩ := List.any_eq_true.1 hs
    have := reads_lt h i hi
    have := beq_iff_eq.1 he
    omega
theorem idxV_good {bs : List Int} {t : Int} (h : goodTo bs.length (allI bs) t = true) : idxV (allI bs) t.toNat = (idxI (allI bs) t : Int) ∧ 0 ≤ t ∧ t < bs.length := by
  unfold goodTo at h
  simp only [Bool.and_eq_true, decide_eq_true_eq] at h
  refine ⟨?_, h.1.1, h.1.2⟩
  unfold idxV
  rw [if_pos h.2]
  congr 2
  omega
theorem idxV_bad {l : List Ins} {n : Nat} {t : Int} (h : goodTo n l t = false) : t < 0 ∨ (0 ≤ t ∧ (n : Int) ≤ t) ∨ (0 ≤ t ∧ t < n ∧ idxV l t.toNat = -1) := by
  unfold goodTo at h
  by_cases h1 : 0 ≤ t
  · by_cases h2 : t < n
    · rw [decide_eq_true h1, decide_eq_true h2] at h
      simp only [Bool.true_and] at h
      refine .inr (.inr ⟨h1, h2, ?_⟩)
      unfold idxV
      rw [h]
      rfl
    · exact .inr (.inl ⟨h1, by omega⟩)
  · exact .inl (by omega)
end Vouch
namespace Go.Proofs.YtfjmdffhfjnopaaDoor
open Go.RowKit Vouch Go.Vk Go.Sort
def IndexOut7 (bs : List Int) (w : World) (e : Ending) (w' : World) : Prop :=
  e = .returned (.slice (some ⟨w.heap.size, 0, none⟩) bs.length bs.length) ∧ w'.rowIs w.heap.size 3 bs.length (fun t => .int .i64 (idxV (allI bs) t)) ∧ Below w.heap.size w w'
set_option maxHeartbeats 1000000 in
set_option maxRecDepth 100000 in
theorem rindex7_any (bs : List Int) (xs : List El) (B : Nat) (L : Option Addr) (cl : Nat) (w : World) (hx : xs.map Prod.fst = allI bs) (hL : w.ownsRow B 94 4 (.slice L xs.length cl) xs.length (insCells xs)) (hn : bs.length ≤ 1048576) :
    Calls Tryd.prog 50 #[.slice L xs.length cl, .int .i64 bs.length] w (IndexOut7 bs w) := by
  have hmk := run_make_row' (P := Tryd.prog) 43 3 (.int .i64 0) 8 Tryd.underlying43 (by kernel_rfl) rfl .i64 .i64 bs.length (by omega) (by omega)
  have b0 := World.rowIs_made w (.int .i64 0) bs.length 3
  have hb0 : Below w.heap.size w (w.alloc (.cells (madeCells #[.int .i64 0] bs.length) 3)) := (Below.refl _ _).alloc (Nat.le_refl _) _
  have hxl : xs.length ≤ bs.length := by
    obtain ⟨q, hq, _⟩ := allI_reads bs
    have := reads_length hq
    rw [← hx, List.length_map] at this
    have := reads_pos hq
    omega
  have HX := Lib.hid hx
  have HL := Lib.hid hL
  clear hx hL
  go_enter Tryd.func50, Tryd.ntmps50
  go_wp2
  go_loopw [6] (fun vk wr => ∃ k : Nat, vk = .int .i64 k ∧ k ≤ bs.length ∧ wr.rowIs w.heap.size 3 bs.length (fun j => .int .i64 (if j < k then -1 else 0)) ∧ Below w.heap.size w wr) (fun vk _ => bs.length - (intOf vk).toNat)
  case atStart => exact ⟨0, rfl, Nat.zero_le _, b0.congr (fun j hj => by simp), hb0⟩
  case round =>
    clear b0 hb0 hmk
    obtain ⟨k, rfl, hk, hrow, hB⟩ := hrel
    by_cases hlt : k < bs.length
    · have h1 : (k : Int) < (bs.length : Int) := by omega
      have r0 := hrow.cell hlt
      have z0 := hrow.frozen k
      have HROW := Lib.hid hrow
      clear hrow
      go_wp2
      refine ⟨⟨k + 1, by go_num, by omega, (HROW.out.set k (.int .i64 (-1))).congr ?_, hB.setCell (by dsimp only; omega) _⟩, by simp [intOf]; omega⟩
      intro j hj
      by_cases e : j = k
      · subst e; simp
      · by_cases e2 : j < k
        · rw [if_neg e, if_pos e2, if_pos (by omega)]
        · rw [if_neg e, if_neg e2, if_neg (by omega)]
    · have h1 : ¬ (k : Int) < (bs.length : Int) := by omega
      have hrow0 : wr.rowIs w.heap.size 3 bs.length (fun t => .int .i64 (idxV ((xs.map Prod.fst).take 0) t)) := hrow.congr fun j hj => by rw [List.take_zero, idxV_nil, if_pos (by omega)]
      have HROW := Lib.hid hrow0
      clear hrow hrow0 h1
      obtain ⟨m, hm⟩ : ∃ m : Nat, m = bs.length := ⟨_, rfl⟩
      go_wp2
      go_loopw [7] (fun vk wr => ∃ k : Nat, vk = .int .i64 k ∧ k ≤ xs.length ∧ wr.rowIs w.heap.size 3 bs.length (fun t => .int .i64 (idxV ((xs.map Prod.fst).take k) t)) ∧ Below w.heap.size w wr) (fun vk _ => xs.length - (intOf vk).toNat)
      case atStart => exact ⟨0, rfl, Nat.zero_le _, HROW.out, hB⟩
      case round =>
        clear HROW hB hm
        obtain ⟨k, rfl, hk, hrow, hB⟩ := hrel
        by_cases hlt : k < xs.length
        · obtain ⟨⟨i, yv⟩, hy⟩ : ∃ y, xs[k]? = some y := ⟨_, List.getElem?_eq_getElem hlt⟩
          obtain ⟨hr1, _⟩ := insCells_at hy
          dsimp only at hr1
          obtain ⟨q0, hq0, _⟩ := allI_reads bs
          rw [← HX.out] at hq0
          obtain ⟨q, hq1, hq2⟩ : ∃ q, Reads bs ((xs.take k).map Prod.fst) q ∧ readE bs q = (0, i) := reads_at hq0 hy
          obtain ⟨hp0, hpn, hp5, hat, hnx, hil⟩ := read_next hq2
          obtain ⟨a, ha⟩ : ∃ a : Nat, i.at_ = a := ⟨i.at_.toNat, by omega⟩
          have hab : a < bs.length := by omega
          have hno : startAt ((xs.map Prod.fst).take k) a = false := by rw [← List.map_take]; exact start_none hq1 (by omega)
          have hown := own_below HL.out hB
          obtain ⟨gl, rfl⟩ := own_head hown (by omega)
          have c0 := (hown.cellAt (k * 4) (by omega)).trans hr1
          rw [ha] at c0
          have r0 := hrow.cell hab
          have z0 := hrow.frozen a
          have hT := take_fst7 hy
          have HT := Lib.hid hT
          have HA2 := Lib.hid (⟨ha, hno⟩ : _ ∧ _)
          have HROW := Lib.hid hrow
          have h1 : (k : Int) < (xs.length : Int) := by omega
          have h2 : (a : Int) < (bs.length : Int) := by omega
          clear hq1 hq2 hat hnx hr1 hy hT ha hrow hown hno hq0
          go_wp2
          refine ⟨⟨k + 1, by go_num, by omega, (HROW.out.set a (.int .i64 k)).congr ?_, hB.setCell (by dsimp only; omega) _⟩, by simp [intOf]; omega⟩
          intro j hj
          rw [HT.out, idxV_snoc HA2.out.1 HA2.out.2, List.length_take, List.length_map, show min k xs.length = k by omega]
          by_cases e : j = a
          · rw [if_pos e, if_pos e]
          · rw [if_neg e, if_neg e]
        · obtain rfl : xs.length = k := by omega
          have HROW := Lib.hid hrow
          clear hrow
          go_wp2
          go_ret
          refine ⟨rfl, HROW.out.congr (fun j hj => ?_), hB⟩
          rw [List.take_of_length_le (by simp), HX.out]
end Go.Proofs.YtfjmdffhfjnopaaDoor
/- vouchref7.turns, vouchref7.wrong: the document's answer. -/
namespace Go.Proofs.YtfjmdffhfjnopaaDoor
open Go.RowKit Vouch Go.Vk Go.Sort
theorem named_pair {i : Ins} (hs : standsI i = true) (h : i.code = 227 ∨ i.code = 229) : i.imm.length = 2 ∧ namedN i = pairN i.imm 0 := by
  refine ⟨?_, ?_⟩
  · rcases h with h | h
    · exact stands_len hs h (by unfold immL; rw [if_neg (by decide +kernel)]; decide +kernel)
    · exact stands_len hs h (by unfold immL; rw [if_neg (by decide +kernel)]; decide +kernel)
  · unfold namedN
    rw [if_pos hs, if_pos (by omega)]
theorem names7_any (i : Ins) (X : Option Addr) (c : Nat) (w w1 : World) (hb : Below w.heap.size w w1) (hi : InsOK w i X) (hs : standsI i = true) (h : i.code = 227 ∨ i.code = 229) :
    Calls Tryd.prog 48 #[insV i (.slice X i.imm.length c)] w1 fun e w' => e = .returned (.int .i64 (namedN i)) ∧ Below w1.heap.size w1 w' := by
  obtain ⟨h1, h2⟩ := named_pair hs h
  rw [h2]
  exact rnames_any i X c w1 (ints_below hb hi.1) hi.2.1 h1
set_option maxHeartbeats 1000000 in
set_option maxRecDepth 100000 in
theorem rturns7_any (ts : List Ty) (A : Option Addr) (capT s : Nat) (i : Ins) (X : Option Addr) (c : Nat) (w : World) (ht : TysAt w A ts) (hi : InsOK w i X) (hst : standsI i = true) (hn : NamesOK ts i) (hs : s < ts.length) :
    Calls Tryd.prog 53 #[.slice A ts.length capT, .int .i64 s, insV i (.slice X i.imm.length c)] w fun e w' => e = .returned (.tuple #[.int .i64 (turnsI ts (ts.getD s zeroT) i).1, .int .i64 (turnsI ts (ts.getD s zeroT) i).2]) ∧ Below w.heap.size w w' := by
  have hb0 : Below w.heap.size w (w.alloc (.cells #[.int .i64 i.at_, .int .i64 i.code, .slice X i.imm.length c, .int .i64 i.next] 94)) := (Below.refl _ _).alloc (Nat.le_refl _) _
  have hnew := heap_alloc_new w (.cells #[.int .i64 i.at_, .int .i64 i.code, .slice X i.imm.length c, .int .i64 i.next] 94)
  have HT := Lib.hid ht
  have HNM := Lib.hid (fun (w1 : World) (hb : Below w.heap.size w w1) (h : i.code = 227 ∨ i.code = 229) => names7_any i X c w w1 hb hi hst h)
  have HNE := Lib.hid (fun (w1 : World) (hb : Below w.heap.size w w1) => rneeds_any i.code X c i.imm w1 (ints_below hb hi.1) hi.2.1 (by have := hi.2.2.1; omega))
  clear ht hi hst
  by_cases h1 : i.code = 227
  · have hT : turnsI ts (ts.getD s zeroT) i = ((tyAt ts (namedN i)).inn, (tyAt ts (namedN i)).out) := by unfold turnsI; rw [if_pos h1]
    rw [hT]
    obtain ⟨n0, n1⟩ := hn (.inl h1)
    replace HNM := Lib.hid (fun w1 hb => HNM.out w1 hb (.inl h1))
    obtain ⟨n, hnn⟩ : ∃ n : Nat, namedN i = n := ⟨(namedN i).toNat, by omega⟩
    rw [hnn] at HNM ⊢
    have hnl : n < ts.length := by omega
    have hnl2 : (n : Int) < (ts.length : Int) := by omega
    obtain ⟨x, rfl, t0, t1, t2⟩ := HT.out n hnl
    have e : tyAt ts (n : Int) = ts.getD n zeroT := by unfold tyAt; rfl
    rw [e]
    generalize ts.getD n zeroT = ty at t0 t1 t2 ⊢
    clear HNE hT n0 n1 hn hnn HT e hs
    obtain ⟨at_, code, imm, next⟩ := i
    unfold insV at HNM ⊢
    dsimp only at *
    subst h1
    have v0 := cell_later hb0 t0
    have v1 := cell_later hb0 t1
    generalize hW1 : w.alloc (.cells #[.int .i64 at_, .int .i64 227, .slice X imm.length c, .int .i64 next] 94) = W1 at hb0 hnew v0 v1
    obtain ⟨q0, q1, q2, q3, qf, ql⟩ := cells4 hnew
    have u0 := fun d os => cell_regrown q0 d os
    have u1 := fun d os => cell_regrown q1 d os
    have u2 := fun d os => cell_regrown q2 d os
    have u3 := fun d os => cell_regrown q3 d os
    have u4 := fun d os => cell_regrown v0 d os
    have u5 := fun d os => cell_regrown v1 d os
    have uN := fun d os => calls_grown (w := W1) (fun w2 hb => HNM.out w2 (hb0.trans (hb.mono hb0.size))) d os
    go_enter Tryd.func53, Tryd.ntmps53
    go_wp2
    refine wp_region_quiet_below (by kernel_rfl) (by kernel_rfl) ?_
    repeat (refine wpQuiet_step (fun K hK => ?_); go_simp; first | (refine hK _ ?_; clear hK K) | (apply Exists.intro; refine ⟨fun _ => ?_, hK _ ?_⟩; with_reducible exact uN _ _; clear hK K))
    refine wpQuiet_nil ?_
    rintro _ ⟨pq, rfl⟩
    have hb2 := below_regrown W1 pq.d pq.os
    go_wp2
    exact bodyPost_ret (results_tmp2 rfl _ _ _) rfl ⟨rfl, hb0.trans (hb2.mono hb0.size)⟩
  · by_cases h2 : i.code = 229
    · have hT : turnsI ts (ts.getD s zeroT) i = ((tyAt ts (namedN i)).inn, 0) := by unfold turnsI; rw [if_neg h1, if_pos h2]
      rw [hT]
      obtain ⟨n0, n1⟩ := hn (.inr h2)
      replace HNM := Lib.hid (fun w1 hb => HNM.out w1 hb (.inr h2))
      obtain ⟨n, hnn⟩ : ∃ n : Nat, namedN i = n := ⟨(namedN i).toNat, by omega⟩
      rw [hnn] at HNM ⊢
      have hnl : n < ts.length := by omega
      have hnl2 : (n : Int) < (ts.length : Int) := by omega
      obtain ⟨x, rfl, t0, t1, t2⟩ := HT.out n hnl
      have e : tyAt ts (n : Int) = ts.getD n zeroT := by unfold tyAt; rfl
      rw [e]
      generalize ts.getD n zeroT = ty at t0 t1 t2 ⊢
      clear HNE hT n0 n1 hn hnn HT e h1 hs
      obtain ⟨at_, code, imm, next⟩ := i
      unfold insV at HNM ⊢
      dsimp only at *
      subst h2
      obtain ⟨q0, q1, q2, q3, qf, ql⟩ := cells4 hnew
      go_enter Tryd.func53, Tryd.ntmps53
      go_wp2_with (go_at_call 48; refine stop_o ?_)
      unfold StopO
      refine (HNM.out _ hb0).mono ?_
      rintro e W1 ⟨rfl, hb1⟩
      have hB := hb0.trans (hb1.mono hb0.size)
      have v0 := cell_later hB t0
      clear hb1 hb0 HNM q0 q1 q2 q3 qf ql hnew t0 t1 t2
      go_wp2
      exact bodyPost_ret (results_tmp2 rfl _ _ _) rfl ⟨rfl, hB⟩
    · have e1 : (i.code == 227) = false := by rw [beq_eq_false_iff_ne]; exact h1
      have e2 : (i.code == 229) = false := by rw [beq_eq_false_iff_ne]; exact h2
      by_cases h3 : i.code = 228
      · have hT : turnsI ts (ts.getD s zeroT) i = ((ts.getD s zeroT).out, 0) := by unfold turnsI; rw [if_neg h1, if_neg h2, if_pos h3]
        rw [hT]
        obtain ⟨x, rfl, t0, t1, t2⟩ := HT.out s hs
        have hnl2 : (s : Int) < (ts.length : Int) := by omega
        generalize ts.getD s zeroT = ty at t0 t1 t2 ⊢
        have v1 := cell_later hb0 t1
        clear HNM HNE hT hn h1 h2 HT e1 e2 t0 t1 t2
        obtain ⟨at_, code, imm, next⟩ := i
        unfold insV
        dsimp only at *
        subst h3
        obtain ⟨q0, q1, q2, q3, qf, ql⟩ := cells4 hnew
        go_enter Tryd.func53, Tryd.ntmps53
        go_wp2
        exact bodyPost_ret (results_tmp2 rfl _ _ _) rfl ⟨rfl, hb0⟩
      · have hT : turnsI ts (ts.getD s zeroT) i = ((needsOf i.code i.imm).1, (needsOf i.code i.imm).2.1) := by unfold turnsI; rw [if_neg h1, if_neg h2, if_neg h3]
        have e3 : (i.code == 228) = false := by rw [beq_eq_false_iff_ne]; exact h3
        rw [hT]
        unfold needsV at HNE
        generalize needsOf i.code i.imm = r at HNE ⊢
        obtain ⟨r0, r1, r2⟩ := r
        clear HNM hT hn h1 h2 h3 HT hs
        obtain ⟨at_, code, imm, next⟩ := i
        unfold insV
        dsimp only at *
        obtain ⟨q0, q1, q2, q3, qf, ql⟩ := cells4 hnew
        go_enter Tryd.func53, Tryd.ntmps53
        go_wp2_with (go_at_call 63; refine (HNE.out _ hb0).mono ?_; rintro e W1 ⟨rfl, hb1⟩)
        exact bodyPost_ret (results_tmp2 rfl _ _ _) rfl ⟨rfl, hb0.trans (hb1.mono hb0.size)⟩
def WrongR (r code a b tin tout o ty_out ty_inn ty_most : Int) : Prop :=
  r = if code = 228 then (if a = o ∧ b = o then 0 else 74)
      else if a < tin then 70
      else if (code = 227 ∨ code = 229) ∧ 1024 < b - tin + ty_most then 71
      else if code = 229 then (if ty_out ≠ 128 ∧ ¬ (a = o - ty_out + ty_inn ∧ b = o - ty_out + ty_inn) then 74 else 0)
      else if 1023 < b - tin + tout then 71 else 0
set_option maxHeartbeats 1000000 in
set_option maxRecDepth 100000 in
theorem rwrong7_any (ts : List Ty) (A : Option Addr) (capT s : Nat) (i : Ins) (X : Option Addr) (c : Nat) (a b : Int) (w : World) (ht : TysAt w A ts) (hi : InsOK w i X) (hst : standsI i = true) (hn : NamesOK ts i) (hs : s < ts.length)
    (hts : ∀ t ∈ ts, tyOK t = true) (hh : -100000 ≤ a ∧ a ≤ 100000 ∧ -100000 ≤ b ∧ b ≤ 100000) :
    Calls Tryd.prog 54 #[.slice A ts.length capT, .int .i64 s, insV i (.slice X i.imm.length c), .int .i64 a, .int .i64 b] w fun e w' => e = .returned (.int .i64 (wrongI ts (ts.getD s zeroT) i (a, b))) ∧ Below w.heap.size w w' := by
  have hb0 : Below w.heap.size w (w.alloc (.cells #[.int .i64 i.at_, .int .i64 i.code, .slice X i.imm.length c, .int .i64 i.next] 94)) := (Below.refl _ _).alloc (Nat.le_refl _) _
  have hI := heap_alloc_new w (.cells #[.int .i64 i.at_, .int .i64 i.code, .slice X i.imm.length c, .int .i64 i.next] 94)
  have HNM := Lib.hid (fun (w1 : World) (hb : Below w.heap.size w w1) (h : i.code = 227 ∨ i.code = 229) => names7_any i X c w w1 hb hi hst h)
  have HTU := Lib.hid (fun (w1 : World) (hb : Below w.heap.size w w1) => rturns7_any ts A capT s i X c w1 (tys_below ht hb) (insok_below hi hb) hst hn hs)
  have hso : tyOK (ts.getD s zeroT) = true := by
    rw [List.getD_eq_getElem?_getD, List.getElem?_eq_getElem hs]
    exact hts _ (List.getElem_mem hs)
  have htb := turnsI_bounds hts hso hi.2.1
  have hob := tyOK_iff hso
  obtain ⟨x, rfl, t0, t1, t2⟩ := ht s hs
  have hr : ∀ r, wrongI ts (ts.getD s zeroT) i (a, b) = r → WrongR r i.code a b (turnsI ts (ts.getD s zeroT) i).1 (turnsI ts (ts.getD s zeroT) i).2 (ts.getD s zeroT).out (tyAt ts (namedN i)).out (tyAt ts (namedN i)).inn (tyAt ts (namedN i)).most := fun r h => by unfold WrongR; rw [← h]; rfl
  obtain ⟨r, hre⟩ : ∃ r, wrongI ts (ts.getD s zeroT) i (a, b) = r := ⟨_, rfl⟩
  have HR := Lib.hid (hr r hre)
  rw [hre]
  have HTY := Lib.hid (fun (h : i.code = 227 ∨ i.code = 229) => (⟨hn h, tyOK_iff (t := tyAt ts (namedN i)) (by
    have := hn h
    unfold tyAt
    rw [List.getD_eq_getElem?_getD, List.getElem?_eq_getElem (by omega)]
    exact hts _ (List.getElem_mem _))⟩ : _ ∧ _))
  have HT := Lib.hid ht
  have hnl2 : (s : Int) < (ts.length : Int) := by omega
  clear ht hi hst hn hso hr hre t0 t2 hts
  generalize (turnsI ts (ts.getD s zeroT) i).1 = tin at HTU htb HR
  generalize (turnsI ts (ts.getD s zeroT) i).2 = tout at HTU htb HR
  generalize (ts.getD s zeroT).out = o at t1 HR hob
  clear hs
  have hv0 := hob
  have v1 := cell_later hb0 t1
  have hv1 : IntKind.i64.wrap (b - tin) = b - tin := by rw [IntKind.wrap_i64]; omega
  have hv2 : IntKind.i64.wrap (b - tin + tout) = b - tin + tout := by rw [IntKind.wrap_i64]; omega
  have hw1 : wrap64 (b - tin) = b - tin := by simp only [wrap64]; omega
  have hw2 : wrap64 (b - tin + tout) = b - tin + tout := by simp only [wrap64]; omega
  obtain ⟨at_, code, imm, next⟩ := i
  unfold insV at *
  dsimp only at *
  by_cases h1 : code = 228
  · subst h1
    go_enter Tryd.func54, Tryd.ntmps54
    go_wp2_with (go_at_call 53; refine stop_o ?_)
    unfold StopO
    refine (HTU.out _ hb0).mono ?_
    rintro e W1 ⟨rfl, hb1⟩
    have hB := hb0.trans (hb1.mono hb0.size)
    have hI1 := kept_of hb1 hI
    obtain ⟨q0, q1, q2, q3, qf, ql⟩ := cells4 hI1
    replace v1 := cell_later hb1 v1
    clear hb1 hb0 HTU hI t1
    by_cases ha : a = o
    · by_cases hb : b = o
      · have g1 : (a != o) = false := by rw [bne_eq_false_iff_eq]; exact ha
        have g2 : (b != o) = false := by rw [bne_eq_false_iff_eq]; exact hb
        have hr : r = 0 := by
          have := HR.out
          unfold WrongR at this
          rw [this]
          repeat' split
          all_goals omega
        clear HR
        subst hr
        go_wp2
        exact bodyPost_ret (results_tmp rfl _ _ _) rfl ⟨rfl, hB⟩
      · have g1 : (a != o) = false := by rw [bne_eq_false_iff_eq]; exact ha
        have g2 : (b != o) = true := by rw [bne_iff_ne]; exact hb
        have hr : r = 74 := by
          have := HR.out
          unfold WrongR at this
          rw [this]
          repeat' split
          all_goals omega
        clear HR
        subst hr
        go_wp2
        exact bodyPost_ret (results_tmp rfl _ _ _) rfl ⟨rfl, hB⟩
    · have g1 : (a != o) = true := by rw [bne_iff_ne]; exact ha
      have hr : r = 74 := by
        have := HR.out
        unfold WrongR at this
        rw [this]
        repeat' split
        all_goals omega
      clear HR
      subst hr
      go_wp2
      exact bodyPost_ret (results_tmp rfl _ _ _) rfl ⟨rfl, hB⟩
  · have e1 : (code == 228) = false := by rw [beq_eq_false_iff_ne]; exact h1
    by_cases h2 : a < tin
    · go_enter Tryd.func54, Tryd.ntmps54
      go_wp2_with (go_at_call 53; refine stop_o ?_)
      unfold StopO
      refine (HTU.out _ hb0).mono ?_
      rintro e W1 ⟨rfl, hb1⟩
      have hB := hb0.trans (hb1.mono hb0.size)
      have hI1 := kept_of hb1 hI
      obtain ⟨q0, q1, q2, q3, qf, ql⟩ := cells4 hI1
      replace v1 := cell_later hb1 v1
      clear hb1 hb0 HTU hI t1
      have hr : r = 70 := by
        have := HR.out
        unfold WrongR at this
        rw [this]
        repeat' split
        all_goals omega
      clear HR
      subst hr
      go_wp2
      exact bodyPost_ret (results_tmp rfl _ _ _) rfl ⟨rfl, hB⟩
    · by_cases h3 : code = 227 ∨ code = 229
      · obtain ⟨⟨n0, n1⟩, htyb⟩ := HTY.out h3
        replace HNM := Lib.hid (fun w1 hb => HNM.out w1 hb h3)
        obtain ⟨n, hnn⟩ : ∃ n : Nat, namedN ⟨at_, code, imm, next⟩ = n := ⟨(namedN ⟨at_, code, imm, next⟩).toNat, by omega⟩
        rw [hnn] at HNM HR htyb n1
        have hnl : n < ts.length := by omega
        have hnl3 : (n : Int) < (ts.length : Int) := by omega
        obtain ⟨x', hx', t0, t1', t2⟩ := HT.out n hnl
        cases hx'
        rw [show tyAt ts (n : Int) = ts.getD n zeroT by unfold tyAt; rfl] at HR htyb
        generalize ts.getD n zeroT = ty at HR htyb t0 t1' t2
        have hw3 : wrap64 (b - tin + ty.most) = b - tin + ty.most := by simp only [wrap64]; omega
        have hw4 : wrap64 (o - ty.out) = o - ty.out := by simp only [wrap64]; omega
        have hw5 : wrap64 (o - ty.out + ty.inn) = o - ty.out + ty.inn := by simp only [wrap64]; omega
        have hv3 : IntKind.i64.wrap (b - tin + ty.most) = b - tin + ty.most := by rw [IntKind.wrap_i64]; omega
        clear HTY HT n0 n1 hnn hnl htyb
        go_enter Tryd.func54, Tryd.ntmps54
        go_wp2_with (go_at_call 53; refine stop_o ?_)
        unfold StopO
        refine (HTU.out _ hb0).mono ?_
        rintro e W1 ⟨rfl, hb1⟩
        have hB := hb0.trans (hb1.mono hb0.size)
        have hI1 := kept_of hb1 hI
        obtain ⟨q0, q1, q2, q3, qf, ql⟩ := cells4 hI1
        replace v1 := cell_later hb1 v1
        clear hb1 hb0 HTU hI t1
        replace t0 := cell_later hB t0
        replace t1' := cell_later hB t1'
        replace t2 := cell_later hB t2
        have hk : (code == 227) = true ∨ (code == 227) = false ∧ (code == 229) = true := by
          rcases h3 with rfl | rfl
          · exact .inl rfl
          · exact .inr ⟨rfl, rfl⟩
        rcases h3 with rfl | rfl
        · clear hk
          go_wp2_with (go_at_call 48; refine stop_o ?_)
          unfold StopO
          refine (HNM.out _ hB).mono ?_
          rintro e W2 ⟨rfl, hb2⟩
          have hB2 := hB.trans (hb2.mono hB.size)
          obtain ⟨q0, q1, q2, q3, qf, ql⟩ := cells4 (kept_of hb2 hI1)
          replace t2 := cell_later hb2 t2
          clear HNM hI1 hb2 hB t0 t1' v1
          by_cases h4 : 1024 < b - tin + ty.most
          · skip
            have hr : r = 71 := by
              have := HR.out
              unfold WrongR at this
              rw [this]
              repeat' split
              all_goals omega
            clear HR
            subst hr
            go_wp2
            exact bodyPost_ret (results_tmp rfl _ _ _) rfl ⟨rfl, hB2⟩
          · by_cases h5 : 1023 < b - tin + tout
            · skip
              have hr : r = 71 := by
                have := HR.out
                unfold WrongR at this
                rw [this]
                repeat' split
                all_goals omega
              clear HR
              subst hr
              go_wp2
              exact bodyPost_ret (results_tmp rfl _ _ _) rfl ⟨rfl, hB2⟩
            · skip
              have hr : r = 0 := by
                have := HR.out
                unfold WrongR at this
                rw [this]
                repeat' split
                all_goals omega
              clear HR
              subst hr
              go_wp2
              exact bodyPost_ret (results_tmp rfl _ _ _) rfl ⟨rfl, hB2⟩
        · clear hk
          go_wp2_with (go_at_call 48; refine stop_o ?_)
          unfold StopO
          refine (HNM.out _ hB).mono ?_
          rintro e W2 ⟨rfl, hb2⟩
          have hB2 := hB.trans (hb2.mono hB.size)
          have hI2 := kept_of hb2 hI1
          obtain ⟨q0, q1, q2, q3, qf, ql⟩ := cells4 hI2
          replace t0 := cell_later hb2 t0
          replace t1' := cell_later hb2 t1'
          replace t2 := cell_later hb2 t2
          clear hI1 hb2 hB v1
          by_cases h4 : 1024 < b - tin + ty.most
          · clear HNM
            have hr : r = 71 := by
              have := HR.out
              unfold WrongR at this
              rw [this]
              repeat' split
              all_goals omega
            clear HR
            subst hr
            go_wp2
            exact bodyPost_ret (results_tmp rfl _ _ _) rfl ⟨rfl, hB2⟩
          · have HNM2 := HNM.out _ hB2
            clear HNM
            go_wp2_with (go_at_call 48; refine stop_o ?_)
            unfold StopO
            refine HNM2.mono ?_
            rintro e W3 ⟨rfl, hb3⟩
            have hB3 := hB2.trans (hb3.mono hB2.size)
            replace t0 := cell_later hb3 t0
            replace t1' := cell_later hb3 t1'
            replace t2 := cell_later hb3 t2
            have hB4 := hB3.alloc hB3.size (.cells #[.int .i64 ty.inn, .int .i64 ty.out, .int .i64 ty.most] 35)
            obtain ⟨z0, z1, z2, zf, zl⟩ := cells3 (heap_alloc_new W3 (.cells #[.int .i64 ty.inn, .int .i64 ty.out, .int .i64 ty.most] 35))
            clear q0 q1 q2 q3 qf ql hB2 HNM2 hI2
            by_cases h5 : ty.out = 128
            · have g1 : (ty.out != 128) = false := by rw [bne_eq_false_iff_eq]; exact h5
              have hr : r = 0 := by
                have := HR.out
                unfold WrongR at this
                rw [this]
                repeat' split
                all_goals omega
              clear HR
              subst hr
              go_wp2
              rw [h5] at hB4
              exact bodyPost_ret (results_tmp rfl _ _ _) rfl ⟨rfl, hB4⟩
            · have g1 : (ty.out != 128) = true := by rw [bne_iff_ne]; exact h5
              by_cases ha : a = o - ty.out + ty.inn
              · have g2 : (a != o - ty.out + ty.inn) = false := by rw [bne_eq_false_iff_eq]; exact ha
                by_cases hb : b = o - ty.out + ty.inn
                · have g3 : (b != o - ty.out + ty.inn) = false := by rw [bne_eq_false_iff_eq]; exact hb
                  have hr : r = 0 := by
                    have := HR.out
                    unfold WrongR at this
                    rw [this]
                    repeat' split
                    all_goals omega
                  clear HR
                  subst hr
                  go_wp2
                  exact bodyPost_ret (results_tmp rfl _ _ _) rfl ⟨rfl, hB4⟩
                · have g3 : (b != o - ty.out + ty.inn) = true := by rw [bne_iff_ne]; exact hb
                  have hr : r = 74 := by
                    have := HR.out
                    unfold WrongR at this
                    rw [this]
                    repeat' split
                    all_goals omega
                  clear HR
                  subst hr
                  go_wp2
                  exact bodyPost_ret (results_tmp rfl _ _ _) rfl ⟨rfl, hB4⟩
              · have g2 : (a != o - ty.out + ty.inn) = true := by rw [bne_iff_ne]; exact ha
                have hr : r = 74 := by
                  have := HR.out
                  unfold WrongR at this
                  rw [this]
                  repeat' split
                  all_goals omega
                clear HR
                subst hr
                go_wp2
                exact bodyPost_ret (results_tmp rfl _ _ _) rfl ⟨rfl, hB4⟩
      · have e2 : (code == 227) = false := by rw [beq_eq_false_iff_ne]; omega
        have e3 : (code == 229) = false := by rw [beq_eq_false_iff_ne]; omega
        have e4 : (code != 229) = true := by rw [bne_iff_ne]; omega
        clear HTY HT HNM
        go_enter Tryd.func54, Tryd.ntmps54
        go_wp2_with (go_at_call 53; refine stop_o ?_)
        unfold StopO
        refine (HTU.out _ hb0).mono ?_
        rintro e W1 ⟨rfl, hb1⟩
        have hB := hb0.trans (hb1.mono hb0.size)
        have hI1 := kept_of hb1 hI
        obtain ⟨q0, q1, q2, q3, qf, ql⟩ := cells4 hI1
        replace v1 := cell_later hb1 v1
        clear hb1 hb0 HTU hI t1
        by_cases h5 : 1023 < b - tin + tout
        · skip
          have hr : r = 71 := by
            have := HR.out
            unfold WrongR at this
            rw [this]
            repeat' split
            all_goals omega
          clear HR
          subst hr
          go_wp2
          exact bodyPost_ret (results_tmp rfl _ _ _) rfl ⟨rfl, hB⟩
        · skip
          have hr : r = 0 := by
            have := HR.out
            unfold WrongR at this
            rw [this]
            repeat' split
            all_goals omega
          clear HR
          subst hr
          go_wp2
          exact bodyPost_ret (results_tmp rfl _ _ _) rfl ⟨rfl, hB⟩
end Go.Proofs.YtfjmdffhfjnopaaDoor
/- vouchref7.may: may types, section and code be; the document's answer. -/
namespace Vouch
open Go.Proofs.YtfjmdffhfjnopaaDoor
theorem may_whole {ts : List Ty} {s : Int} {bs : List Int} (h : wholeB bs = false) : mayB ts s bs = false := by
  unfold wholeB at h
  have h0 : ¬ (scanE bs (allI bs)).1 = 0 := of_decide_eq_false h
  refine may_check fun hc => h0 ?_
  unfold checkE at hc
  rw [if_neg h0] at hc
  exact hc
theorem may_bad {ts : List Ty} {s : Int} {bs : List Int} {k : Nat} (hk : k < (allI bs).length) (h : badI bs.length (allI bs) ((allI bs).getD k zeroI) = true) : mayB ts s bs = false := by
  refine may_check fun hc => ?_
  have := (check_parts hc).2 ((allI bs).getD k zeroI) (by rw [List.getD_eq_getElem?_getD, List.getElem?_eq_getElem hk]; exact List.getElem_mem hk)
  unfold badI at h
  obtain ⟨t, ht, hb⟩ := List.any_eq_true.1 h
  rw [this t ht] at hb
  exact absurd hb (by decide)
end Vouch
namespace Go.Proofs.YtfjmdffhfjnopaaDoor
open Go.RowKit Vouch Go.Vk Go.Sort
def MayOut7 (ts : List Ty) (s : Int) (bs : List Int) (w : World) (e : Ending) (w' : World) : Prop :=
  (mayB ts s bs = false ∧ e = .returned (.tuple #[.slice none 0 0, .bool false]) ∧ Below w.heap.size w w') ∨
  (mayB ts s bs = true ∧ ∃ (xs : List El) (L : Option Addr) (cl : Nat), xs.map Prod.fst = allI bs ∧ e = .returned (.tuple #[.slice L xs.length cl, .bool true]) ∧ w'.ownsRow w.heap.size 94 4 (.slice L xs.length cl) xs.length (insCells xs) ∧ PartsAt w' xs ∧ Below w.heap.size w w')
theorem mayOut7_no {ts : List Ty} {s : Int} {bs : List Int} {w w' : World} {e : Ending} (h : mayB ts s bs = false) (he : e = .returned (.tuple #[.slice none 0 0, .bool false])) (hb : Below w.heap.size w w') : MayOut7 ts s bs w e w' := .inl ⟨h, he, hb⟩
/-- The instruction number k of those that were read. -/
theorem part_at {bs : List Int} {xs : List El} {w : World} {k : Nat} (hx : xs.map Prod.fst = allI bs) (hp : PartsAt w xs) (hz : ∀ z ∈ bs, 0 ≤ z ∧ z < 256) (hn : bs.length ≤ 1048576) (hk : k < xs.length) :
    ∃ i X c, (allI bs).getD k zeroI = i ∧ xs[k]? = some (i, .slice X i.imm.length c) ∧ InsOK w i X ∧ standsI i = true ∧ k < (allI bs).length ∧ readE bs i.at_ = (0, i) := by
  have hl : k < (allI bs).length := by rw [← hx]; simpa using hk
  obtain ⟨X, c, h1, h2⟩ := hp xs[k] (List.getElem_mem hk)
  have e : (allI bs).getD k zeroI = (xs[k]).1 := by rw [← hx, List.getD_eq_getElem?_getD]; simp [hk]
  obtain ⟨k0, k1, k2, k3, k4, k5, k6⟩ := ins_known hz (by omega) hl
  rw [e] at k0 k1 k2 k3 k4 k5 k6
  refine ⟨(xs[k]).1, X, c, e, ?_, ⟨h2, k1, by omega, wf64 (by omega) (by omega)⟩, k0, hl, k6⟩
  rw [List.getElem?_eq_getElem hk, ← h1]
set_option maxHeartbeats 2000000 in
set_option maxRecDepth 100000 in
theorem rmay7_any (ts : List Ty) (A : Option Addr) (capT : Nat) (s : Int) (bs : List Int) (B : Option Addr) (capB : Nat) (w : World) (ht : TysAt w A ts) (hc : IntsAt w .u8 B bs) (hz : ∀ z ∈ bs, 0 ≤ z ∧ z < 256) (hn : bs.length ≤ 1048576) (hcap : bs.length ≤ capB) (htn : ts.length ≤ 1048576) :
    Calls Tryd.prog 49 #[.slice A ts.length capT, .int .i64 s, .slice B bs.length capB] w (MayOut7 ts s bs w) := by
  have HT := Lib.hid ht
  have HZ := Lib.hid hz
  have HC := Lib.hid hc
  clear ht hz hc
  by_cases h0 : s < 0
  · go_enter Tryd.func49, Tryd.ntmps49
    go_wp2
    exact bodyPost_ret (results_tmp2 rfl _ _ _) rfl (mayOut7_no (may_no (by omega)) rfl (Below.refl _ _))
  by_cases h1 : (ts.length : Int) ≤ s
  · go_enter Tryd.func49, Tryd.ntmps49
    go_wp2
    exact bodyPost_ret (results_tmp2 rfl _ _ _) rfl (mayOut7_no (may_no (by omega)) rfl (Below.refl _ _))
  have H01 := Lib.hid (⟨h0, h1⟩ : _ ∧ _)
  go_enter Tryd.func49, Tryd.ntmps49
  go_wp2
  go_loopw [8] (fun vi wr => ∃ k : Nat, vi = .int .i64 k ∧ k ≤ ts.length ∧ (∀ j, j < k → tyOK (ts.getD j zeroT) = true) ∧ Below w.heap.size w wr) (fun vi _ => ts.length - (intOf vi).toNat)
  case atStart => exact ⟨0, rfl, by omega, fun j hj => by omega, Below.refl _ _⟩
  case round =>
    obtain ⟨k, rfl, hk, hok, hB⟩ := hrel
    by_cases hkl : k < ts.length
    · have hki : (k : Int) < (ts.length : Int) := by omega
      obtain ⟨x, rfl, t0, t1, t2⟩ := HT.out k hkl
      replace t0 := cell_later hB t0
      replace t1 := cell_later hB t1
      replace t2 := cell_later hB t2
      have HOK := Lib.hid hok
      clear hok
      obtain ⟨ty, hty⟩ : ∃ ty, ty = ts.getD k zeroT := ⟨_, rfl⟩
      rw [← hty] at t0 t1 t2
      have HTY := Lib.hid hty
      clear hty
      have hba := hB.alloc hB.size (.cells #[.int .i64 ty.inn, .int .i64 ty.out, .int .i64 ty.most] 35)
      have HBA := Lib.hid hba
      obtain ⟨z0, z1, z2, zf, zl⟩ := cells3 (heap_alloc_new wr (.cells #[.int .i64 ty.inn, .int .i64 ty.out, .int .i64 ty.most] 35))
      clear hB hba
      cases hb : tyOK ty with
      | true =>
        have h6 := tyOK_iff hb
        have g0 : ¬ ty.inn < 0 := by omega
        have g1 : ¬ 127 < ty.inn := by omega
        have g2 : ¬ ty.out < 0 := by omega
        have g3 : ¬ 128 < ty.out := by omega
        have g4 : ¬ ty.most < 0 := by omega
        have g5 : ¬ 1023 < ty.most := by omega
        have HB := Lib.hid hb
        clear h6 hb
        go_wp2
        exact ⟨⟨k + 1, by go_num, by omega, fun j hj => by
          rcases (show j < k ∨ j = k by omega) with h | rfl
          · exact HOK.out j h
          · rw [← HTY.out]; exact HB.out, HBA.out⟩, by simp [intOf]; omega⟩
      | false =>
        have HM := Lib.hid (may_ty (s := s) (bs := bs) hkl (by rw [← HTY.out]; exact hb))
        rcases tyOK_false hb with h | h | h | h | h | h
        all_goals
          clear hb
          go_wp2
          exact bodyPost_ret (results_tmp2 rfl _ _ _) rfl (mayOut7_no HM.out rfl HBA.out)
    · have hki : ¬ (k : Int) < (ts.length : Int) := by omega
      obtain rfl : k = ts.length := by omega
      have HOKT := Lib.hid hok
      clear hok
      obtain ⟨W1, hW1⟩ : ∃ W1, W1 = wr := ⟨_, rfl⟩
      subst hW1
      have HRD := Lib.hid (rread7_any bs B capB W1 (ints_below hB HC.out) HZ.out hn hcap)
      have HB := Lib.hid hB
      clear hB
      go_wp2_with (go_at_call 47; refine stop_o ?_)
      unfold StopO
      refine HRD.out.mono ?_
      rintro e W2 ⟨xs, v, hx, rfl, hown, hpa, hb2⟩
      obtain ⟨L, cl, rfl⟩ := owns_shape hown
      have hB2 := HB.out.trans (hb2.mono HB.out.size)
      have HB2 := Lib.hid hB2
      have HX := Lib.hid hx
      have HOWN := Lib.hid hown
      have HPA := Lib.hid (show PartsAt W2 xs from fun x hx => by obtain ⟨X, c, a1, a2⟩ := hpa x hx; exact ⟨X, c, a1, ints_below hb2 a2⟩)
      have HPW := Lib.hid (HB.out.size)
      clear HRD hpa hB2 hx hown
      cases hw : wholeB bs with
      | false =>
        have HM := Lib.hid (may_whole (ts := ts) (s := s) hw)
        clear hw
        go_wp2
        exact bodyPost_ret (results_tmp2 rfl _ _ _) rfl (mayOut7_no HM.out rfl HB2.out)
      | true =>
        have HW := Lib.hid hw
        clear hw
        have HIX := Lib.hid (rindex7_any bs xs _ L cl W2 HX.out HOWN.out hn)
        have hxl : xs.length ≤ bs.length := by
          obtain ⟨q, hq, _⟩ := allI_reads bs
          have := reads_length hq
          rw [← HX.out, List.length_map] at this
          have := reads_pos hq
          omega
        go_wp2_with (go_at_call 50; refine stop_o ?_)
        unfold StopO
        refine HIX.out.mono ?_
        rintro e W3 ⟨rfl, hrow, hb3⟩
        have hB3 := HB2.out.trans (hb3.mono HB2.out.size)
        have HB3 := Lib.hid hB3
        have HOWN3 := Lib.hid (own_below HOWN.out hb3)
        have HROW := Lib.hid hrow
        have HPA3 := Lib.hid (show PartsAt W3 xs from fun x hx => by obtain ⟨X, c, a1, a2⟩ := HPA.out x hx; exact ⟨X, c, a1, ints_below hb3 a2⟩)
        obtain ⟨gx, hgx⟩ : ∃ gx, W2.heap.size = gx := ⟨_, rfl⟩
        rw [hgx] at HROW ⊢
        clear HIX hB3 hrow hgx hb3 HPA HOWN hb2 HB HB2
        obtain ⟨n, hnn⟩ : ∃ n : Nat, s = n := ⟨s.toNat, by have := H01.out; omega⟩
        subst hnn
        have hnl : n < ts.length := by have := H01.out; omega
        have hnl2 : (n : Int) < (ts.length : Int) := by omega
        obtain ⟨x, rfl, t0, t1, t2⟩ := HT.out n hnl
        replace t1 := cell_later HB3.out t1
        have hownE : tyAt ts (n : Int) = ts.getD n zeroT := by unfold tyAt; rfl
        obtain ⟨own, hown⟩ : ∃ own, own = ts.getD n zeroT := ⟨_, rfl⟩
        rw [← hown] at t1 hownE
        have HOWNT := Lib.hid hownE
        clear hown hownE t0 t2
        go_wp2
        clear t1
        go_loopw [14] (fun vi wr => ∃ k : Nat, vi = .int .i64 k ∧ k ≤ xs.length ∧ (∀ j, j < k → badI bs.length (allI bs) ((allI bs).getD j zeroI) = false ∧ namedOK ts own ((allI bs).getD j zeroI) = true) ∧ Below W3.heap.size W3 wr) (fun vi _ => xs.length - (intOf vi).toNat)
        case atStart => exact ⟨0, rfl, by omega, fun j hj => by omega, Below.refl _ _⟩
        case round =>
          obtain ⟨k, rfl, hk, hok, hB⟩ := hrel
          have HOK := Lib.hid hok
          clear hok
          by_cases hkl : k < xs.length
          · have hki : (k : Int) < (xs.length : Int) := by omega
            obtain ⟨i, X, c, hik, hxk, hio, hst, hka, hrde⟩ := part_at HX.out HPA3.out HZ.out hn hkl
            have HIO := Lib.hid (insok_below hio hB)
            have HST := Lib.hid hst
            have HIK := Lib.hid hik
            have HKA := Lib.hid hka
            have hcl := insCells_at hxk
            obtain ⟨gl, rfl⟩ := own_head HOWN3.out (by omega)
            have hownr := own_below HOWN3.out hB
            have c0 := (hownr.cellAt (k * 4) (by omega)).trans hcl.1
            have c1 := (hownr.cellAt (k * 4 + 1) (by omega)).trans hcl.2.1
            have c2 := (hownr.cellAt (k * 4 + 2) (by omega)).trans hcl.2.2.1
            have c3 := (hownr.cellAt (k * 4 + 3) (by omega)).trans hcl.2.2.2
            dsimp only at c0 c1 c2 c3
            have HLD := Lib.hid (rleads7_any i X c wr HIO.out.1 HIO.out.2.1 HST.out HIO.out.2.2.1)
            have HBR := Lib.hid hB
            clear hik hxk hio hst hka hrde hcl hownr hB
            unfold insV at HLD
            go_wp2_with (go_at_call 52; refine stop_o ?_)
            unfold StopO
            refine HLD.out.mono ?_
            rintro e W4 ⟨v4, rfl, hown4, hb4⟩
            obtain ⟨L4, c4, rfl⟩ := owns_shape hown4
            have hll := leadsI_len (i := i) HIO.out.2.1
            have HB4 := Lib.hid (HBR.out.trans (hb4.mono HBR.out.size))
            have HOWN4 := Lib.hid hown4
            replace c0 := cell_later hb4 c0
            replace c1 := cell_later hb4 c1
            replace c2 := cell_later hb4 c2
            replace c3 := cell_later hb4 c3
            have HIO4 := Lib.hid (insok_below HIO.out hb4)
            clear HLD hown4 hb4 HIO HBR
            obtain ⟨ls, hls⟩ : ∃ ls, leadsI i = ls := ⟨_, rfl⟩
            rw [hls] at hll HOWN4 ⊢
            have HLS := Lib.hid hls
            clear hls
            go_wp2
            go_loopw [16] (fun vj wr => ∃ j : Nat, vj = .int .i64 j ∧ j ≤ ls.length ∧ (∀ m, m < j → goodTo bs.length (allI bs) (ls.getD m 0) = true) ∧ wr = W4) (fun vj _ => ls.length - (intOf vj).toNat)
            case atStart => exact ⟨0, rfl, by omega, fun m hm => by omega, rfl⟩
            case round =>
              obtain ⟨j, rfl, hj, hgd, rfl⟩ := hrel
              by_cases hjl : j < ls.length
              · have hjt : (j : Int) < (ls.length : Int) := by omega
                obtain ⟨q4, rfl⟩ := own_head HOWN4.out (by omega)
                have d0 := (own_cell HOWN4.out (j := j) (v := .int .i64 (ls.getD j 0)) (by unfold intVs; rw [List.getElem?_map, List.getElem?_eq_getElem hjl, List.getD_eq_getElem?_getD, List.getElem?_eq_getElem hjl]; rfl)).1
                have HGD := Lib.hid hgd
                clear hgd
                obtain ⟨t, htt⟩ : ∃ t, t = ls.getD j 0 := ⟨_, rfl⟩
                rw [← htt] at d0
                have HTT := Lib.hid htt
                clear htt
                cases hg : goodTo bs.length (allI bs) t with
                | true =>
                  obtain ⟨hv, ht0, ht1⟩ := idxV_good hg
                  have r0 := cell_later HB4.out (HROW.out.cell (i := t.toNat) (by omega))
                  rw [hv] at r0
                  have ht2 : ¬ t < 0 := by omega
                  have ht3 : ¬ (bs.length : Int) ≤ t := by omega
                  have ht4 : ¬ ((idxI (allI bs) t : Nat) : Int) < 0 := by omega
                  have HG := Lib.hid hg
                  clear hg hv
                  go_wp2
                  exact ⟨⟨j + 1, by go_num, by omega, fun m hm => by
                    rcases (show m < j ∨ m = j by omega) with h | rfl
                    · exact HGD.out m h
                    · rw [← HTT.out]; exact HG.out, by first | rfl | trivial⟩, by simp [intOf]; omega⟩
                | false =>
                  have HM := Lib.hid (may_bad (ts := ts) (s := (n : Int)) HKA.out (by rw [HIK.out]; exact bad_some (m := j) (by rw [HLS.out]; exact hjl) (by rw [HLS.out, ← HTT.out]; exact hg)))
                  have HBF := HB4
                  rcases idxV_bad hg with h | ⟨h1, h2⟩ | ⟨h1, h2, h3⟩
                  · clear hg
                    go_wp2
                    exact bodyPost_ret (results_tmp2 rfl _ _ _) rfl (mayOut7_no HM.out rfl (HB3.out.trans (HBF.out.mono HB3.out.size)))
                  · clear hg
                    have ht2 : ¬ t < 0 := by omega
                    go_wp2
                    exact bodyPost_ret (results_tmp2 rfl _ _ _) rfl (mayOut7_no HM.out rfl (HB3.out.trans (HBF.out.mono HB3.out.size)))
                  · clear hg
                    have r0 := cell_later HB4.out (HROW.out.cell (i := t.toNat) (by omega))
                    rw [h3] at r0
                    have ht2 : ¬ t < 0 := by omega
                    have ht3 : ¬ (bs.length : Int) ≤ t := by omega
                    clear h3
                    go_wp2
                    exact bodyPost_ret (results_tmp2 rfl _ _ _) rfl (mayOut7_no HM.out rfl (HB3.out.trans (HBF.out.mono HB3.out.size)))
              · have hjt : ¬ (j : Int) < (ls.length : Int) := by omega
                obtain rfl : j = ls.length := by omega
                have HBAD := Lib.hid (bad_none (n := bs.length) (l := allI bs) (i := i) (fun m hm => by rw [HLS.out] at hm ⊢; exact hgd m hm))
                have HBF := HB4
                clear hgd hj hjt
                by_cases h228 : i.code = 228
                · have HI8 := Lib.hid h228
                  rw [h228] at c1
                  clear h228
                  by_cases ho : own.out = 128
                  · have e1 : (own.out == 128) = true := by rw [beq_iff_eq]; exact ho
                    have HO := Lib.hid ho
                    clear ho
                    have HM := Lib.hid (may_named (ts := ts) (s := (n : Int)) (bs := bs) HKA.out (by rw [HOWNT.out, HIK.out]; unfold namedOK; rw [if_pos HI8.out]; exact decide_eq_false (fun h => h HO.out)))
                    go_wp2
                    exact bodyPost_ret (results_tmp2 rfl _ _ _) rfl (mayOut7_no HM.out rfl (HB3.out.trans (HBF.out.mono HB3.out.size)))
                  · have e1 : (own.out == 128) = false := by rw [beq_eq_false_iff_ne]; exact ho
                    have HO := Lib.hid ho
                    clear ho
                    have HNK := Lib.hid (show namedOK ts own i = true by unfold namedOK; rw [if_pos HI8.out]; exact decide_eq_true HO.out)
                    go_wp2
                    exact ⟨⟨k + 1, by go_num, by omega, fun j hj => by
                      rcases (show j < k ∨ j = k by omega) with h | rfl
                      · exact HOK.out j h
                      · rw [HIK.out]; exact ⟨HBAD.out, HNK.out⟩, HBF.out⟩, by simp [intOf]; omega⟩
                · by_cases h79 : i.code = 227 ∨ i.code = 229
                  · have HNM := Lib.hid (names7_any i X c wr wr (Below.refl _ _) HIO4.out HST.out h79)
                    have hn0 := named_nonneg HIO4.out.2.1
                    obtain ⟨nn, hnn⟩ : ∃ nn : Nat, namedN i = nn := ⟨(namedN i).toNat, by omega⟩
                    rw [hnn] at HNM
                    have HNN := Lib.hid hnn
                    have HI8 := Lib.hid h228
                    clear hnn hn0
                    unfold insV at HNM
                    have hcc : (i.code == 227) = true ∧ i.code = 227 ∨ ((i.code == 227) = false ∧ (i.code == 229) = true) ∧ i.code = 229 := by
                      rcases h79 with h | h
                      · exact .inl ⟨by rw [h]; rfl, h⟩
                      · exact .inr ⟨⟨by rw [h]; rfl, by rw [h]; rfl⟩, h⟩
                    clear h79 h228
                    rcases hcc with ⟨hcc, hcd⟩ | ⟨⟨hcc, hcc2⟩, hcd⟩
                    · have hcc2 : (i.code == 229) = false := by rw [hcd]; rfl
                      have HCD := Lib.hid hcd
                      clear hcd
                      go_wp2_with (go_at_call 48; refine stop_o ?_)
                      unfold StopO
                      refine HNM.out.mono ?_
                      rintro e W5 ⟨rfl, hb5⟩
                      have HBF5 := Lib.hid (HBF.out.trans (hb5.mono HBF.out.size))
                      replace c0 := cell_later hb5 c0
                      replace c1 := cell_later hb5 c1
                      clear HNM HBF hb5
                      have HBF := HBF5
                      clear HBF5
                      by_cases hnl : nn < ts.length
                      · have hnl2 : (nn : Int) < (ts.length : Int) := by omega
                        have hnl3 : ¬ (ts.length : Int) ≤ (nn : Int) := by omega
                        obtain ⟨x', hx', t0, t1, t2⟩ := HT.out nn hnl
                        cases hx'
                        replace t1 := cell_later (HB3.out.trans (HBF.out.mono HB3.out.size)) t1
                        have hty : tyAt ts (nn : Int) = ts.getD nn zeroT := by unfold tyAt; rfl
                        obtain ⟨ty, htyd⟩ : ∃ ty, ty = ts.getD nn zeroT := ⟨_, rfl⟩
                        rw [← htyd] at t1 hty
                        have HTY := Lib.hid (⟨hty, hnl⟩ : _ ∧ _)
                        clear t0 t2 hty htyd
                        by_cases h8 : ty.out = 128
                        · have g1 : (ty.out == 128) = true := by rw [beq_iff_eq]; exact h8
                          have H8 := Lib.hid h8
                          clear h8
                          have HM := Lib.hid (may_named (ts := ts) (s := (n : Int)) (bs := bs) HKA.out (by rw [HOWNT.out, HIK.out]; unfold namedOK; rw [if_neg HI8.out, if_pos HCD.out, HNN.out]; rw [HTY.out.1]; simp [H8.out]))
                          go_wp2
                          exact bodyPost_ret (results_tmp2 rfl _ _ _) rfl (mayOut7_no HM.out rfl (HB3.out.trans (HBF.out.mono HB3.out.size)))
                        · have g1 : (ty.out == 128) = false := by rw [beq_eq_false_iff_ne]; exact h8
                          have H8 := Lib.hid h8
                          clear h8
                          have HNK := Lib.hid (show namedOK ts own i = true by unfold namedOK; rw [if_neg HI8.out, if_pos HCD.out, HNN.out]; rw [HTY.out.1, decide_eq_true (by have := HTY.out.2; omega), decide_eq_true H8.out]; rfl)
                          go_wp2
                          exact ⟨⟨k + 1, by go_num, by omega, fun j hj => by
                            rcases (show j < k ∨ j = k by omega) with h | rfl
                            · exact HOK.out j h
                            · rw [HIK.out]; exact ⟨HBAD.out, HNK.out⟩, HBF.out⟩, by simp [intOf]; omega⟩
                      · have hnl3 : (ts.length : Int) ≤ (nn : Int) := by omega
                        have HNL := Lib.hid hnl
                        clear hnl
                        have HM := Lib.hid (may_named (ts := ts) (s := (n : Int)) (bs := bs) HKA.out (by rw [HOWNT.out, HIK.out]; unfold namedOK; rw [if_neg HI8.out, if_pos HCD.out, HNN.out]; rw [decide_eq_false (p := (nn : Int) < ts.length) (by have := HNL.out; omega)]; rfl))
                        go_wp2
                        exact bodyPost_ret (results_tmp2 rfl _ _ _) rfl (mayOut7_no HM.out rfl (HB3.out.trans (HBF.out.mono HB3.out.size)))
                    · have HCD := Lib.hid hcd
                      clear hcd
                      go_wp2_with (go_at_call 48; refine stop_o ?_)
                      unfold StopO
                      refine HNM.out.mono ?_
                      rintro e W5 ⟨rfl, hb5⟩
                      have HBF5 := Lib.hid (HBF.out.trans (hb5.mono HBF.out.size))
                      replace c0 := cell_later hb5 c0
                      replace c1 := cell_later hb5 c1
                      clear HNM HBF hb5
                      have HBF := HBF5
                      clear HBF5
                      by_cases hnl : nn < ts.length
                      · have hnl2 : (nn : Int) < (ts.length : Int) := by omega
                        have hnl3 : ¬ (ts.length : Int) ≤ (nn : Int) := by omega
                        obtain ⟨x', hx', t0, t1, t2⟩ := HT.out nn hnl
                        cases hx'
                        replace t1 := cell_later (HB3.out.trans (HBF.out.mono HB3.out.size)) t1
                        have hty : tyAt ts (nn : Int) = ts.getD nn zeroT := by unfold tyAt; rfl
                        obtain ⟨ty, htyd⟩ : ∃ ty, ty = ts.getD nn zeroT := ⟨_, rfl⟩
                        rw [← htyd] at t1 hty
                        have HTY := Lib.hid (⟨hty, hnl⟩ : _ ∧ _)
                        clear t0 t2 hty htyd
                        by_cases h8 : ty.out = 128
                        · have g1 : (ty.out == 128) = true := by rw [beq_iff_eq]; exact h8
                          have H8 := Lib.hid h8
                          clear h8
                          have HNK := Lib.hid (show namedOK ts own i = true by unfold namedOK; rw [if_neg HI8.out, if_neg (by rw [HCD.out]; decide), if_pos HCD.out, HNN.out]; rw [HTY.out.1, decide_eq_true (by have := HTY.out.2; omega), decide_eq_true H8.out]; rfl)
                          go_wp2
                          exact ⟨⟨k + 1, by go_num, by omega, fun j hj => by
                            rcases (show j < k ∨ j = k by omega) with h | rfl
                            · exact HOK.out j h
                            · rw [HIK.out]; exact ⟨HBAD.out, HNK.out⟩, HBF.out⟩, by simp [intOf]; omega⟩
                        · have g1 : (ty.out == 128) = false := by rw [beq_eq_false_iff_ne]; exact h8
                          have H8 := Lib.hid h8
                          clear h8
                          by_cases ho : own.out = 128
                          · have g2 : (own.out == 128) = true := by rw [beq_iff_eq]; exact ho
                            have HO := Lib.hid ho
                            clear ho
                            have HM := Lib.hid (may_named (ts := ts) (s := (n : Int)) (bs := bs) HKA.out (by rw [HOWNT.out, HIK.out]; unfold namedOK; rw [if_neg HI8.out, if_neg (by rw [HCD.out]; decide), if_pos HCD.out, HNN.out]; rw [HTY.out.1, decide_eq_false (p := ty.out = 128) H8.out, decide_eq_false (p := own.out ≠ 128) (fun h => h HO.out)]; simp))
                            go_wp2
                            exact bodyPost_ret (results_tmp2 rfl _ _ _) rfl (mayOut7_no HM.out rfl (HB3.out.trans (HBF.out.mono HB3.out.size)))
                          · have g2 : (own.out == 128) = false := by rw [beq_eq_false_iff_ne]; exact ho
                            have HO := Lib.hid ho
                            clear ho
                            by_cases hgt : own.out < ty.out
                            · have HG := Lib.hid hgt
                              have HM := Lib.hid (may_named (ts := ts) (s := (n : Int)) (bs := bs) HKA.out (by rw [HOWNT.out, HIK.out]; unfold namedOK; rw [if_neg HI8.out, if_neg (by rw [HCD.out]; decide), if_pos HCD.out, HNN.out]; rw [HTY.out.1, decide_eq_false H8.out, decide_eq_false (p := ty.out ≤ own.out) (by have := HG.out; omega)]; simp))
                              go_wp2
                              exact bodyPost_ret (results_tmp2 rfl _ _ _) rfl (mayOut7_no HM.out rfl (HB3.out.trans (HBF.out.mono HB3.out.size)))
                            · have HG := Lib.hid hgt
                              have HNK := Lib.hid (show namedOK ts own i = true by unfold namedOK; rw [if_neg HI8.out, if_neg (by rw [HCD.out]; decide), if_pos HCD.out, HNN.out]; rw [HTY.out.1, decide_eq_true (by have := HTY.out.2; omega), decide_eq_true HO.out, decide_eq_true (p := ty.out ≤ own.out) (by have := HG.out; omega)]; simp)
                              go_wp2
                              exact ⟨⟨k + 1, by go_num, by omega, fun j hj => by
                                rcases (show j < k ∨ j = k by omega) with h | rfl
                                · exact HOK.out j h
                                · rw [HIK.out]; exact ⟨HBAD.out, HNK.out⟩, HBF.out⟩, by simp [intOf]; omega⟩
                      · have hnl3 : (ts.length : Int) ≤ (nn : Int) := by omega
                        have HNL := Lib.hid hnl
                        clear hnl
                        have HM := Lib.hid (may_named (ts := ts) (s := (n : Int)) (bs := bs) HKA.out (by rw [HOWNT.out, HIK.out]; unfold namedOK; rw [if_neg HI8.out, if_neg (by rw [HCD.out]; decide), if_pos HCD.out, HNN.out]; rw [decide_eq_false (p := (nn : Int) < ts.length) (by have := HNL.out; omega)]; rfl))
                        go_wp2
                        exact bodyPost_ret (results_tmp2 rfl _ _ _) rfl (mayOut7_no HM.out rfl (HB3.out.trans (HBF.out.mono HB3.out.size)))
                  · have e1 : (i.code == 227) = false := by rw [beq_eq_false_iff_ne]; omega
                    have e2 : (i.code == 229) = false := by rw [beq_eq_false_iff_ne]; omega
                    have e3 : (i.code == 228) = false := by rw [beq_eq_false_iff_ne]; omega
                    have H3 := Lib.hid (⟨h228, h79⟩ : _ ∧ _)
                    clear h228 h79
                    have HNK := Lib.hid (show namedOK ts own i = true by unfold namedOK; rw [if_neg H3.out.1, if_neg (fun h => H3.out.2 (.inl h)), if_neg (fun h => H3.out.2 (.inr h))])
                    go_wp2
                    exact ⟨⟨k + 1, by go_num, by omega, fun j hj => by
                      rcases (show j < k ∨ j = k by omega) with h | rfl
                      · exact HOK.out j h
                      · rw [HIK.out]; exact ⟨HBAD.out, HNK.out⟩, HBF.out⟩, by simp [intOf]; omega⟩
          · obtain rfl : xs.length = k := by omega
            have HM := Lib.hid (show mayB ts (n : Int) bs = true from by
              have hall : (allI bs).length = xs.length := by rw [← HX.out]; simp
              have hsc : (scanE bs (allI bs)).1 = 0 := of_decide_eq_true HW.out
              refine may_yes (by omega) (by have := H01.out; omega) HOKT.out ?_ (fun k hk => by rw [HOWNT.out]; exact (HOK.out k (by omega)).2)
              rw [check_good hsc (fun m hm => (HOK.out m (by omega)).1)])
            have HF := Lib.hid (⟨own_lower (own_below HOWN3.out hB) HPW.out, (fun x hx => by obtain ⟨X, c, a1, a2⟩ := HPA3.out x hx; exact ⟨X, c, a1, ints_below hB a2⟩ : PartsAt wr xs), HB3.out.trans (hB.mono HB3.out.size)⟩ : _ ∧ _ ∧ _)
            have hki : ¬ (xs.length : Int) < (xs.length : Int) := by omega
            clear hB
            go_wp2
            exact bodyPost_ret (results_tmp2 rfl _ _ _) rfl (.inr ⟨HM.out, xs, _, cl, HX.out, rfl, HF.out⟩)
end Go.Proofs.YtfjmdffhfjnopaaDoor
