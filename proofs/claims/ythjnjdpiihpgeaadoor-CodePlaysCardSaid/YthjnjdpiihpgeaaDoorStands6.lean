/- code.stands, vouchref6.Stands: does an instruction stand. -/
import Derived.Test.YthjnjdpiihpgeaaDoorRefOne6
namespace Vouch
/-- Does it stand: its code has a row, its place is in bounds, its immediate bytes are as many as the row says, the next one follows. -/
def standsI (i : Ins) : Bool := isOp i.code && decide (0 ≤ i.at_) && decide (i.at_ ≤ 1048576) && (match immL (opR i.code) i.imm with | none => false | some n => n == i.imm.length && i.next == i.at_ + 1 + n)
end Vouch
namespace Go.Proofs.YthjnjdpiihpgeaaDoor
open Go.RowKit Vouch Go.Vk Go.Sort
theorem opR_imm (c : Int) : isOp c = true → -1 ≤ (opR c).imm ∧ (opR c).imm ≤ 32 := by
  intro h
  by_cases h0 : 0 ≤ c ∧ c < 256
  · exact imm_ok c h0.1 h0.2 h
  · unfold isOp at h
    rw [opR_out c (by omega)] at h
    exact absurd h (by decide +kernel)
set_option maxHeartbeats 1000000 in
set_option maxRecDepth 100000 in
theorem stands_any (i : Ins) (X : Option Addr) (c : Nat) (w : World) (hc : IntsAt w .u8 X i.imm) (hz : ∀ z ∈ i.imm, 0 ≤ z ∧ z < 256) (hn : i.imm.length ≤ 140737488355328) (hx : (Lit.int .i64 i.next).wf = true) :
    Calls Tryd.prog 43 #[insV i (.slice X i.imm.length c)] w fun e w' => e = .returned (.bool (standsI i)) ∧ Below w.heap.size w w' := by
  obtain ⟨at_, code, imm, next⟩ := i
  dsimp only at hc hz hn hx
  unfold insV
  dsimp only
  have hb0 : Below w.heap.size w (w.alloc (.cells #[.int .i64 at_, .int .i64 code, .slice X imm.length c, .int .i64 next] 34)) := (Below.refl _ _).alloc (Nat.le_refl _) _
  go_enter Tryd.func43, Tryd.ntmps43
  obtain ⟨p0, p1, p2, p3, pz, pl⟩ := cells4 (heap_alloc_new w (.cells #[.int .i64 at_, .int .i64 code, .slice X imm.length c, .int .i64 next] 34))
  go_wp2_with (go_at_call 18; refine stop_r ?_)
  unfold StopR
  refine (of_any _ _).mono ?_
  unfold rowC
  rintro e w1 ⟨rfl, hb⟩
  have hg1 := kept_new hb
  have hB1 : Below w.heap.size w w1 := hb0.trans (hb.mono hb0.size)
  have hB2 := hB1.alloc hB1.size (.cells #[.int .i64 (opR code).code, .string (opR code).name, .int .i64 (opR code).imm, .int .i64 (opR code).inn, .int .i64 (opR code).out, .int .i64 (opR code).gas, .bool (opR code).ends] 30)
  have hg := (Below.heap_alloc w1 (.cells #[.int .i64 (opR code).code, .string (opR code).name, .int .i64 (opR code).imm, .int .i64 (opR code).inn, .int .i64 (opR code).out, .int .i64 (opR code).gas, .bool (opR code).ends] 30) _ (Array.getElem?_eq_some_iff.1 hg1).1).trans hg1
  have hr := heap_alloc_new w1 (.cells #[.int .i64 (opR code).code, .string (opR code).name, .int .i64 (opR code).imm, .int .i64 (opR code).inn, .int .i64 (opR code).out, .int .i64 (opR code).gas, .bool (opR code).ends] 30)
  clear p0 p1 p2 p3 pz pl
  obtain ⟨q0, q1, q2, q3, qz, ql⟩ := cells4 hg
  obtain ⟨k0, k1, k2, k3, k4, k5, k6, kz, kl⟩ := cells7 hr
  cases hop : isOp code with
  | false =>
    have hF := Lib.hid (show standsI ⟨at_, code, imm, next⟩ = false by simp [standsI, hop])
    go_wp2
    go_ret
    exact ⟨by first | (rw [hF.out]; rfl) | (rw [hF.out]; done), hB2⟩
  | true =>
    by_cases ha : at_ < 0
    · have hF := Lib.hid (show standsI ⟨at_, code, imm, next⟩ = false by simp [standsI]; omega)
      go_wp2
      go_ret
      exact ⟨by first | (rw [hF.out]; rfl) | (rw [hF.out]; done), hB2⟩
    by_cases hb' : 1048576 < at_
    · have hF := Lib.hid (show standsI ⟨at_, code, imm, next⟩ = false by simp [standsI]; omega)
      go_wp2
      go_ret
      exact ⟨by first | (rw [hF.out]; rfl) | (rw [hF.out]; done), hB2⟩
    have hS : standsI ⟨at_, code, imm, next⟩ = (match immL (opR code) imm with | none => false | some n => n == imm.length && next == at_ + 1 + n) := by
      simp only [standsI, hop, decide_eq_true (show 0 ≤ at_ by omega), decide_eq_true (show at_ ≤ 1048576 by omega), Bool.true_and]
    have him := opR_imm _ hop
    have HL := Lib.hid (fun w2 (h2 : Below w.heap.size w w2) => length_any (opR code) X c imm w2 (ints_below h2 hc) hz (by omega))
    unfold rowC at HL
    rcases lenV_cases (opR code) imm hz him.1 him.2 with ⟨e1, e2⟩ | ⟨m, e1, e2, hm⟩
    · rw [e2] at hS
      have hF := Lib.hid hS
      clear hS
      rw [e1] at HL
      go_wp2_with (go_at_call 47; refine (HL.out _ hB2).mono ?_; rintro e w3 ⟨rfl, hb3⟩)
      go_ret
      exact ⟨by first | (rw [hF.out]; rfl) | (rw [hF.out]; done), hB2.trans (hb3.mono hB2.size)⟩
    · rw [e2] at hS
      rw [e1] at HL
      dsimp only at hS HL
      by_cases hl : m = imm.length
      · subst hl
        have hle : ((imm.length : Int) == (imm.length : Int)) = true := by simp
        rw [show (imm.length == imm.length) = true by simp, Bool.true_and] at hS
        have hwc : wrap64 (at_ + 1) = at_ + 1 := by unfold wrap64; omega
        have hwd : wrap64 (at_ + 1 + imm.length) = at_ + 1 + imm.length := by unfold wrap64; omega
        have hF := Lib.hid hS
        clear hS
        go_wp2_with (go_at_call 47; refine (HL.out _ hB2).mono ?_; rintro e w3 ⟨rfl, hb3⟩; have hg3 := kept_of hb3 hg; obtain ⟨r0, r1, r2, r3, rz, rl⟩ := cells4 hg3)
        go_ret
        exact ⟨by first | (rw [hF.out]; rfl) | (rw [hF.out]; done), hB2.trans (hb3.mono hB2.size)⟩
      · have hle : ((m : Int) == (imm.length : Int)) = false := by rw [beq_eq_false_iff_ne]; omega
        rw [show (m == imm.length) = false by rw [beq_eq_false_iff_ne]; exact hl, Bool.false_and] at hS
        have hF := Lib.hid hS
        clear hS
        go_wp2_with (go_at_call 47; refine (HL.out _ hB2).mono ?_; rintro e w3 ⟨rfl, hb3⟩; have hg3 := kept_of hb3 hg; obtain ⟨r0, r1, r2, r3, rz, rl⟩ := cells4 hg3)
        go_ret
        exact ⟨by first | (rw [hF.out]; rfl) | (rw [hF.out]; done), hB2.trans (hb3.mono hB2.size)⟩
set_option maxHeartbeats 1000000 in
set_option maxRecDepth 100000 in
theorem rstands_any (i : Ins) (X : Option Addr) (c : Nat) (w : World) (hc : IntsAt w .u8 X i.imm) (hz : ∀ z ∈ i.imm, 0 ≤ z ∧ z < 256) (hn : i.imm.length ≤ 140737488355328) (hx : (Lit.int .i64 i.next).wf = true) :
    Calls Tryd.prog 45 #[insV i (.slice X i.imm.length c)] w fun e w' => e = .returned (.bool (standsI i)) ∧ Below w.heap.size w w' := by
  obtain ⟨at_, code, imm, next⟩ := i
  dsimp only at hc hz hn hx
  unfold insV
  dsimp only
  have hb0 : Below w.heap.size w (w.alloc (.cells #[.int .i64 at_, .int .i64 code, .slice X imm.length c, .int .i64 next] 34)) := (Below.refl _ _).alloc (Nat.le_refl _) _
  go_enter Tryd.func45, Tryd.ntmps45
  obtain ⟨p0, p1, p2, p3, pz, pl⟩ := cells4 (heap_alloc_new w (.cells #[.int .i64 at_, .int .i64 code, .slice X imm.length c, .int .i64 next] 34))
  go_wp2_with (go_at_call 41; refine stop_r ?_)
  unfold StopR
  refine (rof_any _ _).mono ?_
  unfold rowC
  rintro e w1 ⟨rfl, hb⟩
  have hg1 := kept_new hb
  have hB1 : Below w.heap.size w w1 := hb0.trans (hb.mono hb0.size)
  have hB2 := hB1.alloc hB1.size (.cells #[.int .i64 (opR code).code, .string (opR code).name, .int .i64 (opR code).imm, .int .i64 (opR code).inn, .int .i64 (opR code).out, .int .i64 (opR code).gas, .bool (opR code).ends] 30)
  have hg := (Below.heap_alloc w1 (.cells #[.int .i64 (opR code).code, .string (opR code).name, .int .i64 (opR code).imm, .int .i64 (opR code).inn, .int .i64 (opR code).out, .int .i64 (opR code).gas, .bool (opR code).ends] 30) _ (Array.getElem?_eq_some_iff.1 hg1).1).trans hg1
  have hr := heap_alloc_new w1 (.cells #[.int .i64 (opR code).code, .string (opR code).name, .int .i64 (opR code).imm, .int .i64 (opR code).inn, .int .i64 (opR code).out, .int .i64 (opR code).gas, .bool (opR code).ends] 30)
  clear p0 p1 p2 p3 pz pl
  obtain ⟨q0, q1, q2, q3, qz, ql⟩ := cells4 hg
  obtain ⟨k0, k1, k2, k3, k4, k5, k6, kz, kl⟩ := cells7 hr
  cases hop : isOp code with
  | false =>
    have hF := Lib.hid (show standsI ⟨at_, code, imm, next⟩ = false by simp [standsI, hop])
    go_wp2
    go_ret
    exact ⟨by first | (rw [hF.out]; rfl) | (rw [hF.out]; done), hB2⟩
  | true =>
    by_cases ha : at_ < 0
    · have hF := Lib.hid (show standsI ⟨at_, code, imm, next⟩ = false by simp [standsI]; omega)
      go_wp2
      go_ret
      exact ⟨by first | (rw [hF.out]; rfl) | (rw [hF.out]; done), hB2⟩
    by_cases hb' : 1048576 < at_
    · have hF := Lib.hid (show standsI ⟨at_, code, imm, next⟩ = false by simp [standsI]; omega)
      go_wp2
      go_ret
      exact ⟨by first | (rw [hF.out]; rfl) | (rw [hF.out]; done), hB2⟩
    have hS : standsI ⟨at_, code, imm, next⟩ = (match immL (opR code) imm with | none => false | some n => n == imm.length && next == at_ + 1 + n) := by
      simp only [standsI, hop, decide_eq_true (show 0 ≤ at_ by omega), decide_eq_true (show at_ ≤ 1048576 by omega), Bool.true_and]
    have him := opR_imm _ hop
    generalize opR code = r at hS him hB2 hg hr q0 q1 q2 q3 qz ql k0 k1 k2 k3 k4 k5 k6 kz kl ⊢
    obtain ⟨rc, nm, im, inn, out, gas, ends⟩ := r
    dsimp only at hS him hB2 hg hr q0 q1 q2 q3 qz ql k0 k1 k2 k3 k4 k5 k6 kz kl ⊢
    by_cases hi : im = -1
    · subst hi
      by_cases hl0 : imm.length = 0
      · have hle0 : ((imm.length : Int) == 0) = true := by rw [hl0]; rfl
        have HL0 := Lib.hid hl0
        rw [show immL ⟨rc, nm, -1, inn, out, gas, ends⟩ imm = none by unfold immL; rw [if_pos rfl, if_pos hl0]] at hS
        have hF := Lib.hid hS
        clear hS hl0
        go_wp2
        go_ret
        exact ⟨by first | (rw [hF.out]; rfl) | (rw [hF.out]; done), hB2⟩
      · have hle0 : ((imm.length : Int) == 0) = false := by rw [beq_eq_false_iff_ne]; omega
        obtain ⟨y, rfl, hx'⟩ := hc 0 (by omega)
        have hzb := hz (imm.getD 0 0) (by rw [List.getD_eq_getElem?_getD, List.getElem?_eq_getElem (by omega)]; simp)
        have hxb := cell_later hB2 (show w.cell? y = some (.int .u8 (imm.getD 0 0)) by simpa [Addr.add] using hx')
        clear hx'
        have hl1 : 0 < imm.length := by omega
        have hl2 : (0 : Int) < (imm.length : Int) := by omega
        obtain ⟨m, hm⟩ : ∃ m : Nat, 3 + 2 * imm.getD 0 0 = m := ⟨(3 + 2 * imm.getD 0 0).toNat, by omega⟩
        rw [show immL ⟨rc, nm, -1, inn, out, gas, ends⟩ imm = some m by unfold immL; rw [if_pos rfl, if_neg hl0]; congr 1; omega] at hS
        generalize imm.getD 0 0 = z at hxb hzb hm
        have hm6 : m ≤ 600 := by omega
        have hwz : IntKind.i64.wrap z = z := by rw [IntKind.wrap_i64]; omega
        dsimp only at hS
        have hwa : wrap64 (at_ + 1) = at_ + 1 := by unfold wrap64; omega
        have hwb : wrap64 (at_ + 1 + m) = at_ + 1 + m := by unfold wrap64; omega
        have hwd : wrap64 (2 * z) = 2 * z := by unfold wrap64; omega
        have hwe : wrap64 (3 + 2 * z) = m := by unfold wrap64; omega
        by_cases hl : m = imm.length
        · subst hl
          have hle : ((imm.length : Int) == (imm.length : Int)) = true := by simp
          rw [show (imm.length == imm.length) = true by simp, Bool.true_and] at hS
          have hF := Lib.hid hS
          clear hS
          go_wp2
          go_ret
          exact ⟨by first | (rw [hF.out]; rfl) | (rw [hF.out]; done), hB2⟩
        · have hle : ((imm.length : Int) == (m : Int)) = false := by rw [beq_eq_false_iff_ne]; omega
          rw [show (m == imm.length) = false by rw [beq_eq_false_iff_ne]; exact hl, Bool.false_and] at hS
          have hF := Lib.hid hS
          clear hS
          go_wp2
          go_ret
          exact ⟨by first | (rw [hF.out]; rfl) | (rw [hF.out]; done), hB2⟩
    · obtain ⟨m, rfl⟩ : ∃ m : Nat, im = m := ⟨im.toNat, by omega⟩
      have hie : ((m : Int) == -1) = false := by rw [beq_eq_false_iff_ne]; exact hi
      rw [show immL ⟨rc, nm, m, inn, out, gas, ends⟩ imm = some m by unfold immL; rw [if_neg hi]; simp] at hS
      have hm6 : m ≤ 600 := by omega
      dsimp only at hS
      have hwa : wrap64 (at_ + 1) = at_ + 1 := by unfold wrap64; omega
      have hwb : wrap64 (at_ + 1 + m) = at_ + 1 + m := by unfold wrap64; omega
      by_cases hl : m = imm.length
      · subst hl
        have hle : ((imm.length : Int) == (imm.length : Int)) = true := by simp
        rw [show (imm.length == imm.length) = true by simp, Bool.true_and] at hS
        have hF := Lib.hid hS
        clear hS
        go_wp2
        go_ret
        exact ⟨by first | (rw [hF.out]; rfl) | (rw [hF.out]; done), hB2⟩
      · have hle : ((imm.length : Int) == (m : Int)) = false := by rw [beq_eq_false_iff_ne]; omega
        rw [show (m == imm.length) = false by rw [beq_eq_false_iff_ne]; exact hl, Bool.false_and] at hS
        have hF := Lib.hid hS
        clear hS
        go_wp2
        go_ret
        exact ⟨by first | (rw [hF.out]; rfl) | (rw [hF.out]; done), hB2⟩
end Go.Proofs.YthjnjdpiihpgeaaDoor
