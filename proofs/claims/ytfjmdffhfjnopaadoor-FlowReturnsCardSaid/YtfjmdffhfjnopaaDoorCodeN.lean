/- CodeN: out of Named6 (strip.py). -/
import Derived.Test.YtfjmdffhfjnopaaDoorCodeQ
namespace Vouch
def namedN (i : Ins) : Int := if standsI i then (if i.code = 227 ∨ i.code = 229 ∨ i.code = 209 then pairN i.imm 0 else if i.code = 236 ∨ i.code = 238 then i.imm.getD 0 0 else 0) else 0
def namedB (i : Ins) : Bool := standsI i && (decide (i.code = 227 ∨ i.code = 229 ∨ i.code = 209) || decide (i.code = 236 ∨ i.code = 238))
theorem stands_len {i : Ins} {n : Nat} {c : Int} (h : standsI i = true) (hc : i.code = c) (hn : immL (opR c) i.imm = some n) : i.imm.length = n := by
  have h4 := (stands_bounds h).2.2.2.1
  rw [hc, hn] at h4
  exact (Option.some.inj h4).symm
end Vouch
namespace Go.Proofs.YtfjmdffhfjnopaaDoor
open Go.RowKit Vouch Go.Vk Go.Sort
set_option maxHeartbeats 400000 in
set_option maxRecDepth 100000 in
theorem named_any (i : Ins) (X : Option Addr) (c : Nat) (w : World) (hc : IntsAt w .u8 X i.imm) (hz : ∀ z ∈ i.imm, 0 ≤ z ∧ z < 256) (hn : i.imm.length ≤ 140737488355328) (hx : (Lit.int .i64 i.next).wf = true) :
    Calls Tryd.prog 25 #[insV i (.slice X i.imm.length c)] w fun e w' => e = .returned (.tuple #[.int .i64 (namedN i), .bool (namedB i)]) ∧ Below w.heap.size w w' := by
  have HST := Lib.hid (fun w1 (hb : Below w.heap.size w w1) => stands_any i X c w1 (ints_below hb hc) hz hn hx)
  have hg : ∀ j, j < i.imm.length → 0 ≤ i.imm.getD j 0 ∧ i.imm.getD j 0 < 256 := fun j h => hz _ (by rw [List.getD_eq_getElem?_getD, List.getElem?_eq_getElem h]; simp)
  cases hs : standsI i with
  | false =>
    have hL : namedN i = 0 := by unfold namedN; rw [hs]; rfl
    have hB : namedB i = false := by unfold namedB; rw [hs]; rfl
    rw [hL, hB]
    rw [hs] at HST
    clear hc hz hL hs hB hg
    obtain ⟨at_, code, imm, next⟩ := i
    unfold insV at HST ⊢
    dsimp only at *
    have hb0 : Below w.heap.size w (w.alloc (.cells #[.int .i64 at_, .int .i64 code, .slice X imm.length c, .int .i64 next] 42)) := (Below.refl _ _).alloc (Nat.le_refl _) _
    obtain ⟨p0, p1, p2, p3, pz, pl⟩ := cells4 (heap_alloc_new w (.cells #[.int .i64 at_, .int .i64 code, .slice X imm.length c, .int .i64 next] 42))
    go_enter Tryd.func25, Tryd.ntmps25
    go_wp2_with (go_at_call 44; refine (HST.out _ hb0).mono ?_; rintro e w1 ⟨rfl, hb⟩)
    refine bodyPost_ret (results_tmp2 rfl _ _ _) rfl ⟨rfl, hb0.trans (hb.mono hb0.size)⟩
  | true =>
    rw [hs] at HST
    by_cases h2 : i.code = 227 ∨ i.code = 229 ∨ i.code = 209
    · have hl : i.imm.length = 2 := by rcases h2 with h | h | h <;> exact stands_len hs h rfl
      have hL : namedN i = 256 * i.imm.getD 0 0 + i.imm.getD 1 0 := by unfold namedN; rw [hs, if_pos rfl, if_pos h2]; rfl
      have hB : namedB i = true := by unfold namedB; rw [hs, decide_eq_true h2]; rfl
      rw [hL, hB]
      have h0 := hg 0 (by omega)
      have h1 := hg 1 (by omega)
      obtain ⟨y, rfl, hy0⟩ := hc 0 (by omega)
      obtain ⟨y', hy, hy1⟩ := hc 1 (by omega)
      cases hy
      clear hc hz hL hs hB hg hn
      obtain ⟨at_, code, imm, next⟩ := i
      unfold insV at HST ⊢
      dsimp only at *
      rw [hl] at HST ⊢
      generalize imm.getD 0 0 = a at *
      generalize imm.getD 1 0 = b at *
      replace hy0 : w.cell? y = some (.int .u8 a) := by simpa [Addr.add] using hy0
      clear hl
      have hb0 : Below w.heap.size w (w.alloc (.cells #[.int .i64 at_, .int .i64 code, .slice (some y) 2 c, .int .i64 next] 42)) := (Below.refl _ _).alloc (Nat.le_refl _) _
      obtain ⟨p0, p1, p2, p3, pz, pl⟩ := cells4 (heap_alloc_new w (.cells #[.int .i64 at_, .int .i64 code, .slice (some y) 2 c, .int .i64 next] 42))
      have hwa : IntKind.i64.wrap a = a := by rw [IntKind.wrap_i64]; omega
      have hwb : IntKind.i64.wrap b = b := by rw [IntKind.wrap_i64]; omega
      have hws : IntKind.i64.wrap (256 * a) = 256 * a := by rw [IntKind.wrap_i64]; omega
      have hwt : IntKind.i64.wrap (256 * a + b) = 256 * a + b := by rw [IntKind.wrap_i64]; omega
      have HP := Lib.hid (fun w4 (h4 : Below w.heap.size w w4) => pair_any a b y 2 c w4 h0 h1 (cell_later h4 hy0) (cell_later h4 hy1) (by omega))
      have HY0 := Lib.hid hy0
      have HY1 := Lib.hid hy1
      clear hy0 hy1
      rcases h2 with rfl | rfl | rfl
      all_goals
        go_enter Tryd.func25, Tryd.ntmps25
        go_wp2_with (first
          | (go_at_call 44; refine (HST.out _ hb0).mono ?_; rintro e w1 ⟨rfl, hb⟩; have hg1 := kept_new hb; obtain ⟨q0, q1, q2, q3, qz, ql⟩ := cells4 hg1; have hB1 := hb0.trans (hb.mono hb0.size); have hy0 := cell_later hB1 HY0.out; have hy1 := cell_later hB1 HY1.out; have hy2 : w1.cell? ⟨y.block, y.off + 1, none⟩ = some (.int .u8 b) := (show w1.cell? ⟨y.block, y.off + 1, none⟩ = w1.cell? (y.add 1) by congr 1).trans hy1)
          | (go_at_call 45; refine (HP.out _ hB1).mono ?_; rintro e w2 ⟨rfl, hb2⟩))
        refine bodyPost_ret (results_tmp2 rfl _ _ _) rfl ⟨rfl, hB1.trans (hb2.mono hB1.size)⟩
    · by_cases h3 : i.code = 236 ∨ i.code = 238
      · have hl : i.imm.length = 1 := by rcases h3 with h | h <;> exact stands_len hs h rfl
        have hL : namedN i = i.imm.getD 0 0 := by unfold namedN; rw [hs, if_pos rfl, if_neg h2, if_pos h3]
        have hB : namedB i = true := by unfold namedB; rw [hs, decide_eq_true h3]; simp
        rw [hL, hB]
        have h0 := hg 0 (by omega)
        obtain ⟨y, rfl, hy0⟩ := hc 0 (by omega)
        clear hc hz hL hs hB hg hn h2
        obtain ⟨at_, code, imm, next⟩ := i
        unfold insV at HST ⊢
        dsimp only at *
        rw [hl] at HST ⊢
        generalize imm.getD 0 0 = a at *
        replace hy0 : w.cell? y = some (.int .u8 a) := by simpa [Addr.add] using hy0
        clear hl
        have hb0 : Below w.heap.size w (w.alloc (.cells #[.int .i64 at_, .int .i64 code, .slice (some y) 1 c, .int .i64 next] 42)) := (Below.refl _ _).alloc (Nat.le_refl _) _
        obtain ⟨p0, p1, p2, p3, pz, pl⟩ := cells4 (heap_alloc_new w (.cells #[.int .i64 at_, .int .i64 code, .slice (some y) 1 c, .int .i64 next] 42))
        have hwa : IntKind.i64.wrap a = a := by rw [IntKind.wrap_i64]; omega
        have HY0 := Lib.hid hy0
        clear hy0
        rcases h3 with rfl | rfl
        all_goals
          go_enter Tryd.func25, Tryd.ntmps25
          go_wp2_with (go_at_call 44; refine (HST.out _ hb0).mono ?_; rintro e w1 ⟨rfl, hb⟩; have hg1 := kept_new hb; obtain ⟨q0, q1, q2, q3, qz, ql⟩ := cells4 hg1; have hB1 := hb0.trans (hb.mono hb0.size); have hy0 := cell_later hB1 HY0.out)
          refine bodyPost_ret (results_tmp2 rfl _ _ _) rfl ⟨rfl, hB1⟩
      · have hL : namedN i = 0 := by unfold namedN; rw [hs, if_pos rfl, if_neg h2, if_neg h3]
        have hB : namedB i = false := by unfold namedB; rw [hs, decide_eq_false h2, decide_eq_false h3]; rfl
        rw [hL, hB]
        clear hc hz hL hs hB hg hn
        obtain ⟨at_, code, imm, next⟩ := i
        unfold insV at HST ⊢
        dsimp only at *
        have hb0 : Below w.heap.size w (w.alloc (.cells #[.int .i64 at_, .int .i64 code, .slice X imm.length c, .int .i64 next] 42)) := (Below.refl _ _).alloc (Nat.le_refl _) _
        obtain ⟨p0, p1, p2, p3, pz, pl⟩ := cells4 (heap_alloc_new w (.cells #[.int .i64 at_, .int .i64 code, .slice X imm.length c, .int .i64 next] 42))
        have e1 : (code == 227) = false := by rw [beq_eq_false_iff_ne]; omega
        have e2 : (code == 229) = false := by rw [beq_eq_false_iff_ne]; omega
        have e3 : (code == 209) = false := by rw [beq_eq_false_iff_ne]; omega
        have e4 : (code == 236) = false := by rw [beq_eq_false_iff_ne]; omega
        have e5 : (code == 238) = false := by rw [beq_eq_false_iff_ne]; omega
        clear h2 h3
        go_enter Tryd.func25, Tryd.ntmps25
        go_wp2_with (go_at_call 44; refine (HST.out _ hb0).mono ?_; rintro e w1 ⟨rfl, hb⟩; have hg1 := kept_new hb; obtain ⟨q0, q1, q2, q3, qz, ql⟩ := cells4 hg1; have hB1 := hb0.trans (hb.mono hb0.size))
        refine bodyPost_ret (results_tmp2 rfl _ _ _) rfl ⟨rfl, hB1⟩
end Go.Proofs.YtfjmdffhfjnopaaDoor
