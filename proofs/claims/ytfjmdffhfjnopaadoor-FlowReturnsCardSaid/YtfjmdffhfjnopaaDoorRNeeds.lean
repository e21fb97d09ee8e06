/- vouchref4.Needs says what op.Needs says. -/
import Derived.Test.YtfjmdffhfjnopaaDoorNeeds
namespace Go.Proofs.YtfjmdffhfjnopaaDoor
open Go.RowKit Vouch Go.Vk
def fitsOf (r : OpRow) (z : List Int) : Bool := if r.imm = -1 then decide (0 < z.length) && ((z.length : Int) == 2 * z.getD 0 0 + 3) else ((z.length : Int) == r.imm)
theorem ints_below {w w' : World} {k : IntKind} {A : Option Addr} {zs : List Int} (hb : Below w.heap.size w w') (h : IntsAt w k A zs) : IntsAt w' k A zs := fun i hi => by
  obtain ⟨x, hx, hc⟩ := h i hi
  exact ⟨x, hx, cell_later hb hc⟩
set_option maxHeartbeats 1000000 in
set_option maxRecDepth 100000 in
theorem fits_any (r : OpRow) (A : Option Addr) (cap : Nat) (zs : List Int) (w : World) (hc : IntsAt w .u8 A zs) (hz : ∀ z ∈ zs, 0 ≤ z ∧ z < 256) (hn : zs.length ≤ 4611686018427387904) :
    Calls Tryd.prog 77 #[.agg (rowC r), .slice A zs.length cap] w fun e w' => e = .returned (.bool (fitsOf r zs)) ∧ Below w.heap.size w w' := by
  have HC := Lib.hid hc
  have HZ := Lib.hid hz
  clear hc hz
  unfold fitsOf
  obtain ⟨rc, nm, imm, inn, out, gas, ends⟩ := r
  dsimp only
  by_cases him : imm = -1
  · subst him
    rw [if_pos rfl]
    by_cases hz0 : zs.length = 0
    · have e0 : decide (0 < zs.length) = false := decide_eq_false (by omega)
      rw [e0]
      go_enter Tryd.func77, Tryd.ntmps77
      unfold rowC
      go_wp2
      go_ret
      exact ⟨rfl, (Below.refl _ _).alloc (Nat.le_refl _) _⟩
    · obtain ⟨y, rfl, hx⟩ := HC.out 0 (by omega)
      have hzb := HZ.out (zs.getD 0 0) (by rw [List.getD_eq_getElem?_getD, List.getElem?_eq_getElem (by omega)]; simp)
      have e0 : decide (0 < zs.length) = true := decide_eq_true (by omega)
      have e1 : decide (0 < (zs.length : Int)) = true := decide_eq_true (by omega)
      rw [e0]
      generalize zs.getD 0 0 = b at hx hzb ⊢
      have HX := Lib.hid (show w.cell? y = some (.int .u8 b) by simpa [Addr.add] using hx)
      clear hx e0
      have hxa := cell_later ((Below.refl _ _).alloc (Nat.le_refl _) (.cells (rowC ⟨rc, nm, -1, inn, out, gas, ends⟩) 82)) HX.out
      unfold rowC at hxa
      go_enter Tryd.func77, Tryd.ntmps77
      unfold rowC
      go_wp2
      go_ret
      refine ⟨?_, (Below.refl _ _).alloc (Nat.le_refl _) _⟩
      show Ending.returned (.bool ((zs.length : Int) == 1 + 2 * (b + 1))) = _
      rw [show 1 + 2 * (b + 1) = 2 * b + 3 by omega]
  · rw [if_neg him]
    go_enter Tryd.func77, Tryd.ntmps77
    unfold rowC
    go_wp2
    go_ret
    exact ⟨rfl, (Below.refl _ _).alloc (Nat.le_refl _) _⟩
theorem needsOf_unfit {c : Int} {z : List Int} (h : isOp c = true) (hf : fitsOf (opR c) z = false) : needsOf c z = (0, 0, false) := by
  unfold fitsOf at hf
  by_cases him : (opR c).imm = -1
  · rw [if_pos him] at hf
    by_cases h0 : z.length = 0
    · exact needsOf_none h him h0
    · rw [decide_eq_true (by omega : 0 < z.length), Bool.true_and] at hf
      exact needsOf_len h (by unfold immN; rw [if_pos him]; simpa using hf)
  · rw [if_neg him] at hf
    exact needsOf_len h (by unfold immN; rw [if_neg him]; simpa using hf)
theorem fit_len {c : Int} {z : List Int} (hf : fitsOf (opR c) z = true) : ¬ ((opR c).imm = -1 ∧ z.length = 0) ∧ (z.length : Int) = immN (opR c) (z.getD 0 0) := by
  unfold fitsOf at hf
  unfold immN
  by_cases him : (opR c).imm = -1
  · rw [if_pos him] at hf
    rw [if_pos him]
    simp only [Bool.and_eq_true, decide_eq_true_eq, beq_iff_eq] at hf
    exact ⟨fun h => by omega, hf.2⟩
  · rw [if_neg him] at hf
    rw [if_neg him]
    simp only [beq_iff_eq] at hf
    exact ⟨fun h => him h.1, hf⟩
set_option maxHeartbeats 2000000 in
set_option maxRecDepth 100000 in
theorem rneeds_230 (code : Int) (h : code = 230) (A : Option Addr) (cap : Nat) (zs : List Int) (w : World) (HC : Hid (IntsAt w .u8 A zs)) (HZ : Hid (∀ z ∈ zs, 0 ≤ z ∧ z < 256)) (hn : zs.length ≤ 4611686018427387904) (hop : isOp code = true) (hfit : fitsOf (opR code) zs = true) :
    Calls Tryd.prog 63 #[.int .i64 code, .slice A zs.length cap] w fun e w' => e = .returned (needsV code zs) ∧ Below w.heap.size w w' := by
  have hfl := fit_len hfit
  have hl : zs.length = 1 := by
    have := hfl.2
    rw [h, show immN (opR 230) (zs.getD 0 0) = 1 from rfl] at this
    omega
  obtain ⟨y, rfl, hx⟩ := HC.out 0 (by omega)
  have hzb := HZ.out (zs.getD 0 0) (by rw [List.getD_eq_getElem?_getD, List.getElem?_eq_getElem (by omega)]; simp)
  have b1 : (code == 230) = true := by simp [h]
  have hv := Lib.hid (needsOf_dup hop hfl.1 hfl.2 (.inl h))
  rw [show (opR code).inn = 1 by rw [h]; rfl, show (opR code).out = 2 by rw [h]; rfl] at hv
  have hl0 : 0 < zs.length := by omega
  have hl1 : decide (0 < (zs.length : Int)) = true := decide_eq_true (by omega)
  clear h hfl hl
  generalize hre : opR code = r at hfit
  obtain ⟨rc, nm, imm, inn, out, gas, ends⟩ := r
  have HR := Lib.hid hre
  clear hre
  have HF := Lib.hid hfit
  clear hfit
  generalize zs.getD 0 0 = b at hx hzb hv
  have HX := Lib.hid (show w.cell? y = some (.int .u8 b) by simpa [Addr.add] using hx)
  clear hx
  go_enter Tryd.func63, Tryd.ntmps63
  go_wp2_with (first | (go_at_call 61; refine (rof_any _ _).mono ?_; rw [hop, HR.out]; unfold rowC; rintro e w1 ⟨rfl, hb⟩) | (go_at_call 77; refine (fits_any ⟨rc, nm, imm, inn, out, gas, ends⟩ _ _ zs _ (ints_below (hb.alloc hb.size (.cells (rowC ⟨rc, nm, imm, inn, out, gas, ends⟩) 82)) HC.out) HZ.out hn).mono ?_; rw [HF.out]; rintro e w2 ⟨rfl, hb2⟩; have hB := (hb.alloc hb.size (.cells (rowC ⟨rc, nm, imm, inn, out, gas, ends⟩) 82)).trans (hb2.mono (hb.alloc hb.size _).size); have hxa := cell_later hB HX.out))
  go_quiet (fail)
  go_wp2
  refine bodyPost_ret (results_tmp3 rfl _ _ _) rfl ⟨?_, below_drewN hB _⟩
  show Ending.returned (.tuple #[.int .i64 (b + 1), .int .i64 (b + 2), .bool true]) = _
  rw [needsV_of hv.out, Int.add_comm b 1, Int.add_comm b 2]
set_option maxHeartbeats 2000000 in
set_option maxRecDepth 100000 in
theorem rneeds_231 (code : Int) (h : code = 231) (A : Option Addr) (cap : Nat) (zs : List Int) (w : World) (HC : Hid (IntsAt w .u8 A zs)) (HZ : Hid (∀ z ∈ zs, 0 ≤ z ∧ z < 256)) (hn : zs.length ≤ 4611686018427387904) (hop : isOp code = true) (hfit : fitsOf (opR code) zs = true) :
    Calls Tryd.prog 63 #[.int .i64 code, .slice A zs.length cap] w fun e w' => e = .returned (needsV code zs) ∧ Below w.heap.size w w' := by
  have hfl := fit_len hfit
  have hl : zs.length = 1 := by
    have := hfl.2
    rw [h, show immN (opR 231) (zs.getD 0 0) = 1 from rfl] at this
    omega
  obtain ⟨y, rfl, hx⟩ := HC.out 0 (by omega)
  have hzb := HZ.out (zs.getD 0 0) (by rw [List.getD_eq_getElem?_getD, List.getElem?_eq_getElem (by omega)]; simp)
  have b1 : (code == 230) = false := by simp [h]
  have b2 : (code == 231) = true := by simp [h]
  have hv := Lib.hid (needsOf_dup hop hfl.1 hfl.2 (.inr h))
  rw [show (opR code).inn = 2 by rw [h]; rfl, show (opR code).out = 2 by rw [h]; rfl] at hv
  have hl0 : 0 < zs.length := by omega
  have hl1 : decide (0 < (zs.length : Int)) = true := decide_eq_true (by omega)
  clear h hfl hl
  generalize hre : opR code = r at hfit
  obtain ⟨rc, nm, imm, inn, out, gas, ends⟩ := r
  have HR := Lib.hid hre
  clear hre
  have HF := Lib.hid hfit
  clear hfit
  generalize zs.getD 0 0 = b at hx hzb hv
  have HX := Lib.hid (show w.cell? y = some (.int .u8 b) by simpa [Addr.add] using hx)
  clear hx
  go_enter Tryd.func63, Tryd.ntmps63
  go_wp2_with (first | (go_at_call 61; refine (rof_any _ _).mono ?_; rw [hop, HR.out]; unfold rowC; rintro e w1 ⟨rfl, hb⟩) | (go_at_call 77; refine (fits_any ⟨rc, nm, imm, inn, out, gas, ends⟩ _ _ zs _ (ints_below (hb.alloc hb.size (.cells (rowC ⟨rc, nm, imm, inn, out, gas, ends⟩) 82)) HC.out) HZ.out hn).mono ?_; rw [HF.out]; rintro e w2 ⟨rfl, hb2⟩; have hB := (hb.alloc hb.size (.cells (rowC ⟨rc, nm, imm, inn, out, gas, ends⟩) 82)).trans (hb2.mono (hb.alloc hb.size _).size); have hxa := cell_later hB HX.out))
  go_quiet (fail)
  go_wp2
  refine bodyPost_ret (results_tmp3 rfl _ _ _) rfl ⟨?_, below_drewN hB _⟩
  show Ending.returned (.tuple #[.int .i64 (b + 2), .int .i64 (b + 2), .bool true]) = _
  rw [needsV_of hv.out, Int.add_comm b 2]
set_option maxHeartbeats 2000000 in
set_option maxRecDepth 100000 in
theorem rneeds_232 (code : Int) (h : code = 232) (A : Option Addr) (cap : Nat) (zs : List Int) (w : World) (HC : Hid (IntsAt w .u8 A zs)) (HZ : Hid (∀ z ∈ zs, 0 ≤ z ∧ z < 256)) (hn : zs.length ≤ 4611686018427387904) (hop : isOp code = true) (hfit : fitsOf (opR code) zs = true) :
    Calls Tryd.prog 63 #[.int .i64 code, .slice A zs.length cap] w fun e w' => e = .returned (needsV code zs) ∧ Below w.heap.size w w' := by
  have hfl := fit_len hfit
  have hl : zs.length = 1 := by
    have := hfl.2
    rw [h, show immN (opR 232) (zs.getD 0 0) = 1 from rfl] at this
    omega
  obtain ⟨y, rfl, hx⟩ := HC.out 0 (by omega)
  have hzb := HZ.out (zs.getD 0 0) (by rw [List.getD_eq_getElem?_getD, List.getElem?_eq_getElem (by omega)]; simp)
  have b1 : (code == 230) = false := by simp [h]
  have b2 : (code == 231) = false := by simp [h]
  have b3 : (code == 232) = true := by simp [h]
  have hv := Lib.hid (needsOf_ex hop hfl.1 hfl.2 (by omega) h)
  rw [show (opR code).inn = 3 by rw [h]; rfl, show (opR code).out = 3 by rw [h]; rfl] at hv
  have hl0 : 0 < zs.length := by omega
  have hl1 : decide (0 < (zs.length : Int)) = true := decide_eq_true (by omega)
  clear h hfl hl
  generalize hre : opR code = r at hfit
  obtain ⟨rc, nm, imm, inn, out, gas, ends⟩ := r
  have HR := Lib.hid hre
  clear hre
  have HF := Lib.hid hfit
  clear hfit
  generalize zs.getD 0 0 = b at hx hzb hv
  have HX := Lib.hid (show w.cell? y = some (.int .u8 b) by simpa [Addr.add] using hx)
  clear hx
  go_enter Tryd.func63, Tryd.ntmps63
  go_wp2_with (first | (go_at_call 61; refine (rof_any _ _).mono ?_; rw [hop, HR.out]; unfold rowC; rintro e w1 ⟨rfl, hb⟩) | (go_at_call 77; refine (fits_any ⟨rc, nm, imm, inn, out, gas, ends⟩ _ _ zs _ (ints_below (hb.alloc hb.size (.cells (rowC ⟨rc, nm, imm, inn, out, gas, ends⟩) 82)) HC.out) HZ.out hn).mono ?_; rw [HF.out]; rintro e w2 ⟨rfl, hb2⟩; have hB := (hb.alloc hb.size (.cells (rowC ⟨rc, nm, imm, inn, out, gas, ends⟩) 82)).trans (hb2.mono (hb.alloc hb.size _).size); have hxa := cell_later hB HX.out))
  go_quiet (fail)
  go_wp2
  refine bodyPost_ret (results_tmp3 rfl _ _ _) rfl ⟨?_, below_drewN hB _⟩
  show Ending.returned (.tuple #[.int .i64 (b / 16 + b % 16 + 3), .int .i64 (b / 16 + b % 16 + 3), .bool true]) = _
  rw [needsV_of hv.out, Int.add_comm (b / 16 + b % 16) 3]
set_option maxHeartbeats 4000000 in
set_option maxRecDepth 100000 in
theorem rneeds_any (code : Int) (A : Option Addr) (cap : Nat) (zs : List Int) (w : World) (hc : IntsAt w .u8 A zs) (hz : ∀ z ∈ zs, 0 ≤ z ∧ z < 256) (hn : zs.length ≤ 4611686018427387904) :
    Calls Tryd.prog 63 #[.int .i64 code, .slice A zs.length cap] w fun e w' => e = .returned (needsV code zs) ∧ Below w.heap.size w w' := by
  have HC := Lib.hid hc
  have HZ := Lib.hid hz
  clear hc hz
  cases hop : isOp code with
  | false =>
    have hv := Lib.hid (needsOf_no zs hop)
    go_enter Tryd.func63, Tryd.ntmps63
    go_wp2_with (go_at_call 61; refine (rof_any _ _).mono ?_; rw [hop]; unfold rowC; rintro e w1 ⟨rfl, hb⟩)
    refine bodyPost_ret (results_tmp3 rfl _ _ _) rfl ⟨by rw [needsV_of hv.out]; rfl, hb.alloc hb.size _⟩
  | true =>
    cases hfit : fitsOf (opR code) zs with
    | false =>
      have hv := Lib.hid (needsOf_unfit hop hfit)
      generalize hre : opR code = r at hfit
      have HR := Lib.hid hre
      clear hre
      have HF := Lib.hid hfit
      clear hfit
      go_enter Tryd.func63, Tryd.ntmps63
      go_wp2_with (first | (go_at_call 61; refine (rof_any _ _).mono ?_; rw [hop, HR.out]; unfold rowC; rintro e w1 ⟨rfl, hb⟩) | (go_at_call 77; refine (fits_any r _ _ zs _ (ints_below (hb.alloc hb.size (.cells (rowC r) 82)) HC.out) HZ.out hn).mono ?_; rw [HF.out]; rintro e w2 ⟨rfl, hb2⟩))
      refine bodyPost_ret (results_tmp3 rfl _ _ _) rfl ⟨by rw [needsV_of hv.out]; rfl, (hb.alloc hb.size _).trans (hb2.mono (hb.alloc hb.size _).size)⟩
    | true =>
      have hfl := fit_len hfit
      by_cases h0 : code = 230 ∨ code = 231 ∨ code = 232
      · rcases h0 with h | h | h
        · exact rneeds_230 code h A cap zs w HC HZ hn hop hfit
        · exact rneeds_231 code h A cap zs w HC HZ hn hop hfit
        · exact rneeds_232 code h A cap zs w HC HZ hn hop hfit
      · have hn1 : ¬ (code = 230 ∨ code = 231) := fun h => h0 (by omega)
        have hn2 : ¬ code = 232 := fun h => h0 (by omega)
        have b1 : (code == 230) = false := by simp; omega
        have b2 : (code == 231) = false := by simp; omega
        have b3 : (code == 232) = false := by simp; omega
        have hv := needsOf_else hop hfl.1 hfl.2 hn1 hn2
        generalize hre : opR code = r at hfit hv
        obtain ⟨rc, nm, imm, inn, out, gas, ends⟩ := r
        dsimp only at hv
        have HR := Lib.hid hre
        clear hre hfl
        have HF := Lib.hid hfit
        clear hfit
        have HV := Lib.hid hv
        clear hv
        go_enter Tryd.func63, Tryd.ntmps63
        go_wp2_with (first | (go_at_call 61; refine (rof_any _ _).mono ?_; rw [hop, HR.out]; unfold rowC; rintro e w1 ⟨rfl, hb⟩) | (go_at_call 77; refine (fits_any ⟨rc, nm, imm, inn, out, gas, ends⟩ _ _ zs _ (ints_below (hb.alloc hb.size (.cells (rowC ⟨rc, nm, imm, inn, out, gas, ends⟩) 82)) HC.out) HZ.out hn).mono ?_; rw [HF.out]; rintro e w2 ⟨rfl, hb2⟩; have hB := (hb.alloc hb.size (.cells (rowC ⟨rc, nm, imm, inn, out, gas, ends⟩) 82)).trans (hb2.mono (hb.alloc hb.size _).size)))
        have hg2 := kept_of hb2 (heap_alloc_new w1 (.cells (rowC ⟨rc, nm, imm, inn, out, gas, ends⟩) 82))
        obtain ⟨q0, q1, q2, q3, q4, q5, q6, qz, ql⟩ := cells7 hg2
        go_quiet (fail)
        go_wp2
        refine bodyPost_ret (results_tmp3 rfl _ _ _) rfl ⟨by rw [needsV_of HV.out]; rfl, below_drewN hB _⟩
end Go.Proofs.YtfjmdffhfjnopaaDoor
