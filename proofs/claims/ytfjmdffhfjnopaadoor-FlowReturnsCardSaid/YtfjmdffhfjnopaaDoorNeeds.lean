/- op.Needs: what an instruction with these immediate bytes takes and leaves. -/
import Derived.Test.YtfjmdffhfjnopaaDoorRefF
import Derived.Test.YtfjmdffhfjnopaaDoorGen
import Derived.Deep.QuietTactic
import Derived.BigQuiet
import Derived.WalkSmall
namespace Go.Proofs.YtfjmdffhfjnopaaDoor
open Go.RowKit Vouch Go.Vk
/-- As many immediate bytes as the row asks for, where the first is b. -/
def immN (r : OpRow) (b : Int) : Int := if r.imm = -1 then 2 * b + 3 else r.imm
/-- What an instruction takes and leaves, and whether it is one: z are its immediate bytes. -/
def needsOf (c : Int) (z : List Int) : Int × Int × Bool :=
  if isOp c = false then (0, 0, false)
  else if (opR c).imm = -1 ∧ z.length = 0 then (0, 0, false)
  else if (z.length : Int) ≠ immN (opR c) (z.getD 0 0) then (0, 0, false)
  else if c = 230 ∨ c = 231 then ((opR c).inn + z.getD 0 0, (opR c).out + z.getD 0 0, true)
  else if c = 232 then ((opR c).inn + (z.getD 0 0 / 16 + z.getD 0 0 % 16), (opR c).out + (z.getD 0 0 / 16 + z.getD 0 0 % 16), true)
  else ((opR c).inn, (opR c).out, true)
def needsV (c : Int) (z : List Int) : Value := .tuple #[.int .i64 (needsOf c z).1, .int .i64 (needsOf c z).2.1, .bool (needsOf c z).2.2]
theorem needsV_of {c : Int} {z : List Int} {a b : Int} {k : Bool} (h : needsOf c z = (a, b, k)) : needsV c z = .tuple #[.int .i64 a, .int .i64 b, .bool k] := by
  unfold needsV; rw [h]
theorem needsOf_no {c : Int} (z : List Int) (h : isOp c = false) : needsOf c z = (0, 0, false) := by unfold needsOf; rw [if_pos h]
theorem needsOf_none {c : Int} {z : List Int} (h : isOp c = true) (h1 : (opR c).imm = -1) (h2 : z.length = 0) : needsOf c z = (0, 0, false) := by
  unfold needsOf; rw [if_neg (by simp [h]), if_pos ⟨h1, h2⟩]
theorem needsOf_len {c : Int} {z : List Int} (h : isOp c = true) (h2 : (z.length : Int) ≠ immN (opR c) (z.getD 0 0)) : needsOf c z = (0, 0, false) := by
  unfold needsOf
  rw [if_neg (by simp [h])]
  by_cases h3 : (opR c).imm = -1 ∧ z.length = 0
  · rw [if_pos h3]
  · rw [if_neg h3, if_pos h2]
theorem needsOf_dup {c : Int} {z : List Int} (h : isOp c = true) (h1 : ¬ ((opR c).imm = -1 ∧ z.length = 0)) (h2 : (z.length : Int) = immN (opR c) (z.getD 0 0)) (h3 : c = 230 ∨ c = 231) :
    needsOf c z = ((opR c).inn + z.getD 0 0, (opR c).out + z.getD 0 0, true) := by
  unfold needsOf
  rw [if_neg (by simp [h]), if_neg h1, if_neg (by simp only [ne_eq, Decidable.not_not]; exact h2), if_pos h3]
theorem needsOf_ex {c : Int} {z : List Int} (h : isOp c = true) (h1 : ¬ ((opR c).imm = -1 ∧ z.length = 0)) (h2 : (z.length : Int) = immN (opR c) (z.getD 0 0)) (h3 : ¬ (c = 230 ∨ c = 231)) (h4 : c = 232) :
    needsOf c z = ((opR c).inn + (z.getD 0 0 / 16 + z.getD 0 0 % 16), (opR c).out + (z.getD 0 0 / 16 + z.getD 0 0 % 16), true) := by
  unfold needsOf
  rw [if_neg (by simp [h]), if_neg h1, if_neg (by simp only [ne_eq, Decidable.not_not]; exact h2), if_neg h3, if_pos h4]
theorem needsOf_else {c : Int} {z : List Int} (h : isOp c = true) (h1 : ¬ ((opR c).imm = -1 ∧ z.length = 0)) (h2 : (z.length : Int) = immN (opR c) (z.getD 0 0)) (h3 : ¬ (c = 230 ∨ c = 231)) (h4 : ¬ c = 232) :
    needsOf c z = ((opR c).inn, (opR c).out, true) := by
  unfold needsOf
  rw [if_neg (by simp [h]), if_neg h1, if_neg (by simp only [ne_eq, Decidable.not_not]; exact h2), if_neg h3, if_neg h4]
theorem needs_end {code : Int} {zs : List Int} {x : Int × Int × Bool} {w w' : World} (h : needsOf code zs = x) (hb : Below w.heap.size w w') :
    Value.tuple #[.int .i64 x.1, .int .i64 x.2.1, .bool x.2.2] = needsV code zs ∧ Below w.heap.size w w' := ⟨(needsV_of (by rw [h])).symm, hb⟩
set_option maxHeartbeats 4000000 in
set_option maxRecDepth 100000 in
theorem needs_any (code : Int) (A : Option Addr) (cap : Nat) (zs : List Int) (w : World) (hc : IntsAt w .u8 A zs) (hz : ∀ z ∈ zs, 0 ≤ z ∧ z < 256) (hn : zs.length ≤ 4611686018427387904) :
    Calls Tryd.prog 43 #[.int .i64 code, .slice A zs.length cap] w fun e w' => e = .returned (needsV code zs) ∧ Below w.heap.size w w' := by
  have HC := Lib.hid hc
  have HZ := Lib.hid hz
  clear hc hz
  cases hop : isOp code with
  | false =>
    have hv := Lib.hid (needsOf_no zs hop)
    have hr := opR_no code hop
    go_enter Tryd.func43, Tryd.ntmps43
    go_wp2_with (go_at_call 40; refine (of_any _ _).mono ?_; rw [hop]; unfold rowC; rintro e w1 ⟨rfl, hb⟩)
    refine bodyPost_ret (results_tmp3 rfl _ _ _) rfl ⟨by rw [needsV_of hv.out]; rfl, hb.alloc hb.size _⟩
  | true =>
    have hspec := @needsOf_none code zs hop
    have hlen := @needsOf_len code zs hop
    have hdup := @needsOf_dup code zs hop
    have hex := @needsOf_ex code zs hop
    have hels := @needsOf_else code zs hop
    by_cases h0 : code = 230 ∨ code = 231 ∨ code = 232
    · by_cases hl : zs.length = 1
      · obtain ⟨y, rfl, hx⟩ := HC.out 0 (by omega)
        have hzb := HZ.out (zs.getD 0 0) (by rw [List.getD_eq_getElem?_getD, List.getElem?_eq_getElem (by omega)]; simp)
        rcases h0 with rfl | rfl | rfl
        · have hv := Lib.hid (hdup (by rw [show (opR 230).imm = 1 from rfl]; omega) (by rw [show immN (opR 230) (zs.getD 0 0) = 1 from rfl]; omega) (.inl rfl))
          rw [show (opR 230).inn = 1 from rfl, show (opR 230).out = 2 from rfl] at hv
          clear hspec hlen hels hdup hex
          generalize zs.getD 0 0 = b at hx hzb hv
          have HX := Lib.hid (show w.cell? y = some (.int .u8 b) by simpa [Addr.add] using hx)
          clear hx
          go_enter Tryd.func43, Tryd.ntmps43
          go_wp2_with (go_at_call 40; refine (of_any _ _).mono ?_; rw [hop, show opR 230 = ⟨230, (opR 230).name, 1, 1, 2, (opR 230).gas, (opR 230).ends⟩ from rfl]; unfold rowC; rintro e w1 ⟨rfl, hb⟩; have hxr := cell_later hb HX.out; have hxa := cell_later (hb.alloc hb.size (.cells (rowC ⟨230, (opR 230).name, 1, 1, 2, (opR 230).gas, (opR 230).ends⟩) 82)) HX.out; have hxb := cell_later (hb.alloc hb.size (.cells (rowC ⟨230, (opR 230).name, 1, 1 + b, 2, (opR 230).gas, (opR 230).ends⟩) 82)) HX.out; unfold rowC at hxa hxb)
          go_region
          go_wp2
          go_region
          go_wp2
          go_quiet (fail)
          go_wp2
          refine bodyPost_ret (results_tmp3 rfl _ _ _) rfl ⟨by rw [needsV_of hv.out]; rfl, ?_⟩
          exact below_drewN ((hb.alloc hb.size _).drew.drew) _
        · have hv := Lib.hid (hdup (by rw [show (opR 231).imm = 1 from rfl]; omega) (by rw [show immN (opR 231) (zs.getD 0 0) = 1 from rfl]; omega) (.inr rfl))
          rw [show (opR 231).inn = 2 from rfl, show (opR 231).out = 2 from rfl] at hv
          clear hspec hlen hels hdup hex
          generalize zs.getD 0 0 = b at hx hzb hv
          have HX := Lib.hid (show w.cell? y = some (.int .u8 b) by simpa [Addr.add] using hx)
          clear hx
          go_enter Tryd.func43, Tryd.ntmps43
          go_wp2_with (go_at_call 40; refine (of_any _ _).mono ?_; rw [hop, show opR 231 = ⟨231, (opR 231).name, 1, 2, 2, (opR 231).gas, (opR 231).ends⟩ from rfl]; unfold rowC; rintro e w1 ⟨rfl, hb⟩; have hxr := cell_later hb HX.out; have hxa := cell_later (hb.alloc hb.size (.cells (rowC ⟨231, (opR 231).name, 1, 2, 2, (opR 231).gas, (opR 231).ends⟩) 82)) HX.out; have hxb := cell_later (hb.alloc hb.size (.cells (rowC ⟨231, (opR 231).name, 1, 2 + b, 2, (opR 231).gas, (opR 231).ends⟩) 82)) HX.out; unfold rowC at hxa hxb)
          go_region
          go_wp2
          go_region
          go_wp2
          go_quiet (fail)
          go_wp2
          refine bodyPost_ret (results_tmp3 rfl _ _ _) rfl ⟨by rw [needsV_of hv.out]; rfl, ?_⟩
          exact below_drewN ((hb.alloc hb.size _).drew.drew) _
        · have hv := Lib.hid (hex (by rw [show (opR 232).imm = 1 from rfl]; omega) (by rw [show immN (opR 232) (zs.getD 0 0) = 1 from rfl]; omega) (by omega) rfl)
          rw [show (opR 232).inn = 3 from rfl, show (opR 232).out = 3 from rfl] at hv
          clear hspec hlen hels hdup hex
          generalize zs.getD 0 0 = b at hx hzb hv
          have HX := Lib.hid (show w.cell? y = some (.int .u8 b) by simpa [Addr.add] using hx)
          clear hx
          go_enter Tryd.func43, Tryd.ntmps43
          go_wp2_with (go_at_call 40; refine (of_any _ _).mono ?_; rw [hop, show opR 232 = ⟨232, (opR 232).name, 1, 3, 3, (opR 232).gas, (opR 232).ends⟩ from rfl]; unfold rowC; rintro e w1 ⟨rfl, hb⟩; have hxr := cell_later hb HX.out; have hxa := cell_later (hb.alloc hb.size (.cells (rowC ⟨232, (opR 232).name, 1, 3, 3, (opR 232).gas, (opR 232).ends⟩) 82)) HX.out; unfold rowC at hxa)
          go_quiet (fail)
          go_wp2
          go_quiet (fail)
          go_wp2
          refine bodyPost_ret (results_tmp3 rfl _ _ _) rfl ⟨by rw [needsV_of hv.out]; rfl, ?_⟩
          exact below_drewN (((below_drewN (hb.alloc hb.size _) _).setCell (by exact hb.size) _).setCell (by exact hb.size) _) _
      · have hv := Lib.hid (hlen (by rcases h0 with rfl | rfl | rfl <;> (rw [show immN _ (zs.getD 0 0) = 1 from rfl]; omega)))
        clear hspec hlen hels hdup hex
        have hl' : ¬ (zs.length : Int) = 1 := by omega
        rcases h0 with rfl | rfl | rfl
        · go_enter Tryd.func43, Tryd.ntmps43
          go_wp2_with (go_at_call 40; refine (of_any _ _).mono ?_; rw [hop, show opR 230 = ⟨230, (opR 230).name, 1, 1, 2, (opR 230).gas, (opR 230).ends⟩ from rfl]; unfold rowC; rintro e w1 ⟨rfl, hb⟩)
          refine bodyPost_ret (results_tmp3 rfl _ _ _) rfl ⟨by rw [needsV_of hv.out]; rfl, hb.alloc hb.size _⟩
        · go_enter Tryd.func43, Tryd.ntmps43
          go_wp2_with (go_at_call 40; refine (of_any _ _).mono ?_; rw [hop, show opR 231 = ⟨231, (opR 231).name, 1, 2, 2, (opR 231).gas, (opR 231).ends⟩ from rfl]; unfold rowC; rintro e w1 ⟨rfl, hb⟩)
          refine bodyPost_ret (results_tmp3 rfl _ _ _) rfl ⟨by rw [needsV_of hv.out]; rfl, hb.alloc hb.size _⟩
        · go_enter Tryd.func43, Tryd.ntmps43
          go_wp2_with (go_at_call 40; refine (of_any _ _).mono ?_; rw [hop, show opR 232 = ⟨232, (opR 232).name, 1, 3, 3, (opR 232).gas, (opR 232).ends⟩ from rfl]; unfold rowC; rintro e w1 ⟨rfl, hb⟩)
          refine bodyPost_ret (results_tmp3 rfl _ _ _) rfl ⟨by rw [needsV_of hv.out]; rfl, hb.alloc hb.size _⟩
    · have hn1 : ¬ (code = 230 ∨ code = 231) := fun h => h0 (by omega)
      have hn2 : ¬ code = 232 := fun h => h0 (by omega)
      have b1 : (code == 230) = false := by simp; omega
      have b2 : (code == 231) = false := by simp; omega
      have b3 : (code == 232) = false := by simp; omega
      clear hdup hex
      generalize hre : opR code = r at hspec hlen hels
      obtain ⟨rc, nm, imm, inn, out, gas, ends⟩ := r
      dsimp only at hspec hlen hels
      have HR := Lib.hid hre
      clear hre
      by_cases him : imm = -1
      · subst him
        by_cases hz0 : zs.length = 0
        · have hv := Lib.hid (hspec rfl hz0)
          clear hspec hlen hels
          go_enter Tryd.func43, Tryd.ntmps43
          go_wp2_with (go_at_call 40; refine (of_any _ _).mono ?_; rw [hop, HR.out]; unfold rowC; rintro e w1 ⟨rfl, hb⟩)
          refine bodyPost_ret (results_tmp3 rfl _ _ _) rfl ⟨by rw [needsV_of hv.out]; rfl, hb.alloc hb.size _⟩
        · obtain ⟨y, rfl, hx⟩ := HC.out 0 (by omega)
          have hzb := HZ.out (zs.getD 0 0) (by rw [List.getD_eq_getElem?_getD, List.getElem?_eq_getElem (by omega)]; simp)
          by_cases hl : (zs.length : Int) = 2 * zs.getD 0 0 + 3
          · have hv := Lib.hid (hels (fun h => hz0 h.2) (by unfold immN; rw [if_pos rfl]; exact hl) hn1 hn2)
            clear hspec hlen hels
            generalize zs.getD 0 0 = b at hx hzb hl
            have HX := Lib.hid (show w.cell? y = some (.int .u8 b) by simpa [Addr.add] using hx)
            clear hx
            go_enter Tryd.func43, Tryd.ntmps43
            go_wp2_with (go_at_call 40; refine (of_any _ _).mono ?_; rw [hop, HR.out]; unfold rowC; rintro e w1 ⟨rfl, hb⟩; have hxr := cell_later hb HX.out; have hxa := cell_later (hb.alloc hb.size (.cells (rowC ⟨rc, nm, -1, inn, out, gas, ends⟩) 82)) HX.out; unfold rowC at hxa)
            go_quiet (fail)
            go_wp2
            refine bodyPost_ret (results_tmp3 rfl _ _ _) rfl ⟨by rw [needsV_of hv.out]; rfl, below_drewN (hb.alloc hb.size _) _⟩
          · have hv := Lib.hid (hlen (by unfold immN; rw [if_pos rfl]; exact hl))
            clear hspec hlen hels
            generalize zs.getD 0 0 = b at hx hzb hl
            have HX := Lib.hid (show w.cell? y = some (.int .u8 b) by simpa [Addr.add] using hx)
            clear hx
            go_enter Tryd.func43, Tryd.ntmps43
            go_wp2_with (go_at_call 40; refine (of_any _ _).mono ?_; rw [hop, HR.out]; unfold rowC; rintro e w1 ⟨rfl, hb⟩; have hxr := cell_later hb HX.out; have hxa := cell_later (hb.alloc hb.size (.cells (rowC ⟨rc, nm, -1, inn, out, gas, ends⟩) 82)) HX.out; unfold rowC at hxa)
            refine bodyPost_ret (results_tmp3 rfl _ _ _) rfl ⟨by rw [needsV_of hv.out]; rfl, hb.alloc hb.size _⟩
      · by_cases hl : (zs.length : Int) = imm
        · have hv := Lib.hid (hels (fun h => him h.1) (by unfold immN; rw [if_neg him]; exact hl) hn1 hn2)
          clear hspec hlen hels
          go_enter Tryd.func43, Tryd.ntmps43
          go_wp2_with (go_at_call 40; refine (of_any _ _).mono ?_; rw [hop, HR.out]; unfold rowC; rintro e w1 ⟨rfl, hb⟩)
          go_quiet (fail)
          go_wp2
          refine bodyPost_ret (results_tmp3 rfl _ _ _) rfl ⟨by rw [needsV_of hv.out]; rfl, below_drewN (hb.alloc hb.size _) _⟩
        · have hv := Lib.hid (hlen (by unfold immN; rw [if_neg him]; exact hl))
          clear hspec hlen hels
          go_enter Tryd.func43, Tryd.ntmps43
          go_wp2_with (go_at_call 40; refine (of_any _ _).mono ?_; rw [hop, HR.out]; unfold rowC; rintro e w1 ⟨rfl, hb⟩)
          refine bodyPost_ret (results_tmp3 rfl _ _ _) rfl ⟨by rw [needsV_of hv.out]; rfl, hb.alloc hb.size _⟩
end Go.Proofs.YtfjmdffhfjnopaaDoor
