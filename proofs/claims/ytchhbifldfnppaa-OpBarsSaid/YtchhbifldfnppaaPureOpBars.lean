/- OpBars: for every list of codes and every kind, the program's Bars and the document's Bars tell the same of each code and the kind, the kind below and the kind above; no condition. -/
import Derived.Test.YtchhbifldfnppaaPOpBarsx1
namespace Go.Proofs.Ytchhbifldfnppaa.Pure
open Go.RowKit Go.Proofs.Ytchhbifldfnppaa.POpBars Go.Proofs.YtchhbifldfnppaaW.PrintWords Go.Proofs.YtchhbifldfnppaaW.PrintLast

theorem bars_some (a b : Int) : ∃ r, op_Bars.f a b = some r ∧ vouchref4_Bars.f a b = some r := by
  unfold op_Bars.f vouchref4_Bars.f
  split
  · split <;> exact ⟨_, rfl, rfl⟩
  · split <;> exact ⟨_, rfl, rfl⟩

theorem inner (l : List Int) (a i : Int) (h0 : 0 ≤ i) (h1 : i < (l.length : Int)) (d : Int) (hd : d ≤ 1) (k : Nat) :
    vouchlaw4_OpBars.l1 (k + 1) l a i d = vouchlaw4_OpBars.l1 k l a i (wrap64 (d + 1)) := by
  simp only [vouchlaw4_OpBars.l1]
  rw [if_pos hd, if_pos h0, if_pos h1]
  obtain ⟨r, e1, e2⟩ := bars_some (rd l i) (wrap64 (a + d))
  rw [e1, e2]
  simp

theorem rounds (l : List Int) (a : Int) (hl : l.length ≤ 5000) (d : Nat) : ∀ (k : Nat) (i : Int), 0 ≤ i → i ≤ (l.length : Int) → (l.length : Int) - i = d → 5 * d < k →
    vouchlaw4_OpBars.l0 k l a i = some true := by
  induction d with
  | zero =>
    intro k i h0 h1 hd hk
    obtain ⟨k, rfl⟩ : ∃ m, k = m + 1 := ⟨k - 1, by omega⟩
    simp only [vouchlaw4_OpBars.l0]
    rw [if_neg (by omega)]
    rfl
  | succ d ih =>
    intro k i h0 h1 hd hk
    obtain ⟨k, rfl⟩ : ∃ m, k = m + 1 + 1 + 1 + 1 + 1 := ⟨k - 5, by omega⟩
    have hlt : i < (l.length : Int) := by omega
    simp only [vouchlaw4_OpBars.l0]
    rw [if_pos hlt, inner l a i h0 hlt _ (by omega)]
    rw [show wrap64 (-1 + 1) = 0 from by unfold wrap64; omega, inner l a i h0 hlt _ (by omega)]
    rw [show wrap64 (0 + 1) = 1 from by unfold wrap64; omega, inner l a i h0 hlt _ (by omega)]
    rw [show wrap64 (1 + 1) = 2 from by unfold wrap64; omega]
    simp only [vouchlaw4_OpBars.l1]
    rw [if_neg (by omega), show wrap64 (i + 1) = i + 1 from by unfold wrap64; omega]
    exact ih k (i + 1) (by omega) (by omega) (by omega) (by omega)

/-- YOURS: ∀ (l0 : List Int) (a1 : Int), l0.length ≤ maxLen → l0.length * 8 ≤ 140737488351232 → (∀ x ∈ l0, (Lit.int .i64 x).wf = true) → (Lit.int .i64 a1).wf = true → ∃ k, vouchlaw4_OpBars.f k l0 a1 = some true -/
theorem OpBars : vouchlaw4_OpBars.Pure := by
  intro l a _ _ _ _
  by_cases h : (l.length : Int) > 5000
  · exact ⟨0, by unfold vouchlaw4_OpBars.f; rw [if_pos h]⟩
  · refine ⟨5 * l.length + 1, ?_⟩
    unfold vouchlaw4_OpBars.f
    rw [if_neg h]
    exact rounds l a (by omega) l.length _ 0 (by omega) (by omega) (by omega) (by omega)

end Go.Proofs.Ytchhbifldfnppaa.Pure
