/- Plain facts on the tables: which codes have a row; those that have none. -/
import Derived.Test.YtfjmdffhfjnopaaDoorRefB
import Derived.Test.YtfjmdffhfjnopaaDoorRefC
import Derived.Test.YtfjmdffhfjnopaaDoorRefD
namespace Go.Proofs.YtfjmdffhfjnopaaDoor
open Go.RowKit Vouch Go.Vk
def isZeroR (r : OpRow) : Bool := r.code == 0 && r.name.data.toList == [] && r.imm == 0 && r.inn == 0 && r.out == 0 && r.gas == 0 && !r.ends
theorem isZeroR_eq {r : OpRow} (h : isZeroR r = true) : r = zeroR := by
  obtain ⟨c, ⟨⟨n⟩⟩, m, i, o, g, e⟩ := r
  simp [isZeroR] at h
  obtain ⟨⟨⟨⟨⟨⟨rfl, rfl⟩, rfl⟩, rfl⟩, rfl⟩, rfl⟩, rfl⟩ := h
  rfl
theorem tab_all : ∀ i : Fin 256, isOp (i.1 : Int) = (in_numbers i.1 || in_around i.1 || in_kept i.1 || in_ways i.1) ∧ ((in_numbers i.1 || in_around i.1 || in_kept i.1 || in_ways i.1) = false → isZeroR (opR i.1) = true) ∧ (in_around i.1 = true → (!((opR i.1).name.toList == [45])) = true) := by
  decide +kernel
theorem opR_out (c : Int) (h : c < 0 ∨ 255 < c) : opR c = zeroR := by
  unfold opR
  rw [if_neg (by omega), if_neg (by omega), if_neg (by omega), if_neg (by omega)]
  rcases h with h | h
  · rw [if_pos (by omega)]; exact sumsR_none c (by omega)
  · rw [if_neg (by omega), if_neg (by omega), if_neg (by omega), if_neg (by omega), turnedR_none c (by omega), outwardR_none c (by omega)]
theorem isOp_eq (c : Int) : isOp c = (in_numbers c || in_around c || in_kept c || in_ways c) := by
  by_cases h : 0 ≤ c ∧ c ≤ 255
  · obtain ⟨i, rfl⟩ := Int.eq_ofNat_of_zero_le h.1
    exact (tab_all ⟨i, by omega⟩).1
  · have e := opR_out c (by omega)
    have h1 : in_numbers c = false := by unfold in_numbers; exact decide_eq_false (by omega)
    have h2 : in_around c = false := by unfold in_around; exact decide_eq_false (by omega)
    have h3 : in_kept c = false := by unfold in_kept; exact decide_eq_false (by omega)
    have h4 : in_ways c = false := by unfold in_ways; exact decide_eq_false (by omega)
    rw [h1, h2, h3, h4]
    unfold isOp
    rw [e]
    decide +kernel
theorem opR_no (c : Int) (h : isOp c = false) : opR c = zeroR := by
  by_cases hc : 0 ≤ c ∧ c ≤ 255
  · obtain ⟨i, rfl⟩ := Int.eq_ofNat_of_zero_le hc.1
    refine isZeroR_eq ((tab_all ⟨i, by omega⟩).2.1 ?_)
    rw [isOp_eq] at h
    exact h
  · exact opR_out c (by omega)
theorem around_name (c : Int) (h : in_around c = true) : (!((opR c).name.toList == [45])) = true := by
  have hc : 0 ≤ c ∧ c ≤ 255 := by
    unfold in_around at h
    have := of_decide_eq_true h
    omega
  obtain ⟨i, rfl⟩ := Int.eq_ofNat_of_zero_le hc.1
  exact (tab_all ⟨i, by omega⟩).2.2 h
end Go.Proofs.YtfjmdffhfjnopaaDoor
