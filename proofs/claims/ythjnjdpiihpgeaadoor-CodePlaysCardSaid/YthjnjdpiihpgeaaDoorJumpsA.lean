/- A jump that is made by hand: the plain facts. -/
import Derived.Test.YthjnjdpiihpgeaaDoorLeads6
namespace Vouch
def hiB (z : Int) : Int := z / 256 % 256
def loB (z : Int) : Int := z % 256
def twos (zs : List Int) : List Int := zs.flatMap fun z => [hiB z, loB z]
theorem twos_length (zs : List Int) : (twos zs).length = 2 * zs.length := by
  induction zs with
  | nil => rfl
  | cons z zs ih => unfold twos at ih ⊢; rw [List.flatMap_cons, List.length_append, ih, List.length_cons]; simp; omega
theorem twos_append (a b : List Int) : twos (a ++ b) = twos a ++ twos b := by simp [twos]
theorem twos_snoc {zs : List Int} {k : Nat} (h : k < zs.length) : twos (zs.take (k + 1)) = twos (zs.take k) ++ [hiB (zs.getD k 0), loB (zs.getD k 0)] := by
  rw [List.take_add_one, List.getElem?_eq_getElem h, twos_append, List.getD_eq_getElem?_getD, List.getElem?_eq_getElem h]
  rfl
theorem twos_at {zs : List Int} {k : Nat} (h : k < zs.length) : (twos zs).getD (2 * k) 0 = hiB (zs.getD k 0) ∧ (twos zs).getD (2 * k + 1) 0 = loB (zs.getD k 0) := by
  have e : twos zs = twos (zs.take k) ++ (hiB (zs.getD k 0) :: loB (zs.getD k 0) :: twos (zs.drop (k + 1))) := by
    conv => lhs; rw [← List.take_append_drop (k + 1) zs]
    rw [twos_append, twos_snoc h, List.append_assoc]
    rfl
  have hl : (twos (zs.take k)).length = 2 * k := by rw [twos_length, List.length_take]; omega
  rw [e]
  constructor
  · rw [List.getD_eq_getElem?_getD, List.getElem?_append_right (by omega), hl]; simp
  · rw [List.getD_eq_getElem?_getD, List.getElem?_append_right (by omega), hl, show 2 * k + 1 - 2 * k = 1 by omega]; simp
theorem byte_hi (z : Int) : 0 ≤ hiB z ∧ hiB z < 256 := by unfold hiB; omega
theorem byte_lo (z : Int) : 0 ≤ loB z ∧ loB z < 256 := by unfold loB; omega
theorem hi_lo (z : Int) : 256 * hiB z + loB z = z % 65536 := by unfold hiB loB; omega
def jimm (zs : List Int) (N : Nat) : List Int := ((N : Int) - 1) :: twos (zs.take N)
theorem jimm_length {zs : List Int} {N : Nat} (h : N ≤ zs.length) : (jimm zs N).length = 1 + 2 * N := by unfold jimm; rw [List.length_cons, twos_length, List.length_take]; omega
theorem jimm_at {zs : List Int} {N k : Nat} (h : N ≤ zs.length) (hk : k < N) : (jimm zs N).getD (1 + 2 * k) 0 = hiB (zs.getD k 0) ∧ (jimm zs N).getD (1 + 2 * k + 1) 0 = loB (zs.getD k 0) := by
  have ht := twos_at (zs := zs.take N) (k := k) (by rw [List.length_take]; omega)
  rw [show (zs.take N).getD k 0 = zs.getD k 0 by rw [List.getD_eq_getElem?_getD, List.getElem?_take, if_pos hk, ← List.getD_eq_getElem?_getD]] at ht
  unfold jimm
  rw [show 1 + 2 * k = (2 * k) + 1 by omega, show 2 * k + 1 + 1 = (2 * k + 1) + 1 from rfl, List.getD_cons_succ, List.getD_cons_succ]
  exact ht
theorem jimm_byte {zs : List Int} {N : Nat} (h1 : 1 ≤ N) (h2 : N ≤ 256) : ∀ x ∈ jimm zs N, 0 ≤ x ∧ x < 256 := by
  intro x hx
  unfold jimm at hx
  rcases List.mem_cons.1 hx with h | h
  · omega
  · unfold twos at h
    obtain ⟨z, _, hz⟩ := List.mem_flatMap.1 h
    rcases List.mem_cons.1 hz with h | h
    · rw [h]; exact byte_hi z
    · rw [List.mem_singleton.1 h]; exact byte_lo z
theorem jimm_stands {zs : List Int} {N : Nat} {at_ : Int} (h : N ≤ zs.length) (h1 : 1 ≤ N) (h2 : N ≤ 256) (ha : 0 ≤ at_ ∧ at_ ≤ 65535) : standsI ⟨at_, 226, jimm zs N, at_ + 1 + (1 + 2 * (N : Int))⟩ = true := by
  have hl := jimm_length h
  have hi : immL (opR 226) (jimm zs N) = some (1 + 2 * N) := by
    unfold immL
    rw [if_pos (show (opR 226).imm = -1 from rfl), if_neg (by omega)]
    congr 1
    unfold jimm
    rw [List.getD_cons_zero]
    omega
  unfold standsI
  dsimp only
  rw [hi, show isOp 226 = true from by decide +kernel, decide_eq_true (show 0 ≤ at_ by omega), decide_eq_true (show at_ ≤ 1048576 by omega)]
  simp only [Bool.true_and, hl, Bool.and_eq_true, beq_iff_eq]
  exact ⟨trivial, by omega⟩
theorem jimm_leads {zs : List Int} {N : Nat} {at_ : Int} (h : N ≤ zs.length) (h1 : 1 ≤ N) (h2 : N ≤ 256) (ha : 0 ≤ at_ ∧ at_ ≤ 65535) : leadsI ⟨at_, 226, jimm zs N, at_ + 1 + (1 + 2 * (N : Int))⟩ = leadsN (jimm zs N) 1 N (at_ + 1 + (1 + 2 * (N : Int))) := by
  unfold leadsI
  rw [if_pos (jimm_stands h h1 h2 ha), if_pos rfl]
  dsimp only
  rw [jimm_length h, show (1 + 2 * N - 1) / 2 = N by omega]
theorem leadsN_at (z : List Int) (fr N k : Nat) (next : Int) (hk : k < N) : (leadsN z fr N next).getD k 0 = next + distN z (fr + 2 * k) := by
  unfold leadsN
  rw [List.getD_eq_getElem?_getD, List.getElem?_map, List.getElem?_range hk]
  rfl
theorem jimm_dist {zs : List Int} {N k : Nat} (h : N ≤ zs.length) (hk : k < N) : distN (jimm zs N) (1 + 2 * k) = i16N (zs.getD k 0 % 65536) := by
  have := jimm_at h hk
  unfold distN pairN
  rw [this.1, this.2, hi_lo]
theorem lone_stands {at_ C h l : Int} (hC : C = 224 ∨ C = 225) (ha : 0 ≤ at_ ∧ at_ ≤ 65535) : standsI ⟨at_, C, [h, l], at_ + 3⟩ = true := by
  have hi : immL (opR C) [h, l] = some 2 := by rcases hC with rfl | rfl <;> rfl
  have ho : isOp C = true := by rcases hC with rfl | rfl <;> decide +kernel
  unfold standsI
  dsimp only
  rw [hi, ho, decide_eq_true (show 0 ≤ at_ by omega), decide_eq_true (show at_ ≤ 1048576 by omega)]
  simp only [Bool.true_and, Bool.and_eq_true, beq_iff_eq]
  exact ⟨rfl, by omega⟩
theorem lone_leads {at_ C : Int} (z : Int) (hC : C = 224 ∨ C = 225) (ha : 0 ≤ at_ ∧ at_ ≤ 65535) : leadsI ⟨at_, C, [hiB z, loB z], at_ + 3⟩ = [at_ + 3 + i16N (z % 65536)] := by
  unfold leadsI
  rw [if_pos (lone_stands hC ha), if_neg (by dsimp only; omega), if_pos hC]
  show [at_ + 3 + i16N (256 * hiB z + loB z)] = _
  rw [hi_lo]
end Vouch
namespace Go.Proofs.YthjnjdpiihpgeaaDoor
open Go.RowKit Vouch Go.Vk Go.Sort
theorem owned_ints64 {w : World} {B : Nat} {X : Option Addr} {c : Nat} {zs : List Int} (h : w.ownsRow B 3 1 (.slice X zs.length c) zs.length (intVs zs)) : IntsAt w .i64 X zs := fun i hi => by
  obtain ⟨g, rfl⟩ := own_head h (by omega)
  refine ⟨_, rfl, ?_⟩
  rw [show (⟨g, 0, none⟩ : Addr).add i = ⟨g, i, none⟩ by unfold Addr.add; split <;> simp_all, h.cellAt i (by omega)]
  simp [intVs, List.getD_eq_getElem?_getD, List.getElem?_eq_getElem hi]
theorem u16_i16 (z : Int) : IntKind.i16.wrap (IntKind.u16.wrap z) = i16N (z % 65536) := by
  rw [show IntKind.u16.wrap z = z % 65536 by simp [IntKind.wrap, IntKind.bits, IntKind.signed]]
  exact i16_wrap _ (by omega) (by omega)
theorem mask16 (z : Int) (h0 : 0 ≤ z) (h1 : z < 9223372036854775808) : bits .and .i64 z 65535 = z % 65536 := bits_mask .i64 63 (by decide) wraps_i64 16 (by decide) z h0 h1
end Go.Proofs.YthjnjdpiihpgeaaDoor
