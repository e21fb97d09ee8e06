/- code.length: how many immediate bytes a row asks for. -/
import Derived.Test.YtfjmdffhfjnopaaDoorOpD
import Derived.Test.YtfjmdffhfjnopaaDoorGen
import Derived.Test.YtfjmdffhfjnopaaDoorSpec6
import Derived.Laws.CopyOwn
import Derived.OwnWalk
import Derived.Laws.OwnMore
import Derived.Laws.BitsLemmas
namespace Go.Proofs.YtfjmdffhfjnopaaDoor
open Go.RowKit Vouch Go.Vk Go.Sort
theorem imm_ok (c : Int) (h0 : 0 ≤ c) (h1 : c < 256) (h : isOp c = true) : -1 ≤ (opR c).imm ∧ (opR c).imm ≤ 32 := by
  have : ∀ i : Fin 256, isOp (i.1 : Int) = true → (decide (-1 ≤ (opR (i.1 : Int)).imm) && decide ((opR (i.1 : Int)).imm ≤ 32)) = true := by decide +kernel
  have hc : ((c.toNat : Nat) : Int) = c := by omega
  have := this ⟨c.toNat, by omega⟩ (by rw [hc]; exact h)
  rw [hc] at this
  simpa using this
def lenV (r : OpRow) (z : List Int) : Int × Bool := if r.imm = -1 then (if z.length = 0 then (0, false) else (2 * z.getD 0 0 + 3, true)) else (r.imm, true)
theorem ints_below {w w' : World} {k : IntKind} {A : Option Addr} {zs : List Int} (hb : Below w.heap.size w w') (h : IntsAt w k A zs) : IntsAt w' k A zs := fun i hi => by
  obtain ⟨x, hx, hc⟩ := h i hi
  exact ⟨x, hx, cell_later hb hc⟩
set_option maxHeartbeats 1000000 in
set_option maxRecDepth 100000 in
theorem length_any (r : OpRow) (A : Option Addr) (cap : Nat) (zs : List Int) (w : World) (hc : IntsAt w .u8 A zs) (hz : ∀ z ∈ zs, 0 ≤ z ∧ z < 256) (hn : zs.length ≤ 4611686018427387904) :
    Calls Tryd.prog 60 #[.agg (rowC r), .slice A zs.length cap] w fun e w' => e = .returned (.tuple #[.int .i64 (lenV r zs).1, .bool (lenV r zs).2]) ∧ Below w.heap.size w w' := by
  have HC := Lib.hid hc
  have HZ := Lib.hid hz
  clear hc hz
  unfold lenV
  obtain ⟨rc, nm, imm, inn, out, gas, ends⟩ := r
  dsimp only
  by_cases him : imm = -1
  · subst him
    rw [if_pos rfl]
    by_cases hz0 : zs.length = 0
    · rw [if_pos hz0]
      go_enter Tryd.func60, Tryd.ntmps60
      unfold rowC
      go_wp2
      refine bodyPost_ret (results_tmp2 rfl _ _ _) rfl ⟨rfl, (Below.refl _ _).alloc (Nat.le_refl _) _⟩
    · rw [if_neg hz0]
      obtain ⟨y, rfl, hx⟩ := HC.out 0 (by omega)
      have hzb := HZ.out (zs.getD 0 0) (by rw [List.getD_eq_getElem?_getD, List.getElem?_eq_getElem (by omega)]; simp)
      have e1 : decide (0 < (zs.length : Int)) = true := decide_eq_true (by omega)
      have e2 : ¬ (zs.length : Int) = 0 := by omega
      generalize zs.getD 0 0 = b at hx hzb ⊢
      have HX := Lib.hid (show w.cell? y = some (.int .u8 b) by simpa [Addr.add] using hx)
      clear hx
      have hxa := cell_later ((Below.refl _ _).alloc (Nat.le_refl _) (.cells (rowC ⟨rc, nm, -1, inn, out, gas, ends⟩) 82)) HX.out
      unfold rowC at hxa
      go_enter Tryd.func60, Tryd.ntmps60
      unfold rowC
      go_wp2
      refine bodyPost_ret (results_tmp2 rfl _ _ _) rfl ⟨?_, (Below.refl _ _).alloc (Nat.le_refl _) _⟩
      show Ending.returned (.tuple #[.int .i64 (1 + 2 * (b + 1)), .bool true]) = _
      rw [show 1 + 2 * (b + 1) = 2 * b + 3 by omega]
  · rw [if_neg him]
    go_enter Tryd.func60, Tryd.ntmps60
    unfold rowC
    go_wp2
    refine bodyPost_ret (results_tmp2 rfl _ _ _) rfl ⟨rfl, (Below.refl _ _).alloc (Nat.le_refl _) _⟩
/-- An instruction as a value, its immediate bytes at v. -/
def insV (i : Ins) (v : Value) : Value := .agg #[.int .i64 i.at_, .int .i64 i.code, v, .int .i64 i.next]
def byteVs (zs : List Int) : List Value := zs.map (.int .u8)
end Go.Proofs.YtfjmdffhfjnopaaDoor
