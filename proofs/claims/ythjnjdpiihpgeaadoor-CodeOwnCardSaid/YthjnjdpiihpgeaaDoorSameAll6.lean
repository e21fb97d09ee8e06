/- vouchlaw6.sameAll of two lists of the same instructions: true. -/
import Derived.Test.YthjnjdpiihpgeaaDoorSame6
import Derived.Test.YthjnjdpiihpgeaaDoorRound
import Derived.Test.YthjnjdpiihpgeaaDoorOwnSet
namespace Go.Proofs.YthjnjdpiihpgeaaDoor
open Go.RowKit Vouch Go.Vk Go.Sort
set_option maxHeartbeats 1000000 in
set_option maxRecDepth 100000 in
theorem sameall_any (xs ys : List El) (vx vy : Value) (B B' : Nat) (w : World) (ox : w.ownsRow B 34 4 vx xs.length (insCells xs)) (rx : RowsAt B xs w) (oy : w.ownsRow B' 34 4 vy ys.length (insCells ys)) (ry : RowsAt B' ys w)
    (he : xs.map Prod.fst = ys.map Prod.fst) (hn : xs.length ≤ 4294967296) :
    Calls Tryd.prog 26 #[vx, vy] w fun e w' => e = .returned (.bool true) ∧ Below w.heap.size w w' := by
  have hl : ys.length = xs.length := by have := congrArg List.length he; simpa using this.symm
  have HE := Lib.hid he
  clear he
  obtain ⟨X, cx, rfl⟩ := owns_shape ox
  obtain ⟨Y, cy, rfl⟩ := owns_shape oy
  have HY := Lib.hid oy
  have HX := Lib.hid ox
  have HRX := Lib.hid rx
  have HRY := Lib.hid ry
  rw [hl] at HY ⊢
  have HL := Lib.hid hl
  clear ox oy rx ry hl
  go_enter Tryd.func26, Tryd.ntmps26
  go_wp2
  go_loopw [5] (fun vi wr => ∃ k : Nat, vi = .int .i64 k ∧ k ≤ xs.length ∧ Below w.heap.size w wr) (fun vi _ => xs.length - (intOf vi).toNat)
  case atStart => exact ⟨0, rfl, Nat.zero_le _, Below.refl _ _⟩
  case round =>
    obtain ⟨k, rfl, hk, hB⟩ := hrel
    by_cases hlt : k < xs.length
    · have h1 : (k : Int) < (xs.length : Int) := by omega
      have hx : xs[k]? = some xs[k] := List.getElem?_eq_getElem hlt
      have hy : ys[k]? = some (ys[k]'(by have := HL.out; omega)) := List.getElem?_eq_getElem (by have := HL.out; omega)
      have hxy : (xs[k]).1 = (ys[k]'(by have := HL.out; omega)).1 := by
        have := congrArg (fun l => l[k]?) HE.out
        simp only [List.getElem?_map, hx, hy, Option.map_some] at this
        exact Option.some.inj this
      have mx := HRX.out _ (List.mem_of_getElem? hx)
      have my := HRY.out _ (List.mem_of_getElem? hy)
      obtain ⟨x0, x1, x2, x3⟩ := insCells_at hx
      obtain ⟨y0, y1, y2, y3⟩ := insCells_at hy
      generalize xs[k] = ex at hx hxy mx x0 x1 x2 x3
      generalize ys[k]'(by have := HL.out; omega) = ey at hy hxy my y0 y1 y2 y3
      obtain ⟨i, vi⟩ := ex
      obtain ⟨i2, vj⟩ := ey
      dsimp only at hxy mx my x0 x1 x2 x3 y0 y1 y2 y3
      subst hxy
      obtain ⟨I, c, rfl⟩ := owns_shape mx
      obtain ⟨J, d, rfl⟩ := owns_shape my
      obtain ⟨gx, rfl⟩ := own_head HX.out (by omega)
      obtain ⟨gy, rfl⟩ := own_head HY.out (by omega)
      have u0 := fun p os => cell_regrown (cell_later hB ((HX.out.cellAt (k * 4) (by omega)).trans x0)) p os
      have u1 := fun p os => cell_regrown (cell_later hB ((HX.out.cellAt (k * 4 + 1) (by omega)).trans x1)) p os
      have u2 := fun p os => cell_regrown (cell_later hB ((HX.out.cellAt (k * 4 + 2) (by omega)).trans x2)) p os
      have u3 := fun p os => cell_regrown (cell_later hB ((HX.out.cellAt (k * 4 + 3) (by omega)).trans x3)) p os
      have z0 := fun p os => cell_regrown (cell_later hB ((HY.out.cellAt (k * 4) (by omega)).trans y0)) p os
      have z1 := fun p os => cell_regrown (cell_later hB ((HY.out.cellAt (k * 4 + 1) (by omega)).trans y1)) p os
      have z2 := fun p os => cell_regrown (cell_later hB ((HY.out.cellAt (k * 4 + 2) (by omega)).trans y2)) p os
      have z3 := fun p os => cell_regrown (cell_later hB ((HY.out.cellAt (k * 4 + 3) (by omega)).trans y3)) p os
      have HI := Lib.hid (owned_ints mx)
      have HJ := Lib.hid (owned_ints my)
      have uS := fun p os => calls_grown (w := wr) (fun w1 hb => same_eq i I J c d w1 (ints_below (hB.trans (hb.mono hB.size)) HI.out) (ints_below (hB.trans (hb.mono hB.size)) HJ.out)) p os
      unfold insV at uS
      clear hx hy mx my x0 x1 x2 x3 y0 y1 y2 y3
      go_wp2
      refine wp_region_quiet_below (by kernel_rfl) (by kernel_rfl) ?_
      repeat (refine wpQuiet_step (fun K hK => ?_); go_simp; first | (refine hK _ ?_; clear hK K) | (apply Exists.intro; refine ⟨fun _ => ?_, hK _ ?_⟩; with_reducible exact uS _ _; clear hK K))
      refine wpQuiet_nil ?_
      rintro _ ⟨pq, rfl⟩
      have hb1 := below_regrown wr pq.d pq.os
      generalize grow (redrawn wr pq.d) pq.os = W1 at hb1 ⊢
      have hB1 := hB.trans (hb1.mono hB.size)
      clear u0 u1 u2 u3 z0 z1 z2 z3 uS
      go_wp2
      exact ⟨⟨k + 1, by go_num, by omega, hB1⟩, by simp [intOf]; omega⟩
    · have h1 : ¬ (k : Int) < (xs.length : Int) := by omega
      go_wp2
      go_ret
      exact ⟨rfl, hB⟩
end Go.Proofs.YthjnjdpiihpgeaaDoor
