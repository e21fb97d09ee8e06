/- A slice of arrays of two whole numbers that came in, opened. Over any program. -/
import Derived.Test.YthjnjdpiihpgeaaDoorOpen
import Derived.Deep.SlicePairs
import Derived.SizedLaws
import Derived.ChangeArms
namespace Go.Vk
open Go.ChangeShapes Go.WideShapes Go.RowKit Go.Deep
/-- Pairs of numbers that are read. -/
def TurnsAt (w : World) (X : Option Addr) (ts : List (Int × Int)) : Prop := ∀ i (h : i < ts.length), ∃ x, X = some x ∧ w.cell? (x.add (i * 2)) = some (.int .i64 (ts[i]).1) ∧ w.cell? (x.add (i * 2 + 1)) = some (.int .i64 (ts[i]).2) ∧ (Lit.int .i64 (ts[i]).1).wf = true ∧ (Lit.int .i64 (ts[i]).2).wf = true
theorem trod_array2 {H : Type} {enc : TypeId × Value → H} {P : Program} {w : World} {base : Nat} {spare : Nat → Bool} {held : Bool} {t e : TypeId} {fuel : Nat} {c0 c1 : Value} {x : DataW H × List MemPlace} (ht : P.underlying t = some (.array 2 e)) (hce : P.cellsOf e = 1)
    (h : DataW.trod enc P w base spare held fuel t [c0, c1] = some x) : ∃ y0 y1 n, DataW.trod enc P w base spare held n e [c0] = some y0 ∧ DataW.trod enc P w base spare held n e [c1] = some y1 := by
  cases fuel with
  | zero => simp [DataW.trod] at h
  | succ n =>
    unfold DataW.trod at h
    rw [ht] at h
    have r2 : List.range 2 = [0, 1] := rfl
    simp [r2, hce] at h
    obtain ⟨_, h⟩ := h
    cases h0 : DataW.trod enc P w base spare held n e [c0] with
    | none => simp [h0] at h
    | some y0 =>
      cases h1 : DataW.trod enc P w base spare held n e [c1] with
      | none => simp [h0, h1] at h
      | some y1 => exact ⟨y0, y1, n, h0, h1⟩
theorem open_turns {H : Type} {enc : TypeId × Value → H} {P : Program} {W : World} {base : Nat} {spare : Nat → Bool} {held : Bool} {t e b : TypeId} {a : Option Addr} {len cap : Nat} {d : DataW H} {ps : List MemPlace} {ts : List TypeId} {ds : List (DataW H)} {j : Nat}
    (hsz : (DataW.weightsEach P ts ds).all (· ≤ reachBytes) = true) (htj : ts[j]? = some t) (hdj : ds[j]? = some d)
    (hu : P.underlying t = some (.slice e)) (he : P.underlying e = some (.array 2 b)) (ce : P.cellsOf e = 2) (cb : P.cellsOf b = 1) (hb : P.underlying b = some (.int .i64)) (be : 0 < P.bytesOf e)
    (h : DataW.Trod enc P W base spare held t (.slice a len cap) d ps) : ∃ ls : List (Int × Int), len = ls.length ∧ TurnsAt W a ls ∧ ls.length ≤ 140737488351232 := by
  obtain ⟨fuel, hf⟩ := h
  rcases open_slice hu hf with ⟨hcs, _⟩ | ⟨x, l, c, m, n, D, Pl, hcs, _, hl, _, hm, hx, hi⟩
  · simp [Value.cells] at hcs
    obtain ⟨rfl, rfl, rfl⟩ := hcs
    exact ⟨[], rfl, (fun i hi => by simp at hi), by simp⟩
  · simp [Value.cells] at hcs
    obtain ⟨rfl, rfl, rfl⟩ := hcs
    obtain ⟨hd, _⟩ := Prod.mk.inj hx
    have hlm : len ≤ m := by rw [hm]; split <;> omega
    have each : ∀ i, i < len → ∃ p : Int × Int, W.cell? (x.add (i * 2)) = some (.int .i64 p.1) ∧ W.cell? (x.add (i * 2 + 1)) = some (.int .i64 p.2) ∧ (Lit.int .i64 p.1).wf = true ∧ (Lit.int .i64 p.2).wf = true := by
      intro i hil
      obtain ⟨cs, h1, h2⟩ := hi i (by omega)
      rw [ce] at h1
      obtain ⟨_, hlen, hcell⟩ := World.cells?_some h1
      match cs, hlen with
      | [v0, v1], _ =>
        have e0 := hcell 0 (by omega)
        have e1 := hcell 1 (by omega)
        rw [add_add] at e0 e1
        obtain ⟨y0, y1, q, k0, k1⟩ := trod_array2 he cb h2
        obtain ⟨z0, g0, _, w0⟩ := DataW.trod_int hb k0
        obtain ⟨z1, g1, _, w1⟩ := DataW.trod_int hb k1
        simp only [List.cons.injEq, and_true] at g0 g1
        subst g0 g1
        exact ⟨(z0, z1), by simpa using e0, by simpa using e1, w0, w1⟩
    let f : (i : Nat) → Int × Int := fun i => if hil : i < len then (each i hil).choose else (0, 0)
    have hbd := sized_slice hsz htj (hdj.trans (congrArg some hd)) hu
    rw [List.length_map, List.length_range] at hbd
    have hle : len ≤ 140737488351232 := by
      have h1 : len * 1 ≤ (len + ((List.range (m - len)).map fun j => D (len + j)).length) * P.bytesOf e := Nat.mul_le_mul (Nat.le_add_right _ _) be
      unfold reachBytes at hbd
      omega
    refine ⟨(List.range len).map f, by simp, fun i hi => ?_, by simpa using hle⟩
    simp only [List.length_map, List.length_range] at hi
    have e : ((List.range len).map f)[i]'(by simpa using hi) = (each i hi).choose := by
      simp only [List.getElem_map, List.getElem_range]
      exact dif_pos hi
    rw [e]
    exact ⟨x, rfl, (each i hi).choose_spec⟩
end Go.Vk
