/- An instruction that came in by value, opened. -/
import Derived.Test.YthjnjdpiihpgeaaDoorLeads6
import Derived.Test.YthjnjdpiihpgeaaDoorOpen2
import Derived.Lib.SmallJoins
import Derived.SizedLaws
import Derived.ChangeArms
namespace Go.Vk
open Go.ChangeShapes Go.WideShapes Go.RowKit
theorem sized_agg {H : Type} {P : Program} {ts : List TypeId} {ds parts : List (DataW H)} {j : Nat} {t : TypeId} {fs : Array Field} (h : (DataW.weightsEach P ts ds).all (· ≤ reachBytes) = true) (ht : ts[j]? = some t) (hd : ds[j]? = some (.agg parts))
    (hu : P.underlying t = some (.struct fs)) : (DataW.weightsEach P (fs.toList.map (·.type)) parts).all (· ≤ reachBytes) = true :=
  List.all_eq_true.2 fun n hn => List.all_eq_true.1 h n (DataW.weights_mem_each ht hd n (by simpa [DataW.weights, hu] using hn))
end Go.Vk
namespace Go.Proofs.YthjnjdpiihpgeaaDoor
open Go.RowKit Vouch Go.Vk Go.Sort Go.Joins
/-- What is known of an instruction that came in. -/
def InsAt (w : World) (i : Ins) (A : Option Addr) (cap : Nat) : Prop := IntsAt w .u8 A i.imm ∧ (∀ n ∈ i.imm, (Lit.int .u8 n).wf = true) ∧ i.imm.length ≤ cap ∧ (A = none → cap = 0) ∧ i.imm.length ≤ 140737488351232 ∧ (Lit.int .i64 i.at_).wf = true ∧ (Lit.int .i64 i.code).wf = true ∧ (Lit.int .i64 i.next).wf = true
theorem open_ins {H : Type} {enc : TypeId × Value → H} {W : World} {base : Nat} {spare : Nat → Bool} {held : Bool} {v : Value} {d : DataW H} {ps : List MemPlace} {r : Reach} {b0 : Nat} {ts : List TypeId} {ds : List (DataW H)} {j : Nat}
    (hsz : (DataW.weightsEach Tryd.prog ts ds).all (· ≤ reachBytes) = true) (ht : ts[j]? = some 34) (hd : ds[j]? = some d) (hv : Value.okWide Tryd.prog W r b0 34 v)
    (h : DataW.Trod enc Tryd.prog W base spare held 34 v d ps) : ∃ i A cap, v = insV i (.slice A i.imm.length cap) ∧ InsAt W i A cap := by
  obtain ⟨v0, v1, v2, v3, y0, y1, y2, y3, n, rfl, rfl, rfl, h0, h1, h2, h3⟩ := open_agg4 Tryd.underlying34 (by kernel_rfl) (by kernel_rfl) hv h
  obtain ⟨a0, e0, _, w0⟩ := DataW.trod_int Tryd.underlying3 h0
  obtain ⟨a1, e1, _, w1⟩ := DataW.trod_int Tryd.underlying3 h1
  obtain ⟨a3, e3, _, w3⟩ := DataW.trod_int Tryd.underlying3 h3
  obtain ⟨A, l, c, e2⟩ := slice_form Tryd.underlying22 h2
  simp only [List.cons.injEq, and_true] at e0 e1 e2 e3
  subst e0 e1 e2 e3
  have hT : DataW.Trod enc Tryd.prog W base spare held 22 (.slice A l c) y2.1 y2.2 := ⟨n, h2⟩
  have hs2 := Vk.sized_agg hsz ht hd Tryd.underlying34
  have hl := Vk.sized_ints hs2 (j := 2) (t := 22) (B := 1) rfl rfl Tryd.underlying22 Tryd.underlying5 (by kernel_rfl) (by kernel_rfl) hT
  obtain ⟨z, hz0, rfl, hz1, hz2, hz3⟩ := Vk.open_intsAt2 Tryd.underlying22 Tryd.underlying5 (by kernel_rfl) hT
  exact ⟨⟨a0, a1, z, a3⟩, A, c, rfl, hz1, hz2, hz0, hz3, by dsimp only; omega, w0, w1, w3⟩
end Go.Proofs.YthjnjdpiihpgeaaDoor
