/- A slice of integers that came in, as a list; a nil slice has no room. Over any program. -/
import Derived.Test.YthjnjdpiihpgeaaDoorOpen
namespace Go.Vk
open Go.ChangeShapes Go.WideShapes Go.RowKit
theorem open_intsAt2 {H : Type} {enc : TypeId × Value → H} {P : Program} {W : World} {base : Nat} {spare : Nat → Bool} {held : Bool} {t e : TypeId} {k : IntKind} {a : Option Addr} {len cap : Nat} {d : DataW H} {ps : List MemPlace}
    (hu : P.underlying t = some (.slice e)) (he : P.underlying e = some (.int k)) (hc : P.cellsOf e = 1)
    (h : DataW.Trod enc P W base spare held t (.slice a len cap) d ps) : ∃ zs : List Int, zs.length ≤ cap ∧ len = zs.length ∧ IntsAt W k a zs ∧ (∀ n ∈ zs, (Lit.int k n).wf = true) ∧ (a = none → cap = 0) := by
  obtain ⟨zs, h1, h2, h3, h4, _⟩ := open_intsAt hu he hc h
  refine ⟨zs, h1, h2, h3, h4, fun hn => ?_⟩
  obtain ⟨fuel, hf⟩ := h
  rcases open_ints hu he hc hf with ⟨hcs, _⟩ | ⟨x, l, c, zs', hcs, _⟩
  · simp [Value.cells] at hcs
    exact hcs.2.2
  · simp [Value.cells] at hcs
    rw [hn] at hcs
    cases hcs.1
end Go.Vk
