/- A frame whose slots are mostly of no matter: its size and the slots that matter are said; to walk on it is written out, one letter with a number for each slot. Over any program. -/
import Derived.WalkKit
namespace Go.Vk
theorem frame_open {a : Act} {n : Nat} (h : a.tmps.size = n) : ∃ u : Nat → Value, (∀ k, a.tmps.getD k undef = u k) ∧ a = { tmps := ((List.range n).map u).toArray, defers := a.defers } := by
  refine ⟨fun k => a.tmps.getD k undef, fun _ => rfl, ?_⟩
  obtain ⟨⟨l⟩, ds⟩ := a
  simp only [List.size_toArray] at h
  subst h
  congr
  refine List.ext_getElem (by simp) fun i h1 h2 => ?_
  simp [List.getElem?_eq_getElem h1]
end Go.Vk
