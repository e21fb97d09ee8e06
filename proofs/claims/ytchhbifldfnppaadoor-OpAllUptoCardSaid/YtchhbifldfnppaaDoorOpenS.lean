/- Arguments opened: a slice of strings that came in, as a list. Over any program. -/
import Derived.SizedLaws
import Derived.SliceStrings
import Derived.Below
namespace Go.Vk
open Go.ChangeShapes Go.WideShapes Go.RowKit
/-- A slice of strings that is read. -/
def StrsAt (w : World) (A : Option Addr) (ss : List ByteArray) : Prop := ∀ i, i < ss.length → ∃ x, A = some x ∧ w.cell? (x.add i) = some (.string (ss.getD i ByteArray.empty))
theorem mem_weightsAll {H : Type} {P : Program} {e : TypeId} : ∀ (l : List (DataW H)) (d : DataW H), d ∈ l → ∀ n ∈ d.weights P e, n ∈ DataW.weightsAll P e l
  | x :: r, d, hd, n, hn => by
    simp only [DataW.weightsAll, List.mem_append]
    rcases List.mem_cons.1 hd with rfl | hd
    · exact .inl hn
    · exact .inr (mem_weightsAll r d hd n hn)
theorem open_strsAt {H : Type} {enc : TypeId × Value → H} {P : Program} {W : World} {base : Nat} {spare : Nat → Bool} {held : Bool} {t e : TypeId} {a : Option Addr} {len cap : Nat} {d : DataW H} {ps : List MemPlace} {ts : List TypeId} {ds : List (DataW H)} {j : Nat}
    (hsz : (DataW.weightsEach P ts ds).all (· ≤ reachBytes) = true) (ht : ts[j]? = some t) (hd : ds[j]? = some d)
    (hu : P.underlying t = some (.slice e)) (he : P.underlying e = some .string) (hc : P.cellsOf e = 1) {B : Nat} (hB : P.bytesOf e = B)
    (h : DataW.Trod enc P W base spare held t (.slice a len cap) d ps) : ∃ ss : List ByteArray, ss.length ≤ cap ∧ len = ss.length ∧ StrsAt W a ss ∧ (∀ s ∈ ss, s.size ≤ 140737488351232) ∧ ss.length * B ≤ 140737488351232 := by
  obtain ⟨fuel, hf⟩ := h
  rcases open_strings hu he hc hf with ⟨hcs, _⟩ | ⟨x, l, c, zs, hcs, _, hl, hm, hz, hx, hcell, hwf⟩
  · simp [Value.cells] at hcs
    obtain ⟨rfl, rfl, rfl⟩ := hcs
    exact ⟨[], by simp, rfl, fun i hi => by simp at hi, fun n hn => by simp at hn, by simp⟩
  · simp [Value.cells] at hcs
    obtain ⟨rfl, rfl, rfl⟩ := hcs
    obtain ⟨hx, _⟩ := Prod.mk.inj hx
    subst hx
    have hl2 : len ≤ zs.length := by
      rw [hz]
      split
      · exact hl
      · exact Nat.le_refl _
    have hw := fun n hn => List.all_eq_true.1 hsz n (DataW.weights_mem_each ht hd n hn)
    refine ⟨zs.take len, by simp; omega, by simp; omega, fun i hi => ⟨x, rfl, ?_⟩, fun s hs => ?_, ?_⟩
    · have hi' : i < len := by simp at hi; omega
      rw [hcell i (by omega)]
      simp [List.getD_eq_getElem?_getD, hi']
    · have := hw s.data.toList.length (by
        simp only [DataW.weights, hu, List.mem_cons, List.mem_append]
        refine .inr (.inl (mem_weightsAll (strs (zs.take len)) (.lit (.string s.data.toList)) (List.mem_map.2 ⟨s, hs, rfl⟩) _ ?_))
        simp [DataW.weights])
      have h2 := of_decide_eq_true this
      rw [Array.length_toList] at h2
      exact h2
    · have := sized_slice hsz ht hd hu
      rw [hB] at this
      have h1 : (strs (H := H) (zs.take len)).length + (strs (H := H) (zs.drop len)).length = zs.length := by
        simp [strs]
        omega
      rw [h1] at this
      refine Nat.le_trans (Nat.mul_le_mul_right _ ?_) this
      simp
      omega
end Go.Vk
