/- A slice of pairs (a whole number, a slice of bytes) that came in, opened. Over any program. -/
import Derived.Test.YtchhbifldfnppaaDoorOpen
import Derived.Deep.SlicePairs
import Derived.SizedLaws
import Derived.ChangeArms
namespace Go.Vk
open Go.ChangeShapes Go.WideShapes Go.RowKit Go.Deep
/-- A pair that came in: a number, bytes, where they lie. -/
structure Pr where
  code : Int
  imm : List Int
  at_ : Option Addr
  cap : Nat
/-- Pairs that are read. -/
def PairsAt (w : World) (X : Option Addr) (ls : List Pr) : Prop := ∀ i (h : i < ls.length), ∃ x, X = some x ∧ w.cell? (x.add (i * 2)) = some (.int .i64 (ls[i]).code) ∧ w.cell? (x.add (i * 2 + 1)) = some (.slice (ls[i]).at_ (ls[i]).imm.length (ls[i]).cap) ∧
  IntsAt w .u8 (ls[i]).at_ (ls[i]).imm ∧ (∀ n ∈ (ls[i]).imm, (Lit.int .u8 n).wf = true) ∧ (ls[i]).imm.length ≤ (ls[i]).cap ∧ ((ls[i]).at_ = none → (ls[i]).cap = 0) ∧ (ls[i]).imm.length ≤ 140737488351232 ∧ (Lit.int .i64 (ls[i]).code).wf = true
theorem sized_elem {H : Type} {P : Program} {ts : List TypeId} {ds : List (DataW H)} {j : Nat} {t e : TypeId} {elems spare : List (DataW H)} {d : DataW H} (h : (DataW.weightsEach P ts ds).all (· ≤ reachBytes) = true) (ht : ts[j]? = some t) (hd : ds[j]? = some (.slice elems spare))
    (hu : P.underlying t = some (.slice e)) (hm : d ∈ elems) : ∀ n ∈ d.weights P e, n ≤ reachBytes := fun n hn => by
  have key : ∀ (l : List (DataW H)), d ∈ l → n ∈ DataW.weightsAll P e l := by
    intro l
    induction l with
    | nil => intro hm; cases hm
    | cons a l ih =>
      intro hm
      rcases List.mem_cons.1 hm with rfl | hm
      · unfold DataW.weightsAll
        exact List.mem_append.2 (.inl hn)
      · unfold DataW.weightsAll
        exact List.mem_append.2 (.inr (ih hm))
  have := List.all_eq_true.1 h n (DataW.weights_mem_each ht hd n (by
    simp only [DataW.weights, hu]
    exact List.mem_cons.2 (.inr (List.mem_append.2 (.inl (key elems hm))))))
  simpa using this
theorem open_pairs {H : Type} {enc : TypeId × Value → H} {P : Program} {W : World} {base : Nat} {spare : Nat → Bool} {held : Bool} {t e b8 : TypeId} {f0 f1 : Field} {a : Option Addr} {len cap : Nat} {d : DataW H} {ps : List MemPlace} {ts : List TypeId} {ds : List (DataW H)} {j : Nat}
    (hsz : (DataW.weightsEach P ts ds).all (· ≤ reachBytes) = true) (htj : ts[j]? = some t) (hdj : ds[j]? = some d)
    (hu : P.underlying t = some (.slice e)) (he : P.underlying e = some (.struct #[f0, f1])) (ce : P.cellsOf e = 2) (o0 : f0.offset = 0) (o1 : f1.offset = 1) (c0 : P.cellsOf f0.type = 1) (c1 : P.cellsOf f1.type = 1)
    (h0 : P.underlying f0.type = some (.int .i64)) (h1 : P.underlying f1.type = some (.slice b8)) (hb : P.underlying b8 = some (.int .u8)) (cb : P.cellsOf b8 = 1) (bb : P.bytesOf b8 = 1) (be : 0 < P.bytesOf e)
    (h : DataW.Trod enc P W base spare held t (.slice a len cap) d ps) : ∃ ls : List Pr, len = ls.length ∧ PairsAt W a ls ∧ ls.length ≤ 140737488351232 := by
  obtain ⟨fuel, hf⟩ := h
  rcases open_slice_pairs hu he ce o0 o1 c0 c1 hf with ⟨hcs, _⟩ | ⟨x, l, c, m, n, V0, V1, D0, D1, P0, P1, hcs, _, hl, _, hm, hx, hi⟩
  · simp [Value.cells] at hcs
    obtain ⟨rfl, rfl, rfl⟩ := hcs
    exact ⟨[], rfl, (fun i hi => by simp at hi), by simp⟩
  · simp [Value.cells] at hcs
    obtain ⟨rfl, rfl, rfl⟩ := hcs
    obtain ⟨hd, _⟩ := Prod.mk.inj hx
    have hlm : len ≤ m := by rw [hm]; split <;> omega
    have each : ∀ i, i < len → ∃ p : Pr, W.cell? (x.add (i * 2)) = some (.int .i64 p.code) ∧ W.cell? (x.add (i * 2 + 1)) = some (.slice p.at_ p.imm.length p.cap) ∧ IntsAt W .u8 p.at_ p.imm ∧ (∀ n ∈ p.imm, (Lit.int .u8 n).wf = true) ∧ p.imm.length ≤ p.cap ∧ (p.at_ = none → p.cap = 0) ∧ p.imm.length ≤ 140737488351232 ∧ (Lit.int .i64 p.code).wf = true := by
      intro i hil
      obtain ⟨g0, g1, k0, k1⟩ := hi i (by omega)
      obtain ⟨z, hz, _, hzw⟩ := DataW.trod_int h0 k0
      simp only [List.cons.injEq, and_true] at hz
      have hwt : ∀ n ∈ (D1 i).weights P f1.type, n ≤ reachBytes := fun n hn => sized_elem hsz htj (hdj.trans (congrArg some hd)) hu (d := .agg [D0 i, D1 i]) (List.mem_map.2 ⟨i, List.mem_range.2 hil, rfl⟩) n (by
        simp only [DataW.weights, he, List.map_cons, List.map_nil, DataW.weightsEach]
        exact List.mem_append.2 (.inr (List.mem_append.2 (.inl hn))))
      rcases open_ints h1 hb cb k1 with ⟨hcs, _⟩ | ⟨y, l', c', zs, hcs, _, hl', _, hzl, hxx, hcell, hwf⟩
      · simp only [List.cons.injEq, and_true] at hcs
        exact ⟨⟨z, [], none, 0⟩, by rw [g0, hz], by rw [g1, hcs]; rfl, fun i hi => by simp at hi, fun n hn => by simp at hn, Nat.le_refl _, fun _ => rfl, by simp, hzw⟩
      · simp only [List.cons.injEq, and_true] at hcs
        have hl2 : l' ≤ zs.length := by
          rw [hzl]
          split
          · exact hl'
          · exact Nat.le_refl _
        obtain ⟨hD, _⟩ := Prod.mk.inj hxx
        have hw := hwt ((l' + (zs.length - l')) * P.bytesOf b8) (by
          rw [hD]
          simp only [DataW.weights, h1]
          refine List.mem_cons.2 (.inl ?_)
          congr 1
          simp [lits]
          omega)
        rw [bb] at hw
        refine ⟨⟨z, zs.take l', some y, c'⟩, by rw [g0, hz], ?_, fun i hi => ?_, fun n hn => hwf n (List.mem_of_mem_take hn), by simp; omega, (fun h => by cases h), ?_, hzw⟩
        · rw [g1, hcs]
          simp
          omega
        · simp only [List.length_take] at hi
          refine ⟨y, rfl, ?_⟩
          rw [hcell i (by omega)]
          simp [List.getD_eq_getElem?_getD, show i < l' by omega]
        · simp only [List.length_take]
          unfold reachBytes at hw
          omega
    let f : (i : Nat) → Pr := fun i => if hil : i < len then (each i hil).choose else ⟨0, [], none, 0⟩
    have hbd := sized_slice hsz htj (hdj.trans (congrArg some hd)) hu
    rw [List.length_map, List.length_range] at hbd
    have hle : len ≤ 140737488351232 := by
      have h1 : len * 1 ≤ (len + ((List.range (m - len)).map fun j => DataW.agg [D0 (len + j), D1 (len + j)]).length) * P.bytesOf e := Nat.mul_le_mul (Nat.le_add_right _ _) be
      unfold reachBytes at hbd
      omega
    refine ⟨(List.range len).map f, by simp, fun i hi => ?_, by simpa using hle⟩
    simp only [List.length_map, List.length_range] at hi
    have e : ((List.range len).map f)[i]'(by simpa using hi) = (each i hi).choose := by
      simp only [List.getElem_map, List.getElem_range]
      exact dif_pos hi
    rw [e]
    exact ⟨x, rfl, (each i hi).choose_spec⟩
end Go.Vk
