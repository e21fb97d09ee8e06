/- (*vouchlaw6.Lists).take: the immediate bytes of instructions, laid behind one another. -/
import Derived.Test.YthjnjdpiihpgeaaDoorSame6
import Derived.Test.YthjnjdpiihpgeaaDoorOwnSet
import Derived.Test.YthjnjdpiihpgeaaDoorKeep
import Derived.Deep.DeepCutAuto
import Derived.Deep.RegionHeld3
import Derived.Deep.AppendLies
import Derived.StillTailTactics
namespace Go.Proofs.YthjnjdpiihpgeaaDoor
open Go.RowKit Vouch Go.Vk Go.Sort
theorem infoBs : (Tryd.prog.info? 22).map (fun i => (i.zero, i.size, i.bytes)) = some (some (.slice none 0 0), 1, 24) := by kernel_rfl
/-- What take leaves: the list has the rows behind its own; all else but the list's cell and its row is as it was. -/
def TakeOut (gx B : Nat) (X : Value) (vs : List Value) (rv : List Value) (w w' : World) : Prop :=
  ∃ X', w'.heap[gx]? = some (.cells #[X'] 50 (0, 0)) ∧ w'.ownsRow B 22 1 X' (vs ++ rv).length (vs ++ rv) ∧ w.heap.size ≤ w'.heap.size ∧ (∀ k, k < w.heap.size → k ≠ gx → X.ownBlock ≠ some k → w'.heap[k]? = w.heap[k]?) ∧ (∀ b, X'.ownBlock = some b → X.ownBlock = some b ∨ w.heap.size ≤ b) ∧
    ∀ B0, B0 ≤ gx → B0 ≤ B → B0 ≤ w.heap.size → Below B0 w w'
theorem take_step {gx B q g6 c6 : Nat} {X V x : Value} {vs l l' : List Value} {w wr w6 : World} (hgx : gx < w.heap.size) (hBw : B ≤ w.heap.size) (h : wr.heap[gx]? = some (.cells #[V] 50 (0, 0)) ∧ w.heap.size ≤ wr.heap.size ∧ (∀ k, k < w.heap.size → k ≠ gx → X.ownBlock ≠ some k → wr.heap[k]? = w.heap[k]?) ∧ (∀ b, V.ownBlock = some b → X.ownBlock = some b ∨ w.heap.size ≤ b) ∧ ∀ B0, B0 ≤ gx → B0 ≤ B → B0 ≤ w.heap.size → Below B0 w wr)
    (ho : wr.ownsRow B 22 1 V q (vs ++ l)) (hq : q = (vs ++ l).length) (hl : l' = l ++ [x]) (hown : w6.ownsRow B 22 1 (.slice (some ⟨g6, 0, none⟩) (q + 1) c6) (q + 1) (vs ++ l ++ [x])) (hgrow : (wr.alloc (.cells #[x] 22)).drew.grownBy w6 V.ownBlock)
    (hat : V.ownBlock = some g6 ∨ wr.heap.size ≤ g6) (hne : ∀ b, V.ownBlock = some b → gx ≠ b) : TakeOut gx B X vs l' w (w6.setCell ⟨gx, 0, none⟩ (.slice (some ⟨g6, 0, none⟩) (q + 1) c6)) := by
  obtain ⟨h1, h2, h3, h4, h5⟩ := h
  subst hl
  have hgl := own_lt hown
  have hgg : g6 ≠ gx := by
    rcases hat with h | h
    · exact fun e => hne g6 h e.symm
    · have := (Array.getElem?_eq_some_iff.1 h1).1
      omega
  have g1 : w6.heap[gx]? = some (.cells #[V] 50 (0, 0)) := (hgrow.block gx (by simp; omega) (fun e => hne gx e.symm rfl)).trans (heap_alloc_before h1 _)
  have e1 : (vs ++ (l ++ [x])).length = q + 1 := by rw [hq]; simp; omega
  refine ⟨_, heap_set1 g1 _, ?_, ?_, fun k hk hkx hkX => ?_, fun b hb => ?_, fun B0 a1 a2 a3 => ?_⟩
  · rw [e1, ← List.append_assoc]
    exact own_keep hown (heap_setKeep _ (by dsimp only; omega) _)
  · have := hgrow.size
    simp at this ⊢
    omega
  · refine (heap_setKeep _ (by dsimp only; omega) _).trans ((hgrow.block k (by simp; omega) (fun e => ?_)).trans ((Below.heap_alloc wr _ k (by omega)).trans (h3 k hk hkx hkX)))
    rcases h4 k e.symm with h | h
    · exact hkX h
    · omega
  · cases hb
    rcases hat with h | h
    · exact h4 g6 h
    · exact .inr (Nat.le_trans h2 h)
  · have hb := h5 B0 a1 a2 a3
    refine Below.setCell ?_ (p := ⟨gx, 0, none⟩) a1 _
    exact ((hb.alloc (by omega) _).drew).grown hgrow (by simp; omega) (fun k e => Nat.le_trans a2 (ho.lt k e).1)
set_option maxHeartbeats 1000000 in
set_option maxRecDepth 100000 in
theorem take_any (gx B : Nat) (X : Value) (vs : List Value) (rv : List Value) (L : Option Addr) (cl : Nat) (w : World) (hx : w.heap[gx]? = some (.cells #[X] 50 (0, 0))) (hX : w.ownsRow B 22 1 X vs.length vs) (hB : B ≤ w.heap.size)
    (hl : ∀ i (h : i < rv.length), ∃ g, L = some ⟨g, 0, none⟩ ∧ g ≠ gx ∧ X.ownBlock ≠ some g ∧ w.cell? ⟨g, i * 4 + 2, none⟩ = some (rv[i])) (hrv : ∀ v ∈ rv, ∃ A n c, v = .slice A n c) (hn : vs.length + rv.length ≤ 1000000) :
    Calls Tryd.prog 27 #[.pointer (some ⟨gx, 0, none⟩), .slice L rv.length cl] w fun e w' => e = .returned (.tuple #[]) ∧ TakeOut gx B X vs (rv.take 200) w w' := by
  obtain ⟨i0, hi, hz0, hz1, hz2⟩ := info_parts infoBs
  have HX := Lib.hid hX
  have HXC := Lib.hid hx
  have HLC := Lib.hid hl
  have HRV := Lib.hid hrv
  clear hX hx hl hrv
  go_enter Tryd.func27, Tryd.ntmps27
  go_wp2
  go_loopw [4] (fun vi wr => ∃ k : Nat, vi = .int .i64 k ∧ k ≤ rv.length ∧ k ≤ 200 ∧ TakeOut gx B X vs (rv.take k) w wr) (fun vi _ => 200 - (intOf vi).toNat)
  case atStart => exact ⟨0, rfl, Nat.zero_le _, by omega, X, HXC.out, by simpa using HX.out, Nat.le_refl _, fun _ _ _ _ => rfl, fun b h => .inl h, fun B0 _ _ _ => Below.refl _ _⟩
  case round =>
    obtain ⟨k, rfl, hk, hk2, X', yC, yO, yS, yK, yb, yB⟩ := hrel
    have hgxw := (Array.getElem?_eq_some_iff.1 HXC.out).1
    by_cases hc : k < rv.length ∧ k < 200
    · have hc1 : (k : Int) < (rv.length : Int) := by omega
      have hc2 : (k : Int) < 200 := by omega
      obtain ⟨g, rfl, hg1, hg2, hg3⟩ := HLC.out k hc.1
      have hgl : g < w.heap.size := block_lt_of_cell hg3
      have d0 : wr.cell? ⟨g, k * 4 + 2, none⟩ = some rv[k] := (World.cell?_of_block (a := ⟨g, _, none⟩) (yK g hgl hg1 hg2)).trans hg3
      obtain ⟨x0, x1⟩ := cell_of1 yC
      obtain ⟨q, hq⟩ : ∃ q, q = (vs ++ rv.take k).length := ⟨_, rfl⟩
      have hq2 : q ≤ 1000000 := by rw [hq]; simp; omega
      rw [← hq] at yO
      obtain ⟨XX, cx, rfl⟩ := owns_shape yO
      obtain ⟨xA, xn, xc, hxe⟩ := HRV.out _ (List.getElem_mem hc.1)
      have e2 : rv.take (k + 1) = rv.take k ++ [rv[k]'hc.1] := by rw [List.take_add_one, List.getElem?_eq_getElem hc.1]; rfl
      have E2 := Lib.hid e2
      have HQ := Lib.hid hq
      rw [hxe] at d0 E2
      clear hxe
      have hgxl := (Array.getElem?_eq_some_iff.1 yC).1
      have hne : ∀ b, (Value.slice XX q cx).ownBlock = some b → gx ≠ b := own_type yC yO (by decide)
      have hne2 : ∀ b, (Value.slice XX q cx).ownBlock = some b → g ≠ b := fun b hb e => by
        rcases yb b hb with h | h
        · exact hg2 (by rw [h, e])
        · omega
      have hS0 : wr.drew.cell? ⟨gx, 0, none⟩ = some (.slice XX q cx) ∧ wr.drew.frozen? ⟨gx, 0, none⟩ = false ∧ wr.drew.cell? ⟨g, k * 4 + 2, none⟩ = some (.slice xA xn xc) := ⟨x0, x1, d0⟩
      have hS1 : (wr.drew.alloc (.cells #[.slice xA xn xc] 22)).cell? ⟨gx, 0, none⟩ = some (.slice XX q cx) ∧ (wr.drew.alloc (.cells #[.slice xA xn xc] 22)).frozen? ⟨gx, 0, none⟩ = false ∧ (wr.drew.alloc (.cells #[.slice xA xn xc] 22)).cell? ⟨g, k * 4 + 2, none⟩ = some (.slice xA xn xc) :=
        ⟨cell_later ((Below.refl _ _).alloc (Nat.le_refl _) _) x0, (cell_of1 (heap_alloc_before (show wr.drew.heap[gx]? = _ from yC) _)).2, cell_later ((Below.refl _ _).alloc (Nat.le_refl _) _) d0⟩
      have HNE := Lib.hid hne
      have HNE2 := Lib.hid hne2
      have YO := Lib.hid yO
      have YY := Lib.hid (⟨yC, yS, yK, yb, yB⟩ : _ ∧ _ ∧ _ ∧ _ ∧ _)
      clear yC yO yS yK yb yB hg3 hq e2 hne hne2 x0 x1 d0
      have hxs : (wr.drew.alloc (.cells #[.slice xA xn xc] 22)).heap.size = wr.heap.size + 1 := by simp
      have hws : w.heap.size ≤ wr.heap.size := YY.out.2.1
      obtain ⟨y1, y2, y3⟩ : (wr.alloc (.cells #[.slice xA xn xc] 22)).cell? ⟨gx, 0, none⟩ = some (.slice XX q cx) ∧ (wr.alloc (.cells #[.slice xA xn xc] 22)).frozen? ⟨gx, 0, none⟩ = false ∧ (wr.alloc (.cells #[.slice xA xn xc] 22)).cell? ⟨g, k * 4 + 2, none⟩ = some (.slice xA xn xc) := hS1
      obtain ⟨v1, v2, v3⟩ : wr.cell? ⟨gx, 0, none⟩ = some (.slice XX q cx) ∧ wr.frozen? ⟨gx, 0, none⟩ = false ∧ wr.cell? ⟨g, k * 4 + 2, none⟩ = some (.slice xA xn xc) := hS0
      go_wp2
      go_region_law (refine step_append_lies _ rfl _ _ 48 rfl B 22 i0 (.slice none 0 0) 1 24 Tryd.underlying48 hi hz0 hz1 hz2 rfl (by decide) _ _ _ rfl (World.ownsRow.alloc (w := wr) YO.out (.cells #[.slice xA xn xc] 22)) ⟨wr.heap.size, 0, none⟩ 1 1 [.slice xA xn xc] rfl rfl (cells_fresh wr #[.slice xA xn xc] _ _ rfl) (by intro u hu; simp at hu; subst hu; rfl) (by decide) (by unfold maxLen; omega) (by omega) (by simp; omega) _ rfl ?_; intro g6 c6 w6 hown6 hgrow6 hat6 hlt6; have hS6 : w6.cell? ⟨gx, 0, none⟩ = some (.slice XX q cx) ∧ w6.frozen? ⟨gx, 0, none⟩ = false ∧ w6.cell? ⟨g, k * 4 + 2, none⟩ = some (.slice xA xn xc) := ⟨(World.cell?_of_block (a := ⟨gx, _, none⟩) (hgrow6.block gx (by simp; omega) (fun e => HNE.out gx e.symm rfl))).trans y1, (World.frozen?_of_block (a := ⟨gx, _, none⟩) (hgrow6.block gx (by simp; omega) (fun e => HNE.out gx e.symm rfl))).trans y2, (World.cell?_of_block (a := ⟨g, _, none⟩) (hgrow6.block g (by simp; omega) (fun e => HNE2.out g e.symm rfl))).trans y3⟩; obtain ⟨s1, s2, s3⟩ := hS6)
      all_goals
        have FIN := Lib.hid (take_step (l' := rv.take (k + 1)) hgxw hB YY.out YO.out HQ.out E2.out hown6 hgrow6 (hat6.imp id (fun h => by simp at h; omega)) HNE.out)
        clear hown6 hgrow6 hat6 s1 s2 s3 v1 v2 v3 y1 y2 y3
        go_wp2
        exact ⟨⟨k + 1, by go_num, by omega, by omega, FIN.out⟩, by simp [intOf]; omega⟩
    · have HF := Lib.hid (show TakeOut gx B X vs (rv.take 200) w wr from by
        have e : rv.take k = rv.take 200 := by
          by_cases h : k < 200
          · rw [List.take_of_length_le (by omega), List.take_of_length_le (by omega)]
          · rw [show k = 200 by omega]
        rw [← e]
        exact ⟨X', yC, yO, yS, yK, yb, yB⟩)
      clear yC yO yS yK yb yB
      by_cases h1 : (k : Int) < (rv.length : Int)
      · have h2 : ¬ (k : Int) < 200 := by omega
        clear hc
        go_wp2
        go_end0
        exact ⟨rfl, HF.out⟩
      · clear hc
        go_wp2
        go_end0
        exact ⟨rfl, HF.out⟩
end Go.Proofs.YthjnjdpiihpgeaaDoor
