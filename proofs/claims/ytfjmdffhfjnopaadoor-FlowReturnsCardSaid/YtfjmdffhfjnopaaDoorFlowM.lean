/- While one instruction passes on: what holds, and what a call of the inner function does to it. -/
import Derived.Test.YtfjmdffhfjnopaaDoorFlowQ
namespace Go.Proofs.YtfjmdffhfjnopaaDoor
open Go.RowKit Vouch Go.Vk Go.Sort
def MRel (ts : List Ty) (bs : List Int) (own : Ty) (H N T Z n : Nat) (i : Ins) (X : Option Addr) (c : Nat) (hs : List (Int × Int)) (G : Int × Int) (W1 : World) (js : List Nat) (w : World) : Prop :=
  ∃ hv mt, StRel ts own (allI bs) hs n G js hv mt ∧ StAt w T (H + 1) Z (H + 1 + 1 + 1) H (H + 1 + 1) N n G hv mt ∧ w.heap[T + 1]? = some (.cells #[.int .i64 i.at_, .int .i64 i.code, .slice X i.imm.length c, .int .i64 i.next] 42 (0, 0)) ∧ Below H W1 w
theorem stat_below {w w' : World} {nb hc gb qc H Q N n : Nat} {g : Int × Int} {hv : List (Int × Int)} {mt : List Bool} (h : StAt w nb hc gb qc H Q N n g hv mt) (hb : Below w.heap.size w w') : StAt w' nb hc gb qc H Q N n g hv mt :=
  ⟨kept_of hb h.cn, kept_of hb h.ch, kept_of hb h.cg, kept_of hb h.cq, kept_of hb h.rh, kept_of hb h.rq, h.lh, h.lq⟩
theorem mrel_below {ts : List Ty} {bs : List Int} {own : Ty} {H N T Z n : Nat} {i : Ins} {X : Option Addr} {c : Nat} {hs : List (Int × Int)} {G : Int × Int} {W1 w w' : World} {js : List Nat} (h : MRel ts bs own H N T Z n i X c hs G W1 js w) (hb : Below w.heap.size w w') : MRel ts bs own H N T Z n i X c hs G W1 js w' := by
  obtain ⟨hv, mt, h1, h2, h3, h4⟩ := h
  refine ⟨hv, mt, h1, stat_below h2 hb, kept_of hb h3, h4.trans (hb.mono ?_)⟩
  have := (Array.getElem?_eq_some_iff.1 h2.rh).1
  omega
theorem mrel_call {ts : List Ty} {bs : List Int} {own : Ty} {H N T Z n t : Nat} {i : Ins} {X : Option Addr} {c : Nat} {hs : List (Int × Int)} {G : Int × Int} {W1 w : World} {js : List Nat} (h : MRel ts bs own H N T Z n i X c hs G W1 js w) (hT : H + 4 ≤ T) (hZ : T + 1 < Z) (ht : t < N) (hN : N ≤ 100000000) (hal : (allI bs).length = N) (hl : hs.length = n + 1) (hg : Bnd G) :
    Calls Tryd.prog 39 #[.int .i64 t, .pointer (some ⟨T, 0, none⟩), .pointer (some ⟨H + 1, 0, none⟩), .pointer (some ⟨Z, 0, none⟩), .pointer (some ⟨H + 1 + 1 + 1, 0, none⟩)] w fun e w' => e = .returned (.bool (decide (n < t) || hs.getD t (0, 0) == G)) ∧ MRel ts bs own H N T Z n i X c hs G W1 (js ++ [t]) w' ∧ ∀ k, k ≠ H → k ≠ H + 1 + 1 → w'.heap[k]? = w.heap[k]? := by
  obtain ⟨hv, mt, h1, h2, h3, h4⟩ := h
  by_cases hnt : n < t
  · refine (passOn_any T (H + 1) Z (H + 1 + 1 + 1) H (H + 1 + 1) N n t G hv mt w h2 ht hnt hN (by omega) (by omega) (by omega)).mono ?_
    rintro e w' ⟨rfl, ⟨hsz, hk⟩, hh, hq, hb⟩
    refine ⟨by simp [hnt], ⟨_, _, strel_on h1 (by omega) hnt hl hg, ⟨(hk _ (by omega) (by omega)).trans h2.cn, (hk _ (by omega) (by omega)).trans h2.ch, (hk _ (by omega) (by omega)).trans h2.cg, (hk _ (by omega) (by omega)).trans h2.cq, hh, hq, by simp [passH, h2.lh], by simp [h2.lq]⟩, (hk _ (by omega) (by omega)).trans h3, h4.trans ?_⟩, hk⟩
    exact ⟨hb.os, hb.tape, hb.output, hb.size, fun k hk' => hk k (by omega) (by omega)⟩
  · refine (passBack_any T (H + 1) Z (H + 1 + 1 + 1) H (H + 1 + 1) N n t G hv mt w h2 ht (by omega) hN).mono ?_
    rintro e w' ⟨rfl, d, rfl⟩
    have ho := h1.old t (by omega)
    refine ⟨?_, mrel_below ⟨hv, mt, strel_back h1 hnt, h2, h3, h4⟩ (below_drewN (Below.refl _ _) _), fun _ _ _ => rfl⟩
    have e : decide (hs.getD t (0, 0) = G) = (decide (n < t) || hs.getD t (0, 0) == G) := by rw [decide_eq_false hnt, Bool.false_or, Bool.eq_iff_iff, decide_eq_true_eq, beq_iff_eq]
    rw [ho.2, e]
theorem map_below7 {w w' : World} {P : Program} {k : TypeId} {R : Value → Option (DataW Unit × List MemPlace)} {b n : Nat} {D : DataW Unit} (h : w.ownsMap P k R b n D) (hb : Below w.heap.size w w') : w'.ownsMap P k R b n D := by
  obtain ⟨es, ck, h1, h2, h3, h4⟩ := h
  exact ⟨es, ck, (hb.block _ (Array.getElem?_eq_some_iff.1 h1).1).trans h1, h2, h3, h4⟩
theorem zero_int7 (w : World) : (zeroValue 3).run Tryd.prog w = .ok (.int .i64 0) w := by kernel_rfl
theorem back_form {ts : List Ty} {own : Ty} {l : List Ins} {hs : List (Int × Int)} {n : Nat} {i : Ins} {h G : Int × Int} (hi : l.getD n zeroI = i) (hl : hs.length = n) (hG : goH ts own i h = G) : backOK ts own l (hs ++ [h]) n = (leadsI i).all (fun t => decide (n < idxI l t) || ((hs ++ [h]).getD (idxI l t) (0, 0) == G)) := by
  have e : (hs ++ [h]).getD n (0, 0) = h := by rw [← hl]; exact getD_last
  unfold backOK toN
  rw [hi, e, hG, List.all_append, List.all_map]
  have e2 : ((if (opR i.code).ends then [] else [n + 1]) : List Nat).all (fun t => decide (n < t) || ((hs ++ [h]).getD t (0, 0) == G)) = true := by
    split <;> simp
  rw [e2, Bool.true_and]
  rfl
theorem back_yes {l : List Ins} {hs : List (Int × Int)} {n : Nat} {i : Ins} {G : Int × Int} (hb : ∀ m, m < (leadsI i).length → (decide (n < idxI l ((leadsI i).getD m 0)) || hs.getD (idxI l ((leadsI i).getD m 0)) (0, 0) == G) = true) : (leadsI i).all (fun t => decide (n < idxI l t) || (hs.getD (idxI l t) (0, 0) == G)) = true := by
  refine List.all_eq_true.2 fun t ht => ?_
  obtain ⟨m, hm, rfl⟩ := List.mem_iff_getElem.1 ht
  have := hb m hm
  rw [List.getD_eq_getElem?_getD, List.getElem?_eq_getElem hm] at this
  exact this
theorem back_no {l : List Ins} {hs : List (Int × Int)} {n m : Nat} {i : Ins} {G : Int × Int} (hm : m < (leadsI i).length) (hb : (decide (n < idxI l ((leadsI i).getD m 0)) || hs.getD (idxI l ((leadsI i).getD m 0)) (0, 0) == G) = false) : (leadsI i).all (fun t => decide (n < idxI l t) || (hs.getD (idxI l t) (0, 0) == G)) = false := by
  cases h : (leadsI i).all (fun t => decide (n < idxI l t) || (hs.getD (idxI l t) (0, 0) == G)) with
  | false => rfl
  | true =>
    have := List.all_eq_true.1 h ((leadsI i)[m]) (List.getElem_mem hm)
    rw [List.getD_eq_getElem?_getD, List.getElem?_eq_getElem hm] at hb
    exact absurd (this.symm.trans hb) (by decide)
end Go.Proofs.YtfjmdffhfjnopaaDoor
