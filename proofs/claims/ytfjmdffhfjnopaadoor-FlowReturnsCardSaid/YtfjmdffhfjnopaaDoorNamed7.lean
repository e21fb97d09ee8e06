/- vouchlaw7.FlowNamed: the walk. -/
import Derived.Test.YtfjmdffhfjnopaaDoorList7
import Derived.Test.YtfjmdffhfjnopaaDoorMoved7
namespace Vouch
open Go.Vk Go.Proofs.YtfjmdffhfjnopaaDoor
/-- Which sections are named. -/
def markL (l : List Ins) (N : Nat) : List Bool := l.foldl (fun nm i => if i.code = 227 ∨ i.code = 229 then nm.set (namedN i).toNat true else nm) (List.replicate N false)
theorem markL_nil (N : Nat) : markL [] N = List.replicate N false := rfl
theorem markL_hit {l : List Ins} {i : Ins} {N : Nat} (h : i.code = 227 ∨ i.code = 229) : markL (l ++ [i]) N = (markL l N).set (namedN i).toNat true := by
  unfold markL
  rw [List.foldl_append, List.foldl_cons, List.foldl_nil, if_pos h]
theorem markL_miss {l : List Ins} {i : Ins} {N : Nat} (h : ¬ (i.code = 227 ∨ i.code = 229)) : markL (l ++ [i]) N = markL l N := by
  unfold markL
  rw [List.foldl_append, List.foldl_cons, List.foldl_nil, if_neg h]
theorem markL_length (N : Nat) : ∀ (l : List Ins), (markL l N).length = N := fun l => by
  have key : ∀ (l : List Ins) (nm : List Bool), (l.foldl (fun nm i => if i.code = 227 ∨ i.code = 229 then nm.set (namedN i).toNat true else nm) nm).length = nm.length := by
    intro l
    induction l with
    | nil => intro nm; rfl
    | cons a l ih =>
      intro nm
      rw [List.foldl_cons, ih]
      split <;> simp
  unfold markL
  rw [key, List.length_replicate]
theorem markL_mem {l : List Ins} {i : Ins} {N : Nat} (hi : i ∈ l) (h : i.code = 227 ∨ i.code = 229) (hn : (namedN i).toNat < N) : (markL l N).getD (namedN i).toNat false = true := by
  have key : ∀ (l : List Ins) (nm : List Bool) (k : Nat), k < nm.length → (nm.getD k false = true ∨ ∃ i ∈ l, (i.code = 227 ∨ i.code = 229) ∧ (namedN i).toNat = k) → (l.foldl (fun nm i => if i.code = 227 ∨ i.code = 229 then nm.set (namedN i).toNat true else nm) nm).getD k false = true := by
    intro l
    induction l with
    | nil =>
      intro nm k _ h
      rcases h with h | ⟨i, hi, _⟩
      · exact h
      · cases hi
    | cons a l ih =>
      intro nm k hk h
      rw [List.foldl_cons]
      refine ih _ k (by split <;> simpa using hk) ?_
      rcases h with h | ⟨i, hi, h1, h2⟩
      · left
        split
        · rw [List.getD_eq_getElem?_getD] at h ⊢
          by_cases e : (namedN a).toNat = k
          · rw [e, List.getElem?_set_self hk]
            rfl
          · rw [List.getElem?_set_ne e]
            exact h
        · exact h
      · rcases List.mem_cons.1 hi with rfl | hi
        · left
          rw [if_pos h1, h2, List.getD_eq_getElem?_getD, List.getElem?_set_self hk]
          rfl
        · exact .inr ⟨i, hi, h1, h2⟩
  unfold markL
  exact key l _ _ (by simpa using hn) (.inr ⟨i, hi, h, rfl⟩)
/-- The types, those replaced that are not named. -/
def repT (nm : List Bool) (s : Nat) (r : Tri) (ls : List Tri) (k : Nat) : List Tri := (List.range ls.length).map fun j => if j < k ∧ j ≠ s ∧ nm.getD j false = false then r else ls.getD j zeroTri
theorem repT_length (nm : List Bool) (s : Nat) (r : Tri) (ls : List Tri) (k : Nat) : (repT nm s r ls k).length = ls.length := by simp [repT]
theorem repT_at (nm : List Bool) (s : Nat) (r : Tri) {ls : List Tri} (k : Nat) {j : Nat} (h : j < ls.length) : (repT nm s r ls k).getD j zeroTri = if j < k ∧ j ≠ s ∧ nm.getD j false = false then r else ls.getD j zeroTri := by
  unfold repT
  rw [List.getD_eq_getElem?_getD, List.getElem?_map, List.getElem?_range h]
  rfl
theorem ext_getD {α : Type} {a b : List α} (z : α) (hl : a.length = b.length) (h : ∀ j, j < a.length → a.getD j z = b.getD j z) : a = b := by
  refine List.ext_getElem hl fun j h1 h2 => ?_
  have := h j h1
  rw [List.getD_eq_getElem?_getD, List.getD_eq_getElem?_getD, List.getElem?_eq_getElem h1, List.getElem?_eq_getElem h2] at this
  exact this
theorem repT_zero (nm : List Bool) (s : Nat) (r : Tri) (ls : List Tri) : repT nm s r ls 0 = ls := by
  refine ext_getD zeroTri (repT_length ..) fun j hj => ?_
  rw [repT_length] at hj
  rw [repT_at nm s r 0 hj, if_neg (by omega)]
theorem repT_hit {nm : List Bool} {s : Nat} {r : Tri} {ls : List Tri} {k : Nat} (hk : k < ls.length) (h1 : k ≠ s) (h2 : nm.getD k false = false) : (repT nm s r ls k).set k r = repT nm s r ls (k + 1) := by
  refine ext_getD zeroTri (by simp [repT_length]) fun j hj => ?_
  rw [List.length_set, repT_length] at hj
  rw [repT_at nm s r (k + 1) hj, List.getD_eq_getElem?_getD]
  by_cases e : k = j
  · subst e
    rw [List.getElem?_set_self (by rw [repT_length]; exact hk), if_pos ⟨by omega, h1, h2⟩]
    rfl
  · rw [List.getElem?_set_ne e, ← List.getD_eq_getElem?_getD, repT_at nm s r k hj]
    congr 1
    rw [eq_iff_iff]
    constructor
    · rintro ⟨a, b⟩
      exact ⟨by omega, b⟩
    · rintro ⟨a, b⟩
      exact ⟨by omega, b⟩
theorem repT_miss {nm : List Bool} {s : Nat} {r : Tri} {ls : List Tri} {k : Nat} (_hk : k < ls.length) (h : k = s ∨ nm.getD k false = true) : repT nm s r ls k = repT nm s r ls (k + 1) := by
  refine ext_getD zeroTri (by simp [repT_length]) fun j hj => ?_
  rw [repT_length] at hj
  rw [repT_at nm s r (k + 1) hj, repT_at nm s r k hj]
  congr 1
  rw [eq_iff_iff]
  constructor
  · rintro ⟨a, b⟩
    exact ⟨by omega, b⟩
  · rintro ⟨a, b, c⟩
    refine ⟨?_, b, c⟩
    by_cases e : j = k
    · subst e
      rcases h with h | h
      · exact absurd h b
      · rw [h] at c
        cases c
    · omega
/-- The types at the end. -/
def lastT (nm : List Bool) (s : Nat) (r : Tri) (ls : List Tri) : List Tri := if nm.getD s false = true then repT nm s r ls ls.length else (repT nm s r ls ls.length).set s ((ls.getD s zeroTri).1, (ls.getD s zeroTri).2.1, r.2.2)
theorem lastT_length (nm : List Bool) (s : Nat) (r : Tri) (ls : List Tri) : (lastT nm s r ls).length = ls.length := by
  unfold lastT
  split <;> simp [repT_length]
theorem lastT_at {nm : List Bool} {s : Nat} {r : Tri} {ls : List Tri} {j : Nat} (hj : j < ls.length) : (lastT nm s r ls).getD j zeroTri = if nm.getD j false = true then ls.getD j zeroTri else if j = s then ((ls.getD s zeroTri).1, (ls.getD s zeroTri).2.1, r.2.2) else r := by
  unfold lastT
  by_cases hs : nm.getD s false = true
  · rw [if_pos hs, repT_at nm s r _ hj]
    by_cases e : nm.getD j false = true
    · rw [if_pos e, if_neg (fun h => by rw [e] at h; cases h.2.2)]
    · have e' : ¬ j = s := fun h => by rw [h] at e; exact e hs
      rw [if_neg e, if_neg e', if_pos ⟨hj, e', by simpa using e⟩]
  · rw [if_neg hs, List.getD_eq_getElem?_getD]
    by_cases e : s = j
    · subst e
      rw [List.getElem?_set_self (by rw [repT_length]; exact hj), if_neg hs, if_pos rfl]
      rfl
    · rw [List.getElem?_set_ne e, ← List.getD_eq_getElem?_getD, repT_at nm s r _ hj]
      by_cases e2 : nm.getD j false = true
      · rw [if_pos e2, if_neg (fun h => by rw [e2] at h; cases h.2.2)]
      · rw [if_pos ⟨hj, fun h => e h.symm, by simpa using e2⟩, if_neg e2, if_neg (fun h => e h.symm)]
theorem tyAt_tri {ls : List Tri} {n : Nat} (h : n < ls.length) : tyAt (ls.map triTy) (n : Int) = triTy (ls.getD n zeroTri) := by
  unfold tyAt
  rw [List.getD_eq_getElem?_getD, List.getElem?_map, List.getD_eq_getElem?_getD, show ((n : Int)).toNat = n by omega, List.getElem?_eq_getElem h]
  rfl
theorem heightsE_last {ls : List Tri} {s : Nat} {bs : List Int} {r : Tri} (hs : s < ls.length) (hz : ∀ z ∈ bs, 0 ≤ z ∧ z < 256) (hm : mayB (ls.map triTy) s bs = true) (hr : 0 ≤ r.1 ∧ r.1 ≤ 127 ∧ 0 ≤ r.2.1 ∧ r.2.1 ≤ 127 ∧ 0 ≤ r.2.2 ∧ r.2.2 ≤ 1023) :
    heightsE ((lastT (markL (allI bs) ls.length) s r ls).map triTy) s bs = heightsE (ls.map triTy) s bs := by
  obtain ⟨m1, m2, m3, m4, m5⟩ := may_parts hm
  obtain ⟨q, hq, _⟩ := allI_reads bs
  have hl := lastT_length (markL (allI bs) ls.length) s r ls
  have hat : ∀ j, j < ls.length → tyAt ((lastT (markL (allI bs) ls.length) s r ls).map triTy) (j : Int) = triTy ((lastT (markL (allI bs) ls.length) s r ls).getD j zeroTri) := fun j hj => tyAt_tri (by rw [hl]; exact hj)
  refine heightsE_same hm (by simp [hl]) (fun t ht => ?_) ?_ ?_ fun i hi hc => ?_
  · obtain ⟨j, hj, rfl⟩ := List.mem_iff_getElem.1 ht
    have hj' : j < ls.length := by simpa [hl] using hj
    have e1 : ((lastT (markL (allI bs) ls.length) s r ls).map triTy)[j] = triTy ((lastT (markL (allI bs) ls.length) s r ls).getD j zeroTri) := by
      rw [List.getElem_map, List.getD_eq_getElem?_getD, List.getElem?_eq_getElem (by rw [hl]; exact hj')]
      rfl
    have hold : tyOK (triTy (ls.getD j zeroTri)) = true := by
      refine m3 _ (List.mem_map.2 ⟨_, ?_, rfl⟩)
      rw [List.getD_eq_getElem?_getD, List.getElem?_eq_getElem hj']
      exact List.getElem_mem hj'
    rw [e1, lastT_at hj']
    split
    · exact hold
    · split
      · rename_i e
        subst e
        have := tyOK_iff hold
        unfold triTy at this ⊢
        unfold tyOK
        simp only [Bool.and_eq_true, decide_eq_true_eq]
        dsimp only at this
        omega
      · unfold triTy tyOK
        simp only [Bool.and_eq_true, decide_eq_true_eq]
        omega
  · rw [hat s hs, tyAt_tri hs, lastT_at hs]
    split
    · rfl
    · rw [if_pos rfl]
      rfl
  · rw [hat s hs, tyAt_tri hs, lastT_at hs]
    split
    · rfl
    · rw [if_pos rfl]
      rfl
  · have hb := reads_bytes hz hq i hi
    have hno := names_ok (ts := ls.map triTy) hb (m5 i hi) (named_nonneg hb) hc
    rw [List.length_map] at hno
    obtain ⟨j, hj⟩ : ∃ j : Nat, namedN i = j := ⟨(namedN i).toNat, by omega⟩
    have hjl : j < ls.length := by omega
    rw [hj, hat j hjl, tyAt_tri hjl, lastT_at hjl]
    have := markL_mem (N := ls.length) hi hc (by omega)
    rw [hj] at this
    rw [show ((j : Int)).toNat = j by omega] at this
    rw [if_pos this]
theorem and_mask (x : Int) (m : Nat) (hm : m < 4096) : 0 ≤ Go.bits .and .i64 x m ∧ Go.bits .and .i64 x m ≤ m := by
  unfold Go.bits
  have h1 : (BitVec.ofInt Go.IntKind.i64.bits (m : Int)).toNat = m := by
    rw [BitVec.ofInt_natCast, BitVec.toNat_ofNat]
    exact Nat.mod_eq_of_lt (Nat.lt_trans hm (by decide))
  simp only [BitVec.toNat_and, h1]
  have h2 : (BitVec.ofInt Go.IntKind.i64.bits x).toNat &&& m ≤ m := Nat.and_le_right
  have h3 : Go.IntKind.i64.wrap (((BitVec.ofInt Go.IntKind.i64.bits x).toNat &&& m : Nat) : Int) = (((BitVec.ofInt Go.IntKind.i64.bits x).toNat &&& m : Nat) : Int) := by
    rw [Go.IntKind.wrap_i64]
    omega
  rw [h3]
  omega
end Vouch
namespace Go.Vk
open Go.RowKit
theorem trCells_set3 : ∀ {ls : List Tri} {k : Nat} (a b c : Int), k < ls.length → (((trCells ls).set (k * 3) (.int .i64 a)).set (k * 3 + 1) (.int .i64 b)).set (k * 3 + 2) (.int .i64 c) = trCells (ls.set k (a, b, c))
  | t :: r, 0, a, b, c, _ => rfl
  | t :: r, k + 1, a, b, c, h => by
    have ih := trCells_set3 (ls := r) (k := k) a b c (by simpa using h)
    have e0 : (k + 1) * 3 = k * 3 + 1 + 1 + 1 := by omega
    have e1 : (k + 1) * 3 + 1 = k * 3 + 1 + 1 + 1 + 1 := by omega
    have e2 : (k + 1) * 3 + 2 = k * 3 + 2 + 1 + 1 + 1 := by omega
    rw [e2, e1, e0, trCells_cons]
    simp only [List.set_cons_succ]
    rw [ih]
    rfl
theorem own_frozen {w : World} {B e size g n c : Nat} {xs : List Value} (h : w.ownsRow B e size (.slice (some ⟨g, 0, none⟩) n c) n xs) (o : Nat) : w.frozen? ⟨g, o, none⟩ = false := by
  rcases h.2 with ⟨x1, _⟩ | ⟨g', cp', cur, heq, _, hh, _⟩
  · cases x1
  · cases heq
    simp [World.frozen?, hh]
end Go.Vk
namespace Go.Proofs.YtfjmdffhfjnopaaDoor
open Go.RowKit Vouch Go.Vk Go.Sort
theorem own_apart {W : World} {g t B e size n : Nat} {cs : Array Value} {v : Value} {xs : List Value} (hb : W.heap[g]? = some (.cells cs t (0, 0))) (ho : W.ownsRow B e size v n xs) (hne : t ≠ e) (j : Nat) (u : Value) : (W.setCell ⟨g, j, none⟩ u).ownsRow B e size v n xs :=
  own_as7 ho fun b hbb => heap_setKeep W (a := ⟨g, j, none⟩) (fun e0 => own_type hb ho hne b hbb e0.symm) u
theorem own_apart2 {W : World} {g B e size n B' e' size' n' : Nat} {c : Nat} {v : Value} {xs xs' : List Value} (hb : W.ownsRow B' e' size' (.slice (some ⟨g, 0, none⟩) n' c) n' xs') (ho : W.ownsRow B e size v n xs) (hne : e' ≠ e) (j : Nat) (u : Value) : (W.setCell ⟨g, j, none⟩ u).ownsRow B e size v n xs := by
  obtain ⟨cs, hh⟩ := own_block7 hb rfl
  exact own_apart hh ho hne j u
/-- While the instructions are looked at. -/
structure NRel (bs : List Int) (N : Nat) (w : World) (Hn B3 B5 : Nat) (vl : Value) (ll : Nat) (lc : List Value) (vi : Value) (xs : List El) (k : Nat) (wr : World) : Prop where
  nm : wr.heap[Hn]? = some (.cells (boolRow (markL ((allI bs).take k) N)).toArray 4 (0, 0))
  ins : wr.ownsRow B5 42 4 vi xs.length (insCells xs)
  rows : RowsAt B5 xs wr
  hgs : wr.ownsRow B3 38 3 vl ll lc
  below : Below w.heap.size w wr
theorem nrel_below {bs : List Int} {N : Nat} {w : World} {Hn B3 B5 : Nat} {vl : Value} {ll : Nat} {lc : List Value} {vi : Value} {xs : List El} {k : Nat} {wr w' : World} (h : NRel bs N w Hn B3 B5 vl ll lc vi xs k wr) (hb : Below wr.heap.size wr w') : NRel bs N w Hn B3 B5 vl ll lc vi xs k w' :=
  ⟨kept_of hb h.nm, own_below h.ins hb, fun x hx => own_below (h.rows x hx) hb, own_below h.hgs hb, h.below.trans (hb.mono h.below.size)⟩
theorem boolRow_set (nm : List Bool) (j : Nat) (b : Bool) : (boolRow nm).set j (.bool b) = boolRow (nm.set j b) := by unfold boolRow; rw [List.map_set]
theorem nrel_hit {bs : List Int} {N : Nat} {w : World} {Hn B3 B5 : Nat} {vl : Value} {ll : Nat} {lc : List Value} {vi : Value} {xs : List El} {k j : Nat} {wr : World} (h : NRel bs N w Hn B3 B5 vl ll lc vi xs k wr) (hw : w.heap.size ≤ Hn) (hm : markL ((allI bs).take (k + 1)) N = (markL ((allI bs).take k) N).set j true) : NRel bs N w Hn B3 B5 vl ll lc vi xs (k + 1) (wr.setCell ⟨Hn, j, none⟩ (.bool true)) := by
  refine ⟨?_, own_apart h.nm h.ins (by decide) _ _, fun x hx => own_apart h.nm (h.rows x hx) (by decide) _ _, own_apart h.nm h.hgs (by decide) _ _, ?_⟩
  · rw [hm, ← boolRow_set]
    exact heap_setN h.nm j _
  · rw [setCell_eq_setRow wr Hn j _ _ _ _ h.nm]
    exact below_setRow h.below hw _
set_option maxHeartbeats 4000000 in
set_option maxRecDepth 100000 in
theorem named_walk (A : Option Addr) (capT : Nat) (ls : List Tri) (s : Int) (B : Option Addr) (capB : Nat) (bs : List Int) (pin pout phigh : Int) (w : World) (ht : TriAt w A ls) (h0 : A = none → capT = 0) (hn : ls.length ≤ 140737488351232) (_ws : (Lit.int .i64 s).wf = true)
    (hc : IntsAt w .u8 B bs) (hz : ∀ n ∈ bs, (Lit.int .u8 n).wf = true) (_hcap : bs.length ≤ capB) (hb0 : B = none → capB = 0) (hbn : bs.length ≤ 140737488351232) (_w3 : (Lit.int .i64 pin).wf = true) (_w4 : (Lit.int .i64 pout).wf = true) (_w5 : (Lit.int .i64 phigh).wf = true) :
    Calls Tryd.prog 7 #[.slice A ls.length capT, .int .i64 s, .slice B bs.length capB, .int .i64 pin, .int .i64 pout, .int .i64 phigh] w fun e w' => e = .returned (.bool true) ∧ Below w.heap.size w w' := by
  have hwr : wrap64 ((ls.length : Int) + (bs.length : Int)) = (ls.length : Int) + (bs.length : Int) := by simp only [wrap64]; omega
  by_cases big : 1048576 < ls.length + bs.length
  · have h1 : (1048576 : Int) < (ls.length : Int) + (bs.length : Int) := by omega
    go_enter Tryd.func7, Tryd.ntmps7
    go_wp2
    go_ret
    exact ⟨rfl, Below.refl _ _⟩
  have h1 : ¬ (1048576 : Int) < (ls.length : Int) + (bs.length : Int) := by omega
  have HT := Lib.hid ht
  have HT0 := Lib.hid h0
  have HC := Lib.hid hc
  have HB := Lib.hid hb0
  have HZ := Lib.hid (fun z h => byte_wf (hz z h))
  clear ht h0 hc hb0 hz _ws _hcap big _w3 _w4 _w5
  have hbn2 : bs.length ≤ 1048576 := by omega
  have hln2 : ls.length ≤ 1048576 := by omega
  go_enter Tryd.func7, Tryd.ntmps7
  go_wp2_with (go_at_call 14; refine stop_o ?_)
  unfold StopO
  refine (able_any _).mono ?_
  rintro e w1 ⟨rfl, hb1⟩
  go_wp2_with (go_at_call 17; refine stop_o ?_)
  unfold StopO
  refine (ownT_any ls A capT w1 (tri_below HT.out hb1) HT0.out (by omega)).mono ?_
  rintro e w2 ⟨XT, cT, rfl, oT, hb2⟩
  have hB2 := hb1.trans (hb2.mono hb1.size)
  go_wp2_with (go_at_call 18; refine stop_o ?_)
  unfold StopO
  refine (own7_any bs B capB w2 (ints_below hB2 HC.out) HB.out (by omega)).mono ?_
  rintro e w3 ⟨XB, cB, rfl, oB, hb3⟩
  have hB3 := hB2.trans (hb3.mono hB2.size)
  have tT := Lib.hid (tri_owned (own_below oT hb3))
  have OB := Lib.hid oB
  clear hb1 hb2 hb3 hB2 oT oB
  go_wp2_with (go_at_call 16; refine stop_o ?_)
  unfold StopO
  have HSP := Lib.hid (heightsE_shape (ls.map triTy) s bs)
  refine (heights_tri ls XT cT s bs XB cB w3 tT.out (owned_ints OB.out) HZ.out hbn2 (owned_cap OB.out) hln2).mono ?_
  unfold HeightsOut
  obtain ⟨R, hR⟩ : ∃ R, R = heightsE (ls.map triTy) s bs := ⟨_, rfl⟩
  rw [← hR]
  have HR := Lib.hid hR
  obtain ⟨hsr, er, atr⟩ := R
  rintro e w4 ⟨vh, rfl, oh, hb4⟩
  dsimp only at oh ⊢
  have hB4 := hB3.trans (hb4.mono hB3.size)
  have OH := Lib.hid oh
  obtain ⟨Xh, ch, rfl⟩ := owns_shape OH.out
  clear hb4 hB3 tT OB hR oh
  by_cases her : er = 1
  · subst her
    go_wp2
    go_ret
    exact ⟨rfl, hB4⟩
  have her1 : (er == 1) = false := by rw [beq_eq_false_iff_ne]; exact her
  have hmay : mayB (ls.map triTy) s bs = true := by
    rcases HSP.out with ⟨_, hE⟩ | ⟨hm, _⟩ | ⟨hm, _⟩
    · have hq := HR.out.trans hE
      exact absurd (Prod.mk.inj (Prod.mk.inj hq).2).1 her
    · exact hm
    · exact hm
  have hmp := may_parts hmay
  rw [List.length_map] at hmp
  obtain ⟨n, rfl⟩ : ∃ n : Nat, s = n := ⟨s.toNat, by omega⟩
  have hnl : n < ls.length := by omega
  have HMAY := Lib.hid hmay
  have HGL : Hid ((hgTri (allI bs) hsr).length = hsr.length) := Lib.hid (by
    rcases HSP.out with ⟨_, hE⟩ | ⟨_, hs', hE, hlen⟩ | ⟨_, e', m, hE, _⟩
    · rw [(Prod.mk.inj (HR.out.trans hE)).1]
      simp [hgTri]
    · rw [(Prod.mk.inj (HR.out.trans hE)).1]
      exact hgTri_length hlen
    · rw [(Prod.mk.inj (HR.out.trans hE)).1]
      simp [hgTri])
  have hhl : hsr.length ≤ 1048576 := by
    obtain ⟨q, hq, _⟩ := allI_reads bs
    have hrl := reads_length hq
    rcases HSP.out with ⟨_, hE⟩ | ⟨_, hs', hE, hlen⟩ | ⟨_, e', m, hE, _⟩
    · rw [(Prod.mk.inj (HR.out.trans hE)).1]
      simp
    · rw [(Prod.mk.inj (HR.out.trans hE)).1]
      omega
    · rw [(Prod.mk.inj (HR.out.trans hE)).1]
      simp
  have HM5 := Lib.hid hmp.2.2.2.2
  clear hmay hmp HSP her
  have g1 : ¬ (n : Int) < 0 := by omega
  have g2 : ¬ (ls.length : Int) ≤ (n : Int) := by omega
  have g3 : ¬ ls.length ≤ n := by omega
  obtain ⟨k0, hk0, kz0, kz1, kz2⟩ := info_parts infoBool7
  obtain ⟨N, hN⟩ : ∃ N, N = ls.length := ⟨_, rfl⟩
  have hm2 : ∀ w : World, (Instr.makeSlice 36 (.int .i64 (ls.length : Int)) (.int .i64 (ls.length : Int))).run Tryd.prog w = .ok (.slice (some ⟨w.heap.size, 0, none⟩) ls.length ls.length) (w.alloc (.cells (boolRow (List.replicate ls.length false)).toArray 4)) := fun w => by
    have := run_make (P := Tryd.prog) w 36 4 k0 _ Tryd.underlying36 hk0 kz0 .i64 .i64 (ls.length : Int) (ls.length : Int) (by omega) (Int.le_refl _) (by rw [kz2]; omega) (by omega)
    rw [← boolRow_zero]
    simp [kz1] at this
    exact this
  go_wp2_with (go_at_call 19; refine stop_o ?_)
  unfold StopO
  have hb5 := (Below.refl w4.heap.size w4).alloc (Nat.le_refl _) (.cells (boolRow (List.replicate ls.length false)).toArray 4)
  have hnm5 := heap_alloc_new w4 (.cells (boolRow (List.replicate ls.length false)).toArray 4)
  have hB5 := hB4.trans (hb5.mono hB4.size)
  have OH5 := own_below OH.out hb5
  obtain ⟨Hn, hHn⟩ : ∃ Hn, Hn = w4.heap.size := ⟨_, rfl⟩
  have hHw : w.heap.size ≤ Hn := by rw [hHn]; exact hB4.size
  rw [← hHn] at hnm5 ⊢
  generalize w4.alloc (.cells (boolRow (List.replicate ls.length false)).toArray 4) = W5 at hb5 hnm5 hB5 OH5 ⊢
  refine (list_any bs B capB W5 (ints_below hB5 HC.out) HB.out HZ.out hbn2).mono ?_
  rintro e W6 ⟨xs, vi, rfl, hall, oI, rI, hb6⟩
  have hfst := allOf_allI hall
  have hnr : NRel bs ls.length w Hn w3.heap.size W5.heap.size (.slice Xh hsr.length ch) hsr.length (hgCells (allI bs) hsr) vi xs 0 W6 := by
    refine ⟨?_, oI, rI, own_below OH5 hb6, hB5.trans (hb6.mono hB5.size)⟩
    rw [List.take_zero, markL_nil]
    exact kept_of hb6 hnm5
  have HFST := Lib.hid hfst
  have hxl : xs.length = (allI bs).length := by rw [← hfst]; simp
  have hxm : xs.length ≤ 1048576 := by
    rw [hxl]
    obtain ⟨q, hq, _⟩ := allI_reads bs
    have := reads_length hq
    omega
  have HXL := Lib.hid hxl
  have HNR := Lib.hid hnr
  obtain ⟨I, cI, rfl⟩ := owns_shape oI
  have hHn2 := Lib.hid hHn
  clear hb5 hnm5 hB5 OH5 hall oI rI hb6 hfst hnr hHn hxl hB4 hN hm2 OH
  go_wp2
  go_loopw [18] (fun vk wr => ∃ k : Nat, vk = .int .i64 k ∧ k ≤ xs.length ∧ NRel bs ls.length w Hn w3.heap.size W5.heap.size (.slice Xh hsr.length ch) hsr.length (hgCells (allI bs) hsr) (.slice I xs.length cI) xs k wr) (fun vk _ => xs.length - (intOf vk).toNat)
  case atStart => exact ⟨0, rfl, Nat.zero_le _, HNR.out⟩
  case round =>
    clear HNR
    obtain ⟨k, rfl, hk, hnr⟩ := hrel
    by_cases hlt : k < xs.length
    · have q1 : (k : Int) < (xs.length : Int) := by omega
      have hx : xs[k]? = some xs[k] := List.getElem?_eq_getElem hlt
      have hik : (allI bs)[k]? = some (xs[k]).1 := by rw [← HFST.out, List.getElem?_map, hx]; rfl
      have mx := hnr.rows _ (List.mem_of_getElem? hx)
      obtain ⟨x0, x1, x2, x3⟩ := insCells_at hx
      obtain ⟨q, hqr, _⟩ := allI_reads bs
      have him := List.mem_of_getElem? hik
      have hby := reads_bytes HZ.out hqr _ him
      have hil := reads_imm7 hqr _ him
      have hnx := reads_next7 hqr _ him
      have hno := HM5.out _ him
      have htk : (allI bs).take (k + 1) = (allI bs).take k ++ [(xs[k]).1] := by rw [List.take_add_one, hik]; rfl
      generalize xs[k] = ex at hx hik mx x0 x1 x2 x3 him hby hil hnx hno htk
      obtain ⟨i, vx⟩ := ex
      dsimp only at hik mx x0 x1 x2 x3 him hby hil hnx hno htk
      obtain ⟨X, c, rfl⟩ := owns_shape mx
      obtain ⟨gI, rfl⟩ := own_head hnr.ins (by omega)
      have u0 := (hnr.ins.cellAt (k * 4) (by omega)).trans x0
      have u1 := (hnr.ins.cellAt (k * 4 + 1) (by omega)).trans x1
      have u2 := (hnr.ins.cellAt (k * 4 + 2) (by omega)).trans x2
      have u3 := (hnr.ins.cellAt (k * 4 + 3) (by omega)).trans x3
      have HNR := Lib.hid hnr
      have HNM := Lib.hid (fun w1 (hb : Below wr.heap.size wr w1) => named_any i X c w1 (ints_below hb (owned_ints mx)) hby (by omega) (wf64 (by omega) (by omega)))
      have HTK := Lib.hid htk
      have hnn := named_nonneg hby
      have HNO := Lib.hid (fun h => (names_ok (ts := ls.map triTy) hby hno hnn h).2)
      clear hx hik mx x0 x1 x2 x3 him hby hil hnx hno htk hnr hqr
      by_cases hcd : i.code = 227 ∨ i.code = 229
      · have hj := HNO.out hcd
        rw [List.length_map] at hj
        have HHIT := Lib.hid (markL_hit (l := (allI bs).take k) (N := ls.length) hcd)
        obtain ⟨j, hjn⟩ : ∃ j : Nat, namedN i = j := ⟨(namedN i).toNat, by omega⟩
        rw [hjn] at HNM HHIT hj
        rw [show ((j : Int)).toNat = j by omega] at HHIT
        generalize namedB i = nb at HNM
        clear hnn hjn HNO
        obtain ⟨at_, code, imm, next⟩ := i
        unfold insV at HNM
        dsimp only at *
        have r1 : ¬ (j : Int) < 0 := by omega
        have r2 : ¬ (ls.length : Int) ≤ (j : Int) := by omega
        have r3 : ¬ ls.length ≤ j := by omega
        have r4 : (j : Int) < (ls.length : Int) := by omega
        rcases hcd with rfl | rfl
        all_goals
          go_wp2_with (go_at_call 25; refine stop_o ?_)
          unfold StopO
          refine (HNM.out _ (Below.refl _ _)).mono ?_
          rintro e w7 ⟨rfl, hb7⟩
          have hn7 := nrel_below HNR.out hb7
          have HN8 := Lib.hid (nrel_hit (j := j) hn7 hHw (by rw [HTK.out]; exact HHIT.out))
          have bc := bool_at (n := j) hn7.nm (by rw [markL_length]; omega)
          have bf : ∀ o, w7.frozen? ⟨Hn, o, none⟩ = false := fun o => by simp [World.frozen?, hn7.nm]
          clear hn7 hb7 HNM HTK HHIT HNR u0 u1 u2 u3
          go_wp2
          exact ⟨⟨k + 1, by go_num, by omega, HN8.out⟩, by simp [intOf]; omega⟩
      · have HMISS := Lib.hid (markL_miss (l := (allI bs).take k) (N := ls.length) hcd)
        have c1 : (i.code == 227) = false := by rw [beq_eq_false_iff_ne]; exact fun h => hcd (.inl h)
        have c2 : (i.code == 229) = false := by rw [beq_eq_false_iff_ne]; exact fun h => hcd (.inr h)
        have HN8 : Hid (NRel bs ls.length w Hn w3.heap.size W5.heap.size (.slice Xh hsr.length ch) hsr.length (hgCells (allI bs) hsr) (.slice (some ⟨gI, 0, none⟩) xs.length cI) xs (k + 1) wr) := Lib.hid ⟨by rw [HTK.out, HMISS.out]; exact HNR.out.nm, HNR.out.ins, HNR.out.rows, HNR.out.hgs, HNR.out.below⟩
        clear hcd HNM HTK HNR HNO HMISS hnn u0 u2 u3
        generalize i.code = code at u1 c1 c2
        go_wp2
        exact ⟨⟨k + 1, by go_num, by omega, HN8.out⟩, by simp [intOf]; omega⟩
    · obtain rfl : k = xs.length := by omega
      have hnm := hnr.nm
      rw [List.take_of_length_le (by rw [HXL.out]; exact Nat.le_refl _)] at hnm
      obtain ⟨nm, hnmE⟩ : ∃ nm, nm = markL (allI bs) ls.length := ⟨_, rfl⟩
      rw [← hnmE] at hnm
      have hnml : nm.length = ls.length := by rw [hnmE]; exact markL_length _ _
      have HNME := Lib.hid hnmE
      have HW := Lib.hid (⟨hnr.hgs, hnr.below, hnm⟩ : _ ∧ _ ∧ _)
      clear hnr hnm hnmE hlt hk HFST HXL HM5
      go_wp2_with (go_at_call 17; refine stop_o ?_)
      unfold StopO
      refine (ownT_any ls A capT wr (tri_below HT.out HW.out.2.1) HT0.out (by omega)).mono ?_
      rintro e w8 ⟨XO, cO, rfl, oO, hb8⟩
      obtain ⟨gO, rfl⟩ := own_head oO (by omega)
      have OO := Lib.hid oO
      have HW8 := Lib.hid (⟨own_below HW.out.1 hb8, HW.out.2.1.trans (hb8.mono HW.out.2.1.size), kept_of hb8 HW.out.2.2⟩ : _ ∧ _ ∧ _)
      have hwr8 := HW.out.2.1.size
      have hHn8 : Hn < wr.heap.size := (Array.getElem?_eq_some_iff.1 HW.out.2.2).1
      clear oO hb8 HW
      obtain ⟨rr, hrr⟩ : ∃ rr : Tri, rr = (bits .and .i64 pin 127, bits .and .i64 pout 127, bits .and .i64 phigh 1023) := ⟨_, rfl⟩
      have HRR := Lib.hid hrr
      clear hrr
      go_wp2
      go_loopw [22] (fun vk wq => ∃ k : Nat, vk = .int .i64 k ∧ k ≤ ls.length ∧ wq.ownsRow wr.heap.size 35 3 (.slice (some ⟨gO, 0, none⟩) ls.length cO) ls.length (trCells (repT nm n rr ls k)) ∧
        wq.ownsRow w3.heap.size 38 3 (.slice Xh hsr.length ch) hsr.length (hgCells (allI bs) hsr) ∧ Below w.heap.size w wq ∧ wq.heap[Hn]? = some (.cells (boolRow nm).toArray 4 (0, 0))) (fun vk _ => ls.length - (intOf vk).toNat)
      case atStart => exact ⟨0, rfl, Nat.zero_le _, by rw [repT_zero]; exact OO.out, HW8.out⟩
      case round =>
        clear OO HW8
        obtain ⟨k, rfl, hk, ho, hh, hb, hm⟩ := hrel
        by_cases hlt : k < ls.length
        · have q1 : (k : Int) < (ls.length : Int) := by omega
          have q2 : k < ls.length := hlt
          have bc := bool_at (n := k) hm (by omega)
          have HK := Lib.hid (⟨ho, hh, hb, hm⟩ : _ ∧ _ ∧ _ ∧ _)
          by_cases hkn : k = n
          · have HMI := Lib.hid (repT_miss (nm := nm) (s := n) (r := rr) hlt (.inl hkn))
            subst hkn
            clear ho hh hb hm
            go_wp2
            exact ⟨⟨k + 1, by go_num, by omega, by rw [← HMI.out]; exact HK.out.1, HK.out.2⟩, by simp [intOf]; omega⟩
          · have z1 : ((k : Int) != (n : Int)) = true := by rw [bne_iff_ne]; omega
            have z2 : (k != n) = true := by rw [bne_iff_ne]; omega
            cases hnk : nm.getD k false with
            | true =>
              have HMI := Lib.hid (repT_miss (nm := nm) (s := n) (r := rr) hlt (.inr hnk))
              rw [hnk] at bc
              clear ho hh hb hm hnk
              go_wp2
              exact ⟨⟨k + 1, by go_num, by omega, by rw [← HMI.out]; exact HK.out.1, HK.out.2⟩, by simp [intOf]; omega⟩
            | false =>
              have HHI := Lib.hid (repT_hit (r := rr) hlt hkn hnk)
              rw [hnk] at bc
              obtain ⟨y0, y1, y2⟩ := trCells_at (ls := repT nm n rr ls k) (k := k) (by rw [repT_length]; exact hlt)
              have v0 := (ho.cellAt (k * 3) (by omega)).trans y0
              have v1 := (ho.cellAt (k * 3 + 1) (by omega)).trans y1
              have v2 := (ho.cellAt (k * 3 + 2) (by omega)).trans y2
              generalize (repT nm n rr ls k).getD k zeroTri = told at v0 v1 v2
              have vf := own_frozen ho
              have HS3 := Lib.hid (trCells_set3 (ls := repT nm n rr ls k) (k := k) (bits .and .i64 pin 127) (bits .and .i64 pout 127) (bits .and .i64 phigh 1023) (by rw [repT_length]; exact hlt))
              have p1 := own_setN ho (k * 3) (.int .i64 (bits .and .i64 pin 127))
              have p2 := own_setN p1 (k * 3 + 1) (.int .i64 (bits .and .i64 pout 127))
              have p3 := own_setN p2 (k * 3 + 2) (.int .i64 (bits .and .i64 phigh 1023))
              rw [HS3.out, ← HRR.out, HHI.out] at p3
              have hh3 := own_apart2 p2 (own_apart2 p1 (own_apart2 ho hh (by decide) (k * 3) (.int .i64 (bits .and .i64 pin 127))) (by decide) (k * 3 + 1) (.int .i64 (bits .and .i64 pout 127))) (by decide) (k * 3 + 2) (.int .i64 (bits .and .i64 phigh 1023))
              have hb3 := below_own_set (below_own_set (below_own_set hb ho hwr8 (k * 3) (.int .i64 (bits .and .i64 pin 127))) p1 hwr8 (k * 3 + 1) (.int .i64 (bits .and .i64 pout 127))) p2 hwr8 (k * 3 + 2) (.int .i64 (bits .and .i64 phigh 1023))
              have hgo := (own_lt ho).1
              have hm3 := heap_setOther (a := ⟨gO, k * 3 + 2, none⟩) (heap_setOther (a := ⟨gO, k * 3 + 1, none⟩) (heap_setOther (a := ⟨gO, k * 3, none⟩) hm (show Hn ≠ gO by omega) (.int .i64 (bits .and .i64 pin 127))) (show Hn ≠ gO by omega) (.int .i64 (bits .and .i64 pout 127))) (show Hn ≠ gO by omega) (.int .i64 (bits .and .i64 phigh 1023))
              have HE := Lib.hid (⟨p3, hh3, hb3, hm3⟩ : _ ∧ _ ∧ _ ∧ _)
              clear ho hh hb hm hnk y0 y1 y2 p1 p2 p3 hh3 hb3 hm3 HS3 HHI
              go_wp2
              exact ⟨⟨k + 1, by go_num, by omega, HE.out⟩, by simp [intOf]; omega⟩
        · obtain rfl : k = ls.length := by omega
          have bc := bool_at (n := n) hm (by omega)
          have hrb : 0 ≤ rr.1 ∧ rr.1 ≤ 127 ∧ 0 ≤ rr.2.1 ∧ rr.2.1 ≤ 127 ∧ 0 ≤ rr.2.2 ∧ rr.2.2 ≤ 1023 := by
            rw [HRR.out]
            have a1 := and_mask pin 127 (by decide)
            have a2 := and_mask pout 127 (by decide)
            have a3 := and_mask phigh 1023 (by decide)
            exact ⟨a1.1, a1.2, a2.1, a2.2, a3.1, a3.2⟩
          have hlast := heightsE_last hnl HZ.out HMAY.out hrb
          rw [← HNME.out] at hlast
          have HLAST := Lib.hid hlast
          clear hlast hrb hk hlt
          cases hnn : nm.getD n false with
          | true =>
            rw [hnn] at bc
            have hE : lastT nm n rr ls = repT nm n rr ls ls.length := if_pos hnn
            rw [← hE] at ho
            have HE := Lib.hid (⟨ho, hh, hb⟩ : _ ∧ _ ∧ _)
            clear hE ho hh hb hm hnn
            go_wp2_with (go_at_call 18; refine stop_o ?_)
            unfold StopO
            refine (own7_any bs B capB _ (ints_below HE.out.2.2 HC.out) HB.out (by omega)).mono ?_
            rintro e w10 ⟨XB2, cB2, rfl, oB2, hb10⟩
            have tO := tri_owned (ls := lastT nm n rr ls) (by rw [lastT_length]; exact own_below HE.out.1 hb10)
            have hH := heights_tri (lastT nm n rr ls) _ cO n bs XB2 cB2 w10 tO (owned_ints oB2) HZ.out hbn2 (owned_cap oB2) (by rw [lastT_length]; exact hln2)
            rw [lastT_length] at hH
            unfold HeightsOut at hH
            rw [HLAST.out, ← HR.out] at hH
            have HH := Lib.hid hH
            have HL10 := Lib.hid (own_below HE.out.2.1 hb10)
            have hB10 := HE.out.2.2.trans (hb10.mono HE.out.2.2.size)
            clear hH tO oB2 hb10 HE
            go_wp2_with (go_at_call 16; refine stop_o ?_)
            unfold StopO
            refine HH.out.mono ?_
            rintro e w11 ⟨vm, rfl, om, hb11⟩
            dsimp only at om ⊢
            obtain ⟨Xm, cm, rfl⟩ := owns_shape om
            have ol := own_below HL10.out hb11
            rw [hgCells_tri, ← HGL.out] at om ol
            have hsm := same7_eq (hgTri (allI bs) hsr) Xh Xm ch cm w11 (tri_owned ol) (tri_owned om) (by rw [HGL.out]; omega)
            rw [HGL.out] at hsm
            have HSM := Lib.hid hsm
            have hB11 := hB10.trans (hb11.mono hB10.size)
            clear hsm om ol HL10 HH hb11 hB10
            go_wp2_with (go_at_call 26; refine stop_o ?_)
            unfold StopO
            refine HSM.out.mono ?_
            rintro e w12 ⟨rfl, hb12⟩
            go_wp2
            go_ret
            exact ⟨rfl, hB11.trans (hb12.mono hB11.size)⟩
          | false =>
            rw [hnn] at bc
            obtain ⟨y0, y1, y2⟩ := trCells_at (ls := repT nm n rr ls ls.length) (k := n) (by rw [repT_length]; exact hnl)
            have v2 := (ho.cellAt (n * 3 + 2) (by omega)).trans y2
            have hold : (repT nm n rr ls ls.length).getD n zeroTri = ls.getD n zeroTri := by rw [repT_at nm n rr _ hnl, if_neg (fun h => h.2.1 rfl)]
            have vf := own_frozen ho
            have p1 := own_setN ho (n * 3 + 2) (.int .i64 (bits .and .i64 phigh 1023))
            rw [trCells_set2 _ (by rw [repT_length]; exact hnl), hold] at p1
            have hE : lastT nm n rr ls = (repT nm n rr ls ls.length).set n ((ls.getD n zeroTri).1, (ls.getD n zeroTri).2.1, bits .and .i64 phigh 1023) := by
              unfold lastT
              rw [if_neg (by rw [hnn]; decide), HRR.out]
            rw [← hE] at p1
            have HE := Lib.hid (⟨p1, own_apart2 ho hh (by decide) (n * 3 + 2) (.int .i64 (bits .and .i64 phigh 1023)), below_own_set hb ho hwr8 (n * 3 + 2) (.int .i64 (bits .and .i64 phigh 1023))⟩ : _ ∧ _ ∧ _)
            rw [hold] at v2
            generalize (ls.getD n zeroTri).2.2 = vold at v2
            clear hE ho hh hb hm hnn y0 y1 y2 p1 hold
            go_wp2_with (go_at_call 18; refine stop_o ?_)
            unfold StopO
            refine (own7_any bs B capB _ (ints_below HE.out.2.2 HC.out) HB.out (by omega)).mono ?_
            rintro e w10 ⟨XB2, cB2, rfl, oB2, hb10⟩
            have tO := tri_owned (ls := lastT nm n rr ls) (by rw [lastT_length]; exact own_below HE.out.1 hb10)
            have hH := heights_tri (lastT nm n rr ls) _ cO n bs XB2 cB2 w10 tO (owned_ints oB2) HZ.out hbn2 (owned_cap oB2) (by rw [lastT_length]; exact hln2)
            rw [lastT_length] at hH
            unfold HeightsOut at hH
            rw [HLAST.out, ← HR.out] at hH
            have HH := Lib.hid hH
            have HL10 := Lib.hid (own_below HE.out.2.1 hb10)
            have hB10 := HE.out.2.2.trans (hb10.mono HE.out.2.2.size)
            clear hH tO oB2 hb10 HE
            go_wp2_with (go_at_call 16; refine stop_o ?_)
            unfold StopO
            refine HH.out.mono ?_
            rintro e w11 ⟨vm, rfl, om, hb11⟩
            dsimp only at om ⊢
            obtain ⟨Xm, cm, rfl⟩ := owns_shape om
            have ol := own_below HL10.out hb11
            rw [hgCells_tri, ← HGL.out] at om ol
            have hsm := same7_eq (hgTri (allI bs) hsr) Xh Xm ch cm w11 (tri_owned ol) (tri_owned om) (by rw [HGL.out]; omega)
            rw [HGL.out] at hsm
            have HSM := Lib.hid hsm
            have hB11 := hB10.trans (hb11.mono hB10.size)
            clear hsm om ol HL10 HH hb11 hB10
            go_wp2_with (go_at_call 26; refine stop_o ?_)
            unfold StopO
            refine HSM.out.mono ?_
            rintro e w12 ⟨rfl, hb12⟩
            go_wp2
            go_ret
            exact ⟨rfl, hB11.trans (hb12.mono hB11.size)⟩
end Go.Proofs.YtfjmdffhfjnopaaDoor
