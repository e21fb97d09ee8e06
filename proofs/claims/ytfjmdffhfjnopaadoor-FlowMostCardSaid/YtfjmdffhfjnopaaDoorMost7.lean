/- vouchlaw7.FlowMost: the walk. -/
import Derived.Test.YtfjmdffhfjnopaaDoorFlowL
namespace Vouch
open Go.Vk
def hiT (ls : List Tri) (k : Nat) : Int := (ls.getD k zeroTri).2.2
/-- The greatest height. -/
def mostT (ls : List Tri) : Nat → Int
  | 0 => 0
  | k + 1 => if k = 0 ∨ mostT ls k < hiT ls k then hiT ls k else mostT ls k
theorem mostT_up {ls : List Tri} {k : Nat} (h : k = 0 ∨ mostT ls k < hiT ls k) : mostT ls (k + 1) = hiT ls k := if_pos h
theorem mostT_stay {ls : List Tri} {k : Nat} (h : ¬ (k = 0 ∨ mostT ls k < hiT ls k)) : mostT ls (k + 1) = mostT ls k := if_neg h
end Vouch
namespace Go.Proofs.YtfjmdffhfjnopaaDoor
open Go.RowKit Vouch Go.Vk Go.Sort
set_option maxHeartbeats 1000000 in
set_option maxRecDepth 100000 in
theorem most_any (ls : List Tri) (A : Option Addr) (c : Nat) (w : World) (ha : TriAt w A ls) (hn : ls.length ≤ 140737488355328) :
    Calls Tryd.prog 28 #[.slice A ls.length c] w fun e w' => e = .returned (.int .i64 (mostT ls ls.length)) ∧ Below w.heap.size w w' := by
  have HA := Lib.hid ha
  clear ha
  go_enter Tryd.func28, Tryd.ntmps28
  go_wp2
  go_loopw [3, 8] (fun vn vi wr => ∃ k : Nat, vi = .int .i64 k ∧ vn = .int .i64 (mostT ls k) ∧ k ≤ ls.length ∧ Below w.heap.size w wr) (fun _ vi _ => ls.length - (intOf vi).toNat)
  case atStart => exact ⟨0, rfl, rfl, Nat.zero_le _, Below.refl _ _⟩
  case round =>
    obtain ⟨k, rfl, rfl, hk, hB⟩ := hrel
    by_cases hlt : k < ls.length
    · have h1 : (k : Int) < (ls.length : Int) := by omega
      obtain ⟨x, rfl, x0, x1, x2⟩ := HA.out k hlt
      replace x0 := cell_later hB x0
      replace x1 := cell_later hB x1
      replace x2 := cell_later hB x2
      have HU := Lib.hid (@mostT_up ls k)
      have HS := Lib.hid (@mostT_stay ls k)
      unfold hiT at HU HS
      generalize ls.getD k zeroTri = t at x0 x1 x2 HU HS
      obtain ⟨a, b, h⟩ := t
      dsimp only at x0 x1 x2 HU HS
      generalize mostT ls k = m at HU HS ⊢
      obtain ⟨z0, z1, z2, zf, zl⟩ := cells3 (heap_alloc_new wr (.cells #[.int .i64 a, .int .i64 b, .int .i64 h] 38))
      have hB2 := hB.alloc hB.size (.cells #[.int .i64 a, .int .i64 b, .int .i64 h] 38)
      by_cases e : k = 0
      · subst e
        have hu := Lib.hid (HU.out (.inl rfl))
        rw [Nat.zero_mul, show x.add 0 = x from rfl] at x0 x1 x2
        clear HU HS
        go_wp2
        exact ⟨⟨1, by go_num, by rw [hu.out], by omega, hB2⟩, by simp [intOf]; omega⟩
      · have e1 : ((k : Int) == 0) = false := by rw [beq_eq_false_iff_ne]; omega
        by_cases g : m < h
        · have hu := Lib.hid (HU.out (.inr g))
          clear HU HS
          go_wp2
          exact ⟨⟨k + 1, by go_num, by rw [hu.out], by omega, hB2⟩, by simp [intOf]; omega⟩
        · have hu := Lib.hid (HS.out (by omega))
          clear HU HS
          go_wp2
          exact ⟨⟨k + 1, by go_num, by rw [hu.out], by omega, hB2⟩, by simp [intOf]; omega⟩
    · have h1 : ¬ (k : Int) < (ls.length : Int) := by omega
      obtain rfl : k = ls.length := by omega
      go_wp2
      go_ret
      exact ⟨rfl, hB⟩
set_option maxHeartbeats 1000000 in
set_option maxRecDepth 100000 in
theorem rmost_any (ls : List Tri) (A : Option Addr) (c : Nat) (w : World) (ha : TriAt w A ls) (hn : ls.length ≤ 140737488355328) :
    Calls Tryd.prog 29 #[.slice A ls.length c] w fun e w' => e = .returned (.int .i64 (mostT ls ls.length)) ∧ Below w.heap.size w w' := by
  have HA := Lib.hid ha
  clear ha
  go_enter Tryd.func29, Tryd.ntmps29
  by_cases h0 : ls.length = 0
  · rw [h0]
    go_wp2
    go_ret
    exact ⟨rfl, Below.refl _ _⟩
  · have h1 : ((ls.length : Int) == 0) = false := by rw [beq_eq_false_iff_ne]; omega
    have h2 : (0 : Int) < (ls.length : Int) := by omega
    obtain ⟨x, rfl, x0, x1, x2⟩ := HA.out 0 (by omega)
    have hm : mostT ls 1 = (ls.getD 0 zeroTri).2.2 := mostT_up (.inl rfl)
    have HM := Lib.hid hm
    clear hm
    rw [← HM.out, Nat.zero_mul, show x.add 0 = x from rfl] at x2
    go_wp2
    go_loopw [3, 4] (fun vn vi wr => ∃ k : Nat, vi = .int .i64 k ∧ vn = .int .i64 (mostT ls k) ∧ 1 ≤ k ∧ k ≤ ls.length ∧ Below w.heap.size w wr) (fun _ vi _ => ls.length - (intOf vi).toNat)
    case atStart => exact ⟨1, rfl, rfl, Nat.le_refl _, by omega, Below.refl _ _⟩
    case round =>
      clear x0 x1 x2 HM
      obtain ⟨k, rfl, rfl, hk1, hk, hB⟩ := hrel
      by_cases hlt : k < ls.length
      · have h1 : (k : Int) < (ls.length : Int) := by omega
        obtain ⟨x', hx', x0, x1, x2⟩ := HA.out k hlt
        cases hx'
        replace x0 := cell_later hB x0
        replace x1 := cell_later hB x1
        replace x2 := cell_later hB x2
        have HU := Lib.hid (@mostT_up ls k)
        have HS := Lib.hid (@mostT_stay ls k)
        unfold hiT at HU HS
        generalize ls.getD k zeroTri = t at x0 x1 x2 HU HS
        obtain ⟨a, b, h⟩ := t
        dsimp only at x0 x1 x2 HU HS
        generalize mostT ls k = m at HU HS ⊢
        by_cases g : m < h
        · have hu := Lib.hid (HU.out (.inr g))
          clear HU HS
          go_wp2
          exact ⟨⟨k + 1, by go_num, by rw [hu.out], by omega, by omega, hB⟩, by simp [intOf]; omega⟩
        · have hu := Lib.hid (HS.out (by omega))
          clear HU HS
          go_wp2
          exact ⟨⟨k + 1, by go_num, by rw [hu.out], by omega, by omega, hB⟩, by simp [intOf]; omega⟩
      · have h1 : ¬ (k : Int) < (ls.length : Int) := by omega
        obtain rfl : k = ls.length := by omega
        go_wp2
        go_ret
        exact ⟨rfl, hB⟩
def xrT (t : Tri) : Tri := (t.1, t.2.1, bits .xor .i64 t.2.2 3)
def xorL (ls : List Tri) (k : Nat) : List Tri := (ls.take k).map xrT ++ ls.drop k
theorem xorL_length (ls : List Tri) (k : Nat) : (xorL ls k).length = ls.length := by simp [xorL]; omega
theorem xorL_at {ls : List Tri} {k : Nat} (h : k < ls.length) : (xorL ls k).getD k zeroTri = ls.getD k zeroTri := by
  unfold xorL
  rw [List.getD_eq_getElem?_getD, List.getElem?_append_right (by simp; omega), List.getElem?_drop, List.getD_eq_getElem?_getD]
  simp [Nat.min_eq_left (Nat.le_of_lt h)]
theorem xorL_set {ls : List Tri} {k : Nat} (h : k < ls.length) : (xorL ls k).set k (xrT (ls.getD k zeroTri)) = xorL ls (k + 1) := by
  unfold xorL
  have hk : ((ls.take k).map xrT).length = k := by simp; omega
  rw [List.set_append_right _ _ (by omega), hk, Nat.sub_self, List.take_add_one, List.getElem?_eq_getElem h, List.drop_eq_getElem_cons h, List.set_cons_zero, List.getD_eq_getElem?_getD, List.getElem?_eq_getElem h, List.map_append]
  simp only [Option.getD_some, Option.toList_some, List.map_cons, List.map_nil, List.append_assoc, List.singleton_append]
theorem infoHt : (Tryd.prog.info? 38).map (fun i => (i.zero, i.size, i.bytes)) = some (some (.agg #[.int .i64 0, .int .i64 0, .int .i64 0]), 3, 24) := by kernel_rfl
def markT : Tri := (0, 0, 1099511627776)
def litT : List Tri := [(0, 0, 3), (0, 0, 9), (0, 0, 4)]
set_option maxHeartbeats 2000000 in
set_option maxRecDepth 100000 in
theorem most_walk (A : Option Addr) (cap : Nat) (ls : List Tri) (w : World) (ha : TriAt w A ls) (h0 : A = none → cap = 0) (hn : ls.length ≤ 140737488351232) :
    Calls Tryd.prog 11 #[.slice A ls.length cap] w fun e w' => e = .returned (.bool true) ∧ Below w.heap.size w w' := by
  by_cases hl : 1048576 < ls.length
  · have h1 : (1048576 : Int) < (ls.length : Int) := by omega
    go_enter Tryd.func11, Tryd.ntmps11
    go_wp2
    go_ret
    exact ⟨rfl, Below.refl _ _⟩
  · have h1 : ¬ (1048576 : Int) < (ls.length : Int) := by omega
    obtain ⟨i0, hi, hz0, hz1, hz2⟩ := info_parts infoHt
    have hown := World.ownsRow_nil w w.heap.size 38 3
    have HC := Lib.hid ha
    have HN := Lib.hid (tri_none ha h0)
    clear ha h0
    go_enter Tryd.func11, Tryd.ntmps11
    go_wp2_with (at_builtin; refine wpList_append_src _ rfl _ _ 26 rfl w.heap.size 38 i0 (.agg #[.int .i64 0, .int .i64 0, .int .i64 0]) 3 24 Tryd.underlying26 hi hz0 hz1 hz2 rfl (by decide) _ _ _ rfl hown A ls.length cap (trCells ls) rfl HN.out ?a0 ?a1 ?a2 ?a3 ?a4 (Nat.le_refl _) ?_)
    case a0 => rw [trCells_length]
    case a1 => exact fun y hy => by have := HC.out; rw [hy] at this; exact tri_src this
    case a2 => exact trCells_one
    case a3 => unfold maxLen; omega
    case a4 => omega
    intro v1 w1 hown1 hgrow1
    have hB1 := bel_own (Below.refl _ _) hown (Nat.le_refl _) hgrow1
    have HO1 := Lib.hid (hown1.alloc (.cells #[.int .i64 0, .int .i64 0, .int .i64 1099511627776] 38))
    have hB2 := hB1.alloc hB1.size (.cells #[.int .i64 0, .int .i64 0, .int .i64 1099511627776] 38)
    clear hown hgrow1 hown1
    go_wp2_with (at_builtin; refine wpList_append_own _ rfl _ _ 26 rfl w.heap.size 38 i0 (.agg #[.int .i64 0, .int .i64 0, .int .i64 0]) 3 24 Tryd.underlying26 hi hz0 hz1 hz2 rfl (by decide) _ _ _ rfl HO1.out ⟨w1.heap.size, 0, none⟩ 1 1 (trCells [markT]) rfl rfl ?b1 ?b2 ?b3 ?b4 ?b5 ?_)
    case b1 => exact cells_fresh w1 #[.int .i64 0, .int .i64 0, .int .i64 1099511627776] _ _ rfl
    case b2 => exact trCells_one
    case b3 => unfold maxLen; omega
    case b4 => omega
    case b5 => exact hB2.size
    intro v2 w2 hown2 hgrow2 _
    have hB3 := bel_own hB2 HO1.out (Nat.le_refl _) hgrow2
    rw [← trCells_append] at hown2
    clear hgrow2 HO1 hB2 hB1
    obtain ⟨X, c, rfl⟩ := owns_shape hown2
    obtain ⟨g, rfl⟩ := own_head hown2 (by omega)
    have hcap := owned_cap hown2
    have hc1 : (ls.length : Int) ≤ (c : Int) := by omega
    have e1 : (ls ++ [markT]).length = ls.length + 1 := by simp
    have HO := Lib.hid hown2
    have HT := Lib.hid (fun (w' : World) (hb : Below w2.heap.size w2 w') => tri_take (tri_owned (ls := ls ++ [markT]) (by rw [e1]; exact own_below hown2 hb)))
    have HA := Lib.hid (fun (w' : World) (hb : Below w2.heap.size w2 w') => tri_below HC.out (hB3.trans (hb.mono hB3.size)))
    have HB3 := Lib.hid hB3
    clear hown2 hB3
    go_wp2_with (go_at_call 28; refine stop_o ?_)
    unfold StopO
    refine (most_any ls _ c w2 (HT.out w2 (Below.refl _ _)) (by omega)).mono ?_
    rintro e w3 ⟨rfl, hb3⟩
    go_wp2_with (go_at_call 14; refine stop_o ?_)
    unfold StopO
    refine (able_any w3).mono ?_
    rintro e w4 ⟨rfl, hb4⟩
    have hb4' := hb3.trans (hb4.mono hb3.size)
    clear hb3 hb4
    go_wp2_with (go_at_call 29; refine stop_o ?_)
    unfold StopO
    refine (rmost_any ls A cap w4 (HA.out w4 hb4') (by omega)).mono ?_
    rintro e w5 ⟨rfl, hb5⟩
    have hb5' := hb4'.trans (hb5.mono hb4'.size)
    clear hb4' hb5
    go_wp2_with (go_at_call 26; refine stop_o ?_)
    unfold StopO
    refine (same7_eq ls _ A c cap w5 (HT.out w5 hb5') (HA.out w5 hb5') (by omega)).mono ?_
    rintro e w6 ⟨rfl, hb6⟩
    have hb6' := hb5'.trans (hb6.mono hb5'.size)
    clear hb5' hb6
    have m2 : w6.cell? ⟨g, ls.length * 3 + 2, none⟩ = some (.int .i64 1099511627776) := cell_later hb6' ((HO.out.cellAt (ls.length * 3 + 2) (by omega)).trans (by
      have := (trCells_at (ls := ls ++ [markT]) (k := ls.length) (by simp)).2.2
      rw [this, List.getD_eq_getElem?_getD, List.getElem?_append_right (Nat.le_refl _), Nat.sub_self]
      rfl))
    have hc2 : (ls.length : Int) < ((ls.length + 1 : Nat) : Int) := by omega
    go_wp2_with (go_at_call 28; refine stop_o ?_)
    unfold StopO
    have hbL := (Below.refl w6.heap.size w6).alloc (Nat.le_refl _) (.cells (trCells litT).toArray 38)
    have htL := tri_lit (heap_alloc_new w6 (.cells (trCells litT).toArray 38))
    refine (most_any litT _ 3 _ htL (by decide)).mono ?_
    rw [show mostT litT litT.length = 9 by decide +kernel]
    rintro e w7 ⟨rfl, hb7⟩
    have hb7' := hb6'.trans ((hbL.trans (hb7.mono hbL.size)).mono hb6'.size)
    clear hb6' hb7 hbL htL m2
    go_wp2_with (go_at_call 28; refine stop_o ?_)
    unfold StopO
    refine (most_any ls _ c w7 (HT.out w7 hb7') (by omega)).mono ?_
    rintro e w8 ⟨rfl, hb8⟩
    have hb8' := hb7'.trans (hb8.mono hb7'.size)
    clear hb7' hb8
    have ho8 := own_below HO.out hb8'
    have hB8 := HB3.out.trans (hb8'.mono HB3.out.size)
    have HA8 := Lib.hid (fun (w' : World) (hb : Below w.heap.size w w') => tri_below HC.out hb)
    clear HT HA HO HB3 hb8'
    go_wp2
    go_loopw [5] (fun vi wr => ∃ k : Nat, vi = .int .i64 k ∧ k ≤ ls.length ∧ wr.ownsRow w.heap.size 38 3 (.slice (some ⟨g, 0, none⟩) (ls.length + 1) c) (ls.length + 1) (trCells (xorL ls k ++ [markT])) ∧ Below w.heap.size w wr) (fun vi _ => ls.length - (intOf vi).toNat)
    case atStart => exact ⟨0, rfl, Nat.zero_le _, by simpa [xorL] using ho8, hB8⟩
    case round =>
      clear ho8 hB8
      obtain ⟨k, rfl, hk, hown, hB⟩ := hrel
      have HOWN := Lib.hid hown
      by_cases hlt : k < ls.length
      · have h2 : (k : Int) < (ls.length : Int) := by omega
        have h3 : (k : Int) < ((ls.length + 1 : Nat) : Int) := by omega
        have e2 : (xorL ls k ++ [markT]).getD k zeroTri = ls.getD k zeroTri := by
          rw [List.getD_eq_getElem?_getD, List.getElem?_append_left (by rw [xorL_length]; omega), ← List.getD_eq_getElem?_getD, xorL_at hlt]
        have m2 := (hown.cellAt (k * 3 + 2) (by omega)).trans (trCells_at (ls := xorL ls k ++ [markT]) (k := k) (by simp [xorL_length]; omega)).2.2
        have hset := trCells_set2 (ls := xorL ls k ++ [markT]) (k := k) (bits .xor .i64 (ls.getD k zeroTri).2.2 3) (by simp [xorL_length]; omega)
        rw [e2] at m2 hset
        have hnx : (xorL ls k ++ [markT]).set k ((ls.getD k zeroTri).1, (ls.getD k zeroTri).2.1, bits .xor .i64 (ls.getD k zeroTri).2.2 3) = xorL ls (k + 1) ++ [markT] := by
          rw [← xorL_set hlt, List.set_append_left _ _ (by rw [xorL_length]; omega)]
          rfl
        rw [hnx] at hset
        have HSET := Lib.hid hset
        have mf : ∀ o, wr.frozen? ⟨g, o, none⟩ = false := fun o => by
          rcases hown.2 with ⟨x1, _⟩ | ⟨g', cp', cur, heq, _, hh, _⟩
          · cases x1
          · cases heq
            simp [World.frozen?, hh]
        clear hset hnx e2 hown
        generalize (ls.getD k zeroTri).2.2 = h at m2 HSET
        go_wp2
        exact ⟨⟨k + 1, by go_num, by omega, by rw [← HSET.out]; exact own_setN HOWN.out _ _, below_own_set hB HOWN.out (Nat.le_refl _) _ _⟩, by simp [intOf]; omega⟩
      · have h2 : ¬ (k : Int) < (ls.length : Int) := by omega
        obtain rfl : k = ls.length := by omega
        have hx : (xorL ls ls.length).length = ls.length := xorL_length _ _
        have e3 : (xorL ls ls.length ++ [markT]).length = ls.length + 1 := by simp [xorL_length]
        have HTX := Lib.hid (fun (w' : World) (hb : Below wr.heap.size wr w') => tri_take (tri_owned (ls := xorL ls ls.length ++ [markT]) (by rw [e3]; exact own_below hown hb)))
        have HX := Lib.hid hx
        clear hx e3 hown HOWN
        go_wp2_with (go_at_call 28; refine stop_o ?_)
        unfold StopO
        have hm9 := most_any (xorL ls ls.length) _ c wr (HTX.out wr (Below.refl _ _)) (by rw [HX.out]; omega)
        rw [HX.out] at hm9
        refine hm9.mono ?_
        clear hm9
        rintro e w9 ⟨rfl, hb9⟩
        go_wp2_with (go_at_call 29; refine stop_o ?_)
        unfold StopO
        refine (rmost_any ls A cap w9 (HA8.out w9 (hB.trans (hb9.mono hB.size))) (by omega)).mono ?_
        rintro e w10 ⟨rfl, hb10⟩
        have hb10' := hb9.trans (hb10.mono hb9.size)
        clear hb9 hb10
        have hsrc := HTX.out w10 hb10'
        have hB10 := hB.trans (hb10'.mono hB.size)
        have hown0 := World.ownsRow_nil w10 w10.heap.size 38 3
        go_wp2_with (at_builtin; refine wpList_unguard rfl ?_; refine wpList_append_own _ rfl _ _ 26 rfl w10.heap.size 38 i0 (.agg #[.int .i64 0, .int .i64 0, .int .i64 0]) 3 24 Tryd.underlying26 hi hz0 hz1 hz2 rfl (by decide) _ _ _ rfl hown0 ⟨g, 0, none⟩ ls.length c (trCells (xorL ls ls.length)) rfl ?d0 ?d1 ?d2 ?d3 ?d4 (Nat.le_refl _) ?_)
        case d0 => rw [trCells_length, HX.out]
        case d1 => exact tri_src hsrc
        case d2 => exact trCells_one
        case d3 => unfold maxLen; omega
        case d4 => omega
        intro v11 w11 hown11 hgrow11 _
        have hB11 := bel_own hB10 hown0 hB10.size hgrow11
        obtain ⟨Y, cy, rfl⟩ := owns_shape hown11
        clear hown0 hgrow11 hsrc hb10' HTX
        have hown12 : w11.ownsRow w10.heap.size 38 3 (.slice Y (xorL ls ls.length).length cy) (xorL ls ls.length).length (trCells (xorL ls ls.length)) := by rw [HX.out]; simpa using hown11
        have ht11 := tri_owned hown12
        clear hown11 hown12
        go_wp2_with (go_at_call 29; refine stop_o ?_)
        unfold StopO
        have hm12 := rmost_any (xorL ls ls.length) Y cy w11 ht11 (by rw [HX.out]; omega)
        rw [HX.out] at hm12
        refine hm12.mono ?_
        clear hm12
        rintro e w12 ⟨rfl, hb12⟩
        go_wp2
        go_ret
        exact ⟨rfl, hB11.trans (hb12.mono hB11.size)⟩
end Go.Proofs.YtfjmdffhfjnopaaDoor
