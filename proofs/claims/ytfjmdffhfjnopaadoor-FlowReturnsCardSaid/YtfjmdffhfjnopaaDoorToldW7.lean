/- vouchlaw7.FlowHeights: the walk. -/
import Derived.Test.YtfjmdffhfjnopaaDoorAgain7
import Derived.Deep.RegionHeld3
namespace Go.Proofs.YtfjmdffhfjnopaaDoor
open Go.RowKit Vouch Go.Vk Go.Sort
theorem own_cutN {w : World} {B e size g n c : Nat} {xs : List Value} (h : w.ownsRow B e size (.slice (some ⟨g, 0, none⟩) n c) n xs) (k : Nat) (hk : k ≤ n) : w.ownsRow B e size (.slice (some ⟨g, 0, none⟩) k c) k (xs.take (k * size)) := by
  have hle : k * size ≤ n * size := Nat.mul_le_mul_right _ hk
  refine ⟨by rw [List.length_take, h.1]; omega, .inr ?_⟩
  rcases h.2 with ⟨h0, _⟩ | ⟨g', cap, cur, heq, hB, hh, hnc, hcm, hcs, ht⟩
  · cases h0
  · cases heq
    refine ⟨g, c, cur, rfl, hB, hh, by omega, hcm, hcs, ?_⟩
    rw [← ht, List.take_take, Nat.min_eq_left hle]
theorem own_kept2 {w w' : World} {B e size n gt gw : Nat} {v : Value} {xs : List Value} (h : w.ownsRow B e size v n xs) (hk : ∀ (k : Nat) (o : Obj), k ≠ gt → k ≠ gw → w.heap[k]? = some o → w'.heap[k]? = some o) (h1 : gt < B) (h2 : gw < B) : w'.ownsRow B e size v n xs := by
  refine ⟨h.1, ?_⟩
  rcases h.2 with h3 | ⟨g', cap, cur, heq, hB, hh, r⟩
  · exact .inl h3
  · exact .inr ⟨g', cap, cur, heq, hB, hk g' _ (by omega) (by omega) hh, r⟩
set_option maxHeartbeats 2000000 in
set_option maxRecDepth 100000 in
theorem told_any (ls : List Tri) (A : Option Addr) (cA : Nat) (s : Int) (bs : List Int) (B : Option Addr) (cB : Nat) (w : World) (ha : TriAt w A ls) (h0 : A = none → cA = 0) (hb : IntsAt w .u8 B bs) (h1 : B = none → cB = 0) (hz : ∀ z ∈ bs, 0 ≤ z ∧ z < 256) (hl : ls.length ≤ 1048576) (hn : bs.length ≤ 1048576) :
    Calls Tryd.prog 15 #[.slice A ls.length cA, .int .i64 s, .slice B bs.length cB] w fun e w' => e = .returned (.bool true) ∧ Below w.heap.size w w' := by
  obtain ⟨t0, ht0, tz0, tz1, tz2⟩ := info_parts infoType
  obtain ⟨b0, hbi, bz0, bz1, bz2⟩ := info_parts infoByte
  have HA := Lib.hid ha
  have HB := Lib.hid hb
  have HZ := Lib.hid hz
  have HZ0 := Lib.hid (⟨h0, h1⟩ : _ ∧ _)
  have HT1 := Lib.hid (ownT_any ls A cA w ha h0 (by omega))
  clear ha hb hz h0 h1
  go_enter Tryd.func15, Tryd.ntmps15
  go_wp2_with (go_at_call 17; refine stop_o ?_)
  unfold StopO
  refine HT1.out.mono ?_
  rintro e W1 ⟨X1, c1, rfl, hown1, hb1⟩
  have HO1 := Lib.hid (hown1.alloc (.cells #[.int .i64 (-7), .int .i64 0, .int .i64 0, .int .i64 (-8), .int .i64 0, .int .i64 0] 35))
  have hB1 := hb1.alloc hb1.size (.cells #[.int .i64 (-7), .int .i64 0, .int .i64 0, .int .i64 (-8), .int .i64 0, .int .i64 0] 35)
  clear hown1 HT1
  go_wp2_with (at_builtin; refine wpList_append_own _ rfl _ _ 22 rfl w.heap.size 35 t0 (.agg #[.int .i64 0, .int .i64 0, .int .i64 0]) 3 24 Tryd.underlying22 ht0 tz0 tz1 tz2 rfl (by decide) _ _ _ rfl HO1.out ⟨W1.heap.size, 0, none⟩ 2 2 (trCells marksT) rfl rfl ?b1 ?b2 ?b3 ?b4 ?b5 ?_)
  case b1 => exact cells_fresh W1 #[.int .i64 (-7), .int .i64 0, .int .i64 0, .int .i64 (-8), .int .i64 0, .int .i64 0] _ _ rfl
  case b2 => exact trCells_one
  case b3 => unfold maxLen; omega
  case b4 => omega
  case b5 => exact hB1.size
  intro v2 W2 hown2 hgrow2 _
  have hB2 := bel_own hB1 HO1.out (Nat.le_refl _) hgrow2
  rw [← trCells_append] at hown2
  clear hgrow2 HO1 hB1 hb1
  obtain ⟨XT, cT, rfl⟩ := owns_shape hown2
  obtain ⟨gt, rfl⟩ := own_head hown2 (by omega)
  have HO2 := Lib.hid hown2
  have HB2 := Lib.hid hB2
  have HT2 := Lib.hid (own7_any bs B cB W2 (ints_below hB2 HB.out) HZ0.out.2 (by omega))
  clear hown2 hB2
  go_wp2_with (go_at_call 18; refine stop_o ?_)
  unfold StopO
  refine HT2.out.mono ?_
  rintro e W3 ⟨X3, c3, rfl, hown3, hb3⟩
  have HO3 := Lib.hid (hown3.alloc (.cells #[.int .u8 201, .int .u8 202, .int .u8 203, .int .u8 204] 5))
  have hB3 := hb3.alloc hb3.size (.cells #[.int .u8 201, .int .u8 202, .int .u8 203, .int .u8 204] 5)
  clear hown3 HT2
  go_wp2_with (at_builtin; refine wpList_append_own _ rfl _ _ 23 rfl W2.heap.size 5 b0 (.int .u8 0) 1 1 Tryd.underlying23 hbi bz0 bz1 bz2 rfl (by decide) _ _ _ rfl HO3.out ⟨W3.heap.size, 0, none⟩ 4 4 (byteVs marksB) rfl rfl ?d1 ?d2 ?d3 ?d4 ?d5 ?_)
  case d1 => exact cells_fresh W3 #[.int .u8 201, .int .u8 202, .int .u8 203, .int .u8 204] _ _ rfl
  case d2 => exact bytes_one
  case d3 => unfold maxLen; omega
  case d4 => omega
  case d5 => exact hB3.size
  intro v4 W4 hown4 hgrow4 _
  have hB4 := bel_own hB3 HO3.out (Nat.le_refl _) hgrow4
  clear hgrow4 HO3 hB3 hb3
  obtain ⟨XW, cW, rfl⟩ := owns_shape hown4
  obtain ⟨gw, rfl⟩ := own_head hown4 (by omega)
  have hown5 : W4.ownsRow W2.heap.size 5 1 (.slice (some ⟨gw, 0, none⟩) (bs.length + 4) cW) (bs.length + 4) (byteVs (bs ++ marksB)) := by
    unfold byteVs at hown4 ⊢
    rw [List.map_append]
    exact hown4
  have hct := owned_cap HO2.out
  have hcw := owned_cap hown4
  have HB4 := Lib.hid (HB2.out.trans (hB4.mono HB2.out.size))
  have HOT := Lib.hid (own_below HO2.out hB4)
  have HOW := Lib.hid hown5
  have HSZ := Lib.hid (⟨HB2.out.size, hB4.size⟩ : _ ∧ _)
  clear hown4 hown5 hB4 HO2 HB2
  have htt : W4.ownsRow w.heap.size 35 3 (.slice (some ⟨gt, 0, none⟩) ls.length cT) ls.length (trCells ls) := by
    have := own_cutN HOT.out ls.length (by omega)
    rw [trCells_append, ← trCells_length, List.take_left] at this
    exact this
  have hww : W4.ownsRow w.heap.size 5 1 (.slice (some ⟨gw, 0, none⟩) bs.length cW) bs.length (byteVs bs) := by
    have := own_lower (own_cutN HOW.out bs.length (by omega)) HSZ.out.1
    unfold byteVs at this ⊢
    rw [List.map_append, Nat.mul_one, List.take_left' (by simp)] at this
    exact this
  have HH1 := Lib.hid (fun w2 (hb : Below W4.heap.size W4 w2) => heights_tri ls (some ⟨gt, 0, none⟩) cT s bs (some ⟨gw, 0, none⟩) cW w2 (tri_below (tri_owned htt) hb) (ints_below hb (owned_ints hww)) HZ.out hn (owned_cap hww) hl)
  have HTT := Lib.hid (⟨htt, hww⟩ : _ ∧ _)
  have HG := Lib.hid (⟨own_block_lt htt rfl, own_block_lt hww rfl⟩ : gt < W4.heap.size ∧ gw < W4.heap.size)
  clear htt hww
  have k1 : (ls.length : Int) ≤ (cT : Int) := by omega
  have k2 : (bs.length : Int) ≤ (cW : Int) := by omega
  have k3 : (0 : Int) ≤ (ls.length : Int) := by omega
  have k4 : (0 : Int) ≤ (bs.length : Int) := by omega
  go_wp2
  go_region_held3 (fun _ => True) (trivial)
    (first | (go_at_call 16; refine (HH1.out _ (Below.refl _ _).drew).mono ?_; intro e w5 ho1; obtain ⟨L, X5, c5, er, pl, hL, her, hpl, rfl, hown5, hb5⟩ := out_tri ho1; have HE1 := Lib.hid (⟨hL, her, hpl⟩ : _ ∧ _ ∧ _); clear hL her hpl ho1))
  have HB5 := Lib.hid (show Below W4.heap.size W4 w5 from ((Below.refl _ _).drew).trans hb5)
  have HO5 := Lib.hid (show w5.ownsRow W4.heap.size 38 3 (.slice X5 L.length c5) L.length (trCells L) from hown5)
  clear hb5 hown5 HH1 k1 k2 k3 k4
  have HT5 := Lib.hid (ownT_any ls A cA w5 (tri_below HA.out (HB4.out.trans (HB5.out.mono HB4.out.size))) HZ0.out.1 (by omega))
  go_wp2_with (go_at_call 17; refine stop_o ?_)
  unfold StopO
  refine HT5.out.mono ?_
  rintro e W6 ⟨X6, c6, rfl, hown6, hb6⟩
  have HO6 := Lib.hid (tri_owned hown6)
  have HB6 := Lib.hid (HB5.out.trans (hb6.mono HB5.out.size))
  have HO5b := Lib.hid (own_below HO5.out hb6)
  clear HT5 hown6 hb6 HO5 HB5
  have HT6 := Lib.hid (own7_any bs B cB W6 (ints_below (HB4.out.trans (HB6.out.mono HB4.out.size)) HB.out) HZ0.out.2 (by omega))
  go_wp2_with (go_at_call 18; refine stop_o ?_)
  unfold StopO
  refine HT6.out.mono ?_
  rintro e W7 ⟨X7, c7, rfl, hown7, hb7⟩
  have HB7 := Lib.hid (HB6.out.trans (hb7.mono HB6.out.size))
  have HO5 := Lib.hid (own_below HO5b.out hb7)
  have HH7 := Lib.hid (rheights_tri ls X6 c6 s bs X7 c7 W7 (tri_below HO6.out hb7) (owned_ints hown7) HZ.out hn (owned_cap hown7) hl)
  clear HT6 hown7 hb7 HO5b HB6 HO6
  go_wp2_with (go_at_call 33; refine stop_o ?_)
  unfold StopO
  refine HH7.out.mono ?_
  intro e W8 ho8
  obtain ⟨L', X8, c8, er', pl', hL, her, hpl, rfl, hown8, hb8⟩ := out_tri ho8
  obtain ⟨a1, a2, a3⟩ := HE1.out
  have hLn : L'.length ≤ 140737488355328 := by rw [hL]; have := hgTri_len bs (heightsE (ls.map triTy) s bs).1; omega
  have e1 : L' = L := by rw [hL, a1]
  have e2 : er' = er := by rw [her, a2]
  have e3 : pl' = pl := by rw [hpl, a3]
  clear hL her hpl a1 a2 a3 ho8 HH7 HE1
  subst e1 e2 e3
  have HB8 := Lib.hid (HB7.out.trans (hb8.mono HB7.out.size))
  have HR8 := Lib.hid (⟨own_below HO5.out hb8, own_lower hown8 HB7.out.size⟩ : W8.ownsRow W4.heap.size 38 3 (.slice X5 L'.length c5) L'.length (trCells L') ∧ W8.ownsRow W4.heap.size 38 3 (.slice X8 L'.length c8) L'.length (trCells L'))
  have HS := Lib.hid (fun w2 (h : w2.ownsRow W4.heap.size 38 3 (.slice X5 L'.length c5) L'.length (trCells L')) (h2 : w2.ownsRow W4.heap.size 38 3 (.slice X8 L'.length c8) L'.length (trCells L')) => same7_eq L' X5 X8 c5 c8 w2 (tri_owned h) (tri_owned h2) hLn)
  clear hown8 hb8 HB7 HO5
  go_wp2_with (go_at_call 26; refine stop_o ?_)
  unfold StopO
  refine (HS.out W8 HR8.out.1 HR8.out.2).mono ?_
  rintro e W9 ⟨rfl, hb9⟩
  have HB9 := Lib.hid (HB8.out.trans (hb9.mono HB8.out.size))
  have HR9 := Lib.hid (⟨own_below HR8.out.1 hb9, own_below HR8.out.2 hb9⟩ : W9.ownsRow W4.heap.size 38 3 (.slice X5 L'.length c5) L'.length (trCells L') ∧ W9.ownsRow W4.heap.size 38 3 (.slice X8 L'.length c8) L'.length (trCells L'))
  clear hb9 HB8 HR8
  have HST := Lib.hid (fun w2 (hb : Below W9.heap.size W9 w2) => (by
    have hb4 : Below W4.heap.size W4 w2 := HB9.out.trans (hb.mono HB9.out.size)
    have h1 := tri_owned (ls := ls ++ marksT) (c := cT) (X := some ⟨gt, 0, none⟩) (by rw [List.length_append]; exact own_below HOT.out hb4)
    have h2 := owned_ints (zs := bs ++ marksB) (c := cW) (X := some ⟨gw, 0, none⟩) (by rw [List.length_append]; exact own_below HOW.out hb4)
    exact stay_any ls bs (some ⟨gt, 0, none⟩) A (some ⟨gw, 0, none⟩) B cT cA cW cB w2 h1 (tri_below HA.out (HB4.out.trans (hb4.mono HB4.out.size))) h2 (ints_below (HB4.out.trans (hb4.mono HB4.out.size)) HB.out) hl hn))
  have HAG := Lib.hid (fun w2 (hb : Below W9.heap.size W9 w2) => again_any ls s bs gt gw cT cW w.heap.size w2 (own_below HTT.out.1 (HB9.out.trans (hb.mono HB9.out.size))) (own_below HTT.out.2 (HB9.out.trans (hb.mono HB9.out.size))) HZ.out hl hn ((HB4.out.trans (HB9.out.mono HB4.out.size)).trans (hb.mono (HB4.out.trans (HB9.out.mono HB4.out.size)).size)).size)
  have k1 : (ls.length : Int) ≤ (cT : Int) := by omega
  have k2 : (bs.length : Int) ≤ (cW : Int) := by omega
  have k3 : (0 : Int) ≤ (ls.length : Int) := by omega
  have k4 : (0 : Int) ≤ (bs.length : Int) := by omega
  go_wp2
  go_region_held3 (fun _ => True) (trivial)
    (first
      | (go_at_call 32; refine (HST.out _ (Below.refl _ _).drew).mono ?_; rintro e wA ⟨rfl, hbA⟩)
      | (go_at_call 34; refine (HAG.out _ ((Below.refl _ _).drew.trans hbA)).mono ?_; rintro e wB ⟨rfl, hbB, hkB⟩)
      | (go_at_call 26; refine (HS.out _ (own_kept2 (own_below HR9.out.1 ((Below.refl _ _).drew.trans hbA)) hkB HG.out.1 HG.out.2) (own_kept2 (own_below HR9.out.2 ((Below.refl _ _).drew.trans hbA)) hkB HG.out.1 HG.out.2)).mono ?_; rintro e wC ⟨rfl, hbC⟩))
  have HF : Hid (Below w.heap.size w wC) := Lib.hid (by
    have b9 : Below w.heap.size w W9 := HB4.out.trans (HB9.out.mono HB4.out.size)
    have bA : Below w.heap.size w wA := b9.trans (((Below.refl _ _).drew.trans hbA).mono b9.size)
    have bB := bA.trans hbB
    exact bB.trans (hbC.mono bB.size))
  clear hbA hbB hbC hkB
  go_wp2
  go_ret
  exact ⟨rfl, HF.out⟩
set_option maxHeartbeats 2000000 in
set_option maxRecDepth 100000 in
theorem heights_walk (A : Option Addr) (capT : Nat) (ls : List Tri) (s : Int) (B : Option Addr) (capB : Nat) (bs : List Int) (w : World) (ht : TriAt w A ls) (h0 : A = none → capT = 0) (hn : ls.length ≤ 140737488351232) (_ws : (Lit.int .i64 s).wf = true)
    (hc : IntsAt w .u8 B bs) (hz : ∀ n ∈ bs, (Lit.int .u8 n).wf = true) (_hcap : bs.length ≤ capB) (hb0 : B = none → capB = 0) (hbn : bs.length ≤ 140737488351232) :
    Calls Tryd.prog 3 #[.slice A ls.length capT, .int .i64 s, .slice B bs.length capB] w fun e w' => e = .returned (.bool true) ∧ Below w.heap.size w w' := by
  have hwr : wrap64 ((ls.length : Int) + (bs.length : Int)) = (ls.length : Int) + (bs.length : Int) := by simp only [wrap64]; omega
  by_cases big : 1048576 < ls.length + bs.length
  · have h1 : (1048576 : Int) < (ls.length : Int) + (bs.length : Int) := by omega
    clear ht h0 hc hb0 hz _ws _hcap big
    go_enter Tryd.func3, Tryd.ntmps3
    go_wp2_with (go_at_call 14; refine stop_o ?_)
    unfold StopO
    refine (able_any _).mono ?_
    rintro e w1 ⟨rfl, hb1⟩
    go_wp2
    go_ret
    exact ⟨rfl, hb1⟩
  · have h1 : ¬ (1048576 : Int) < (ls.length : Int) + (bs.length : Int) := by omega
    have HT := Lib.hid (fun w1 (hb : Below w.heap.size w w1) => told_any ls A capT s bs B capB w1 (tri_below ht hb) h0 (ints_below hb hc) hb0 (fun z h => byte_wf (hz z h)) (by omega) (by omega))
    clear ht h0 hc hb0 hz _ws _hcap big
    go_enter Tryd.func3, Tryd.ntmps3
    go_wp2_with (go_at_call 14; refine stop_o ?_)
    unfold StopO
    refine (able_any _).mono ?_
    rintro e w1 ⟨rfl, hb1⟩
    go_wp2_with (go_at_call 15; refine stop_o ?_)
    unfold StopO
    refine (HT.out w1 hb1).mono ?_
    rintro e w2 ⟨rfl, hb2⟩
    go_wp2
    go_ret
    exact ⟨rfl, hb1.trans (hb2.mono hb1.size)⟩
end Go.Proofs.YtfjmdffhfjnopaaDoor
