/- vouchlaw7.FlowStraight: the walk. -/
import Derived.Test.YtfjmdffhfjnopaaDoorFlowL
import Derived.Test.YtfjmdffhfjnopaaDoorFlowG
import Derived.Test.YtfjmdffhfjnopaaDoorGen
namespace Vouch
open Go.Vk Go.Proofs.YtfjmdffhfjnopaaDoor
def wantT (us : List Bool) (n : Nat) : List Tri := (List.range n).map fun k : Nat => ((k : Int), sumU us k, sumU us k)
theorem wantT_length (us : List Bool) (n : Nat) : (wantT us n).length = n := by simp [wantT]
theorem wantT_succ (us : List Bool) (n : Nat) : wantT us (n + 1) = wantT us n ++ [((n : Int), sumU us n, sumU us n)] := by
  unfold wantT
  rw [List.range_succ, List.map_append]
  rfl
theorem hgTri_straight (us : List Bool) : hgTri (allI (straightB us)) (wantU us (us.length + 1)) = wantT us (us.length + 1) := by
  rw [allI_straight]
  unfold hgTri listS wantU wantT
  rw [List.zip_map', List.map_map]
  rfl
theorem sumU_bound (us : List Bool) : ∀ k : Nat, -(k : Int) ≤ sumU us k ∧ sumU us k ≤ k
  | 0 => by simp [sumU]
  | k + 1 => by
    have := sumU_bound us k
    unfold sumU
    split <;> omega
theorem badU_off {us : List Bool} {k : Nat} (h : (badU us k).1 ≠ 0) : badU us (k + 1) = badU us k := by
  conv => lhs; unfold badU
  rw [if_pos h]
theorem badU_low {us : List Bool} {k : Nat} (h : (badU us k).1 = 0) (hs : sumU us (k + 1) < 0) : badU us (k + 1) = (70, (k : Int)) := by
  conv => lhs; unfold badU
  rw [if_neg (by simpa using h), if_pos hs]
theorem badU_high {us : List Bool} {k : Nat} (h : (badU us k).1 = 0) (hs : 1023 < sumU us (k + 1)) : badU us (k + 1) = (71, (k : Int)) := by
  conv => lhs; unfold badU
  rw [if_neg (by simpa using h), if_neg (by omega), if_pos hs]
theorem badU_fine {us : List Bool} {k : Nat} (h : (badU us k).1 = 0) (hs : 0 ≤ sumU us (k + 1)) (hs2 : sumU us (k + 1) ≤ 1023) : badU us (k + 1) = (0, 0) := by
  conv => lhs; unfold badU
  rw [if_neg (by simpa using h), if_neg (by omega), if_neg (by omega)]
theorem ups_succ {us : List Bool} {k : Nat} (h : k < us.length) : (us.map upC).take (k + 1) = (us.map upC).take k ++ [upC (us.getD k false)] := by
  rw [List.take_add_one, List.getElem?_map, List.getElem?_eq_getElem h, List.getD_eq_getElem?_getD, List.getElem?_eq_getElem h]
  rfl
end Vouch
namespace Go.Proofs.YtfjmdffhfjnopaaDoor
open Go.RowKit Vouch Go.Vk Go.Sort
theorem upC_byte (us : List Bool) : ∀ z ∈ straightB us, 0 ≤ z ∧ z < 256 := by
  intro z hz
  unfold straightB at hz
  rcases List.mem_append.1 hz with h | h
  · obtain ⟨u, _, rfl⟩ := List.mem_map.1 h
    unfold upC
    split <;> omega
  · rw [List.mem_singleton.1 h]
    omega
/-- What the loop knows. -/
def SRel (us : List Bool) (w : World) (k : Nat) (vb vn vbad vat vw vi : Value) (wr : World) : Prop :=
  vi = .int .i64 k ∧ k ≤ us.length ∧ vn = .int .i64 (sumU us k) ∧ vbad = .int .i64 (badU us k).1 ∧ vat = .int .i64 (badU us k).2 ∧
  wr.ownsRow w.heap.size 5 1 vb k (byteVs ((us.map upC).take k)) ∧ wr.ownsRow w.heap.size 38 3 vw k (trCells (wantT us k)) ∧ Below w.heap.size w wr
set_option maxHeartbeats 2000000 in
set_option maxRecDepth 100000 in
theorem straight_walk (A : Option Addr) (cap : Nat) (ups : List Bool) (w : World) (ha : BoolsAt w A ups) (_h0 : A = none → cap = 0) (hn : ups.length ≤ 140737488351232) :
    Calls Tryd.prog 8 #[.slice A ups.length cap] w fun e w' => e = .returned (.bool true) ∧ Below w.heap.size w w' := by
  obtain ⟨i0, hi, hz0, hz1, hz2⟩ := info_parts infoByte
  obtain ⟨j0, gi, gz0, gz1, gz2⟩ := info_parts infoHeight
  have HC := Lib.hid ha
  clear ha
  have HU : Hid (∀ k, k < (ups.take 5000).length → (ups.take 5000).getD k false = ups.getD k false) := Lib.hid fun k hk => by
    rw [List.length_take] at hk
    rw [List.getD_eq_getElem?_getD, List.getElem?_take, if_pos (by omega), ← List.getD_eq_getElem?_getD]
  have hl : (ups.take 5000).length = min 5000 ups.length := List.length_take
  generalize ups.take 5000 = us at HU hl
  have HL := Lib.hid hl
  have hus : us.length ≤ 5000 := by omega
  clear hl
  go_enter Tryd.func8, Tryd.ntmps8
  go_wp2_with (go_at_call 14; refine (able_any _).mono ?_; rintro e w1 ⟨rfl, hb1⟩)
  go_loopw [3, 4, 5, 6, 7, 8] (fun vb vn vbad vat vw vi wr => ∃ k : Nat, SRel us w k vb vn vbad vat vw vi wr) (fun _ _ _ _ _ vi _ => us.length - (intOf vi).toNat)
  case atStart => exact ⟨0, rfl, Nat.zero_le _, rfl, rfl, rfl, by simpa [byteVs] using World.ownsRow_nil w1 w.heap.size 5 1, by simpa [wantT, trCells] using World.ownsRow_nil w1 w.heap.size 38 3, hb1⟩
  case round =>
    obtain ⟨k, rfl, hk, rfl, rfl, rfl, ob, ow, hB⟩ := hrel
    have hsb := sumU_bound us k
    have hsb2 := sumU_bound us (k + 1)
    by_cases hlt : k < us.length
    · have h1 : (k : Int) < (ups.length : Int) := by have := HL.out; omega
      have h2 : (k : Int) < 5000 := by omega
      obtain ⟨x, rfl, hx⟩ := HC.out k (by have := HL.out; omega)
      have hxr := cell_later hB hx
      have HS : Hid (sumU us (k + 1) = sumU us k + (if ups.getD k false then 1 else -1)) := Lib.hid (by rw [← HU.out k hlt]; rfl)
      have HBY : Hid (byteVs ((us.map upC).take (k + 1)) = byteVs ((us.map upC).take k) ++ [.int .u8 (upC (ups.getD k false))]) := Lib.hid (by
        rw [ups_succ hlt, HU.out k hlt]; simp [byteVs])
      have HWT : Hid (trCells (wantT us (k + 1)) = trCells (wantT us k) ++ trCells [((k : Int), sumU us k, sumU us k)]) := Lib.hid (by rw [wantT_succ, trCells_append])
      have HOFF := Lib.hid (@badU_off us k)
      have HLOW := Lib.hid (@badU_low us k)
      have HHIGH := Lib.hid (@badU_high us k)
      have HFINE := Lib.hid (@badU_fine us k)
      have HOK := Lib.hid (@badU_ok us k)
      generalize ups.getD k false = u at hx hxr HS HBY
      generalize hs0 : sumU us k = s at *
      generalize hs1 : sumU us (k + 1) = s' at *
      have HREL : Hid (∀ vb vn vbad vat vw vi wr, vi = .int .i64 ((k : Int) + 1) → vn = .int .i64 s' → vbad = .int .i64 (badU us (k + 1)).1 → vat = .int .i64 (badU us (k + 1)).2 →
          wr.ownsRow w.heap.size 5 1 vb (k + 1) (byteVs ((us.map upC).take (k + 1))) → wr.ownsRow w.heap.size 38 3 vw (k + 1) (trCells (wantT us (k + 1))) → Below w.heap.size w wr → SRel us w (k + 1) vb vn vbad vat vw vi wr) :=
        Lib.hid fun vb vn vbad vat vw vi wr e1 e2 e3 e4 e5 e6 e7 => ⟨by rw [e1]; congr 1, hlt, by rw [e2, hs1], e3, e4, e5, e6, e7⟩
      clear hs0 hs1
      generalize badU us k = bd at *
      obtain ⟨b, at_⟩ := bd
      dsimp only at *
      have hBa := hB.alloc hB.size (.cells #[.int .i64 k, .int .i64 s, .int .i64 s] 38)
      have OW := Lib.hid (ow.alloc (.cells #[.int .i64 k, .int .i64 s, .int .i64 s] 38))
      have OB := Lib.hid (ob.alloc (.cells #[.int .i64 k, .int .i64 s, .int .i64 s] 38))
      clear ob ow
      go_wp2_with (at_builtin; refine wpList_append_own _ rfl _ _ 26 rfl w.heap.size 38 j0 (.agg #[.int .i64 0, .int .i64 0, .int .i64 0]) 3 24 Tryd.underlying26 gi gz0 gz1 gz2 rfl (by decide) _ _ _ rfl OW.out ⟨wr.heap.size, 0, none⟩ 1 1 (trCells [((k : Int), s, s)]) rfl rfl ?b1 ?b2 ?b3 ?b4 ?b5 ?_)
      case b1 => exact cells_fresh wr #[.int .i64 k, .int .i64 s, .int .i64 s] _ _ rfl
      case b2 => exact trCells_one
      case b3 => unfold maxLen; omega
      case b4 => omega
      case b5 => exact hBa.size
      intro v2 w2 ow2 hgrow2 _
      have hB2 := bel_own hBa OW.out (Nat.le_refl _) hgrow2
      have ob2 := own_grow OB.out OW.out (by decide) hgrow2
      have hx2 := cell_later hB2 hx
      rw [← HWT.out] at ow2
      clear hgrow2 OW OB HWT hBa hB hxr hx HC
      cases u
      · have hs : s' = s - 1 := by rw [HS.out]; simp; try omega
        subst hs
        have hby : byteVs ((us.map upC).take (k + 1)) = byteVs ((us.map upC).take k) ++ [.int .u8 80] := HBY.out
        have HBYE := Lib.hid hby
        have hBb := hB2.alloc hB2.size (.cells #[.int .u8 80] 5)
        have OW3 := Lib.hid (ow2.alloc (.cells #[.int .u8 80] 5))
        have OB3 := Lib.hid (ob2.alloc (.cells #[.int .u8 80] 5))
        clear hby ow2 ob2 HS HBY
        go_wp2_with (at_builtin; refine wpList_append_own _ rfl _ _ 23 rfl w.heap.size 5 i0 (.int .u8 0) 1 1 Tryd.underlying23 hi hz0 hz1 hz2 rfl (by decide) _ _ _ rfl OB3.out ⟨w2.heap.size, 0, none⟩ 1 1 [.int .u8 80] rfl rfl ?a1 ?a2 ?a3 ?a4 ?a5 ?_)
        case a1 => exact cells_fresh w2 #[.int .u8 80] _ _ rfl
        case a2 => intro u hu; simp at hu; subst hu; rfl
        case a3 => unfold maxLen; omega
        case a4 => omega
        case a5 => exact hBb.size
        intro v4 w4 ob4 hgrow4 _
        have hB4 := bel_own hBb OB3.out (Nat.le_refl _) hgrow4
        have ow4 := own_grow OW3.out OB3.out (by decide) hgrow4
        rw [← HBYE.out] at ob4
        have OB4 := Lib.hid ob4
        have OW4 := Lib.hid ow4
        clear hgrow4 OW3 OB3 HBYE hBb hB2 ob4 ow4 hx2
        by_cases hb0 : b = 0
        · subst hb0
          obtain ⟨hbat, _, _⟩ := HOK.out rfl
          obtain ⟨_, rfl⟩ := Prod.mk.inj hbat
          clear hbat HOK HOFF
          by_cases hlow : s - 1 < 0
          · have HE := Lib.hid (HLOW.out rfl hlow)
            clear HLOW HHIGH HFINE
            go_wp2
            exact ⟨⟨k + 1, HREL.out _ _ _ _ _ _ _ rfl rfl (by rw [HE.out]) (by rw [HE.out]) OB4.out OW4.out hB4⟩, by simp [intOf]; omega⟩
          · by_cases hhigh : 1023 < s - 1
            · have HE := Lib.hid (HHIGH.out rfl hhigh)
              clear HLOW HHIGH HFINE
              go_wp2
              exact ⟨⟨k + 1, HREL.out _ _ _ _ _ _ _ rfl rfl (by rw [HE.out]) (by rw [HE.out]) OB4.out OW4.out hB4⟩, by simp [intOf]; omega⟩
            · have HE := Lib.hid (HFINE.out rfl (by omega) (by omega))
              clear HLOW HHIGH HFINE
              go_wp2
              exact ⟨⟨k + 1, HREL.out _ _ _ _ _ _ _ rfl rfl (by rw [HE.out]) (by rw [HE.out]) OB4.out OW4.out hB4⟩, by simp [intOf]; omega⟩
        · have hb1 : (b == 0) = false := by rw [beq_eq_false_iff_ne]; exact hb0
          have HE := Lib.hid (HOFF.out hb0)
          clear HLOW HHIGH HFINE HOK HOFF
          go_wp2
          exact ⟨⟨k + 1, HREL.out _ _ _ _ _ _ _ rfl rfl (by rw [HE.out]) (by rw [HE.out]) OB4.out OW4.out hB4⟩, by simp [intOf]; omega⟩
      · have hs : s' = s + 1 := by rw [HS.out]; simp; try omega
        subst hs
        have hby : byteVs ((us.map upC).take (k + 1)) = byteVs ((us.map upC).take k) ++ [.int .u8 95] := HBY.out
        have HBYE := Lib.hid hby
        have hBb := hB2.alloc hB2.size (.cells #[.int .u8 95] 5)
        have OW3 := Lib.hid (ow2.alloc (.cells #[.int .u8 95] 5))
        have OB3 := Lib.hid (ob2.alloc (.cells #[.int .u8 95] 5))
        clear hby ow2 ob2 HS HBY
        go_wp2_with (at_builtin; refine wpList_append_own _ rfl _ _ 23 rfl w.heap.size 5 i0 (.int .u8 0) 1 1 Tryd.underlying23 hi hz0 hz1 hz2 rfl (by decide) _ _ _ rfl OB3.out ⟨w2.heap.size, 0, none⟩ 1 1 [.int .u8 95] rfl rfl ?a1 ?a2 ?a3 ?a4 ?a5 ?_)
        case a1 => exact cells_fresh w2 #[.int .u8 95] _ _ rfl
        case a2 => intro u hu; simp at hu; subst hu; rfl
        case a3 => unfold maxLen; omega
        case a4 => omega
        case a5 => exact hBb.size
        intro v4 w4 ob4 hgrow4 _
        have hB4 := bel_own hBb OB3.out (Nat.le_refl _) hgrow4
        have ow4 := own_grow OW3.out OB3.out (by decide) hgrow4
        rw [← HBYE.out] at ob4
        have OB4 := Lib.hid ob4
        have OW4 := Lib.hid ow4
        clear hgrow4 OW3 OB3 HBYE hBb hB2 ob4 ow4 hx2
        by_cases hb0 : b = 0
        · subst hb0
          obtain ⟨hbat, _, _⟩ := HOK.out rfl
          obtain ⟨_, rfl⟩ := Prod.mk.inj hbat
          clear hbat HOK HOFF
          by_cases hlow : s + 1 < 0
          · have HE := Lib.hid (HLOW.out rfl hlow)
            clear HLOW HHIGH HFINE
            go_wp2
            exact ⟨⟨k + 1, HREL.out _ _ _ _ _ _ _ rfl rfl (by rw [HE.out]) (by rw [HE.out]) OB4.out OW4.out hB4⟩, by simp [intOf]; omega⟩
          · by_cases hhigh : 1023 < s + 1
            · have HE := Lib.hid (HHIGH.out rfl hhigh)
              clear HLOW HHIGH HFINE
              go_wp2
              exact ⟨⟨k + 1, HREL.out _ _ _ _ _ _ _ rfl rfl (by rw [HE.out]) (by rw [HE.out]) OB4.out OW4.out hB4⟩, by simp [intOf]; omega⟩
            · have HE := Lib.hid (HFINE.out rfl (by omega) (by omega))
              clear HLOW HHIGH HFINE
              go_wp2
              exact ⟨⟨k + 1, HREL.out _ _ _ _ _ _ _ rfl rfl (by rw [HE.out]) (by rw [HE.out]) OB4.out OW4.out hB4⟩, by simp [intOf]; omega⟩
        · have hb1 : (b == 0) = false := by rw [beq_eq_false_iff_ne]; exact hb0
          have HE := Lib.hid (HOFF.out hb0)
          clear HLOW HHIGH HFINE HOK HOFF
          go_wp2
          exact ⟨⟨k + 1, HREL.out _ _ _ _ _ _ _ rfl rfl (by rw [HE.out]) (by rw [HE.out]) OB4.out OW4.out hB4⟩, by simp [intOf]; omega⟩
    · obtain rfl : k = us.length := by omega
      have hstr := heightsE_straight us
      have hsame : byteVs (straightB us) = byteVs ((us.map upC).take us.length) ++ [.int .u8 0] := by
        rw [List.take_of_length_le (by simp)]
        simp [straightB, byteVs]
      have HSAME := Lib.hid hsame
      have HWT : Hid (trCells (wantT us (us.length + 1)) = trCells (wantT us us.length) ++ trCells [((us.length : Int), sumU us us.length, sumU us us.length)]) := Lib.hid (by rw [wantT_succ, trCells_append])
      have HSTR := Lib.hid hstr
      have HOK := Lib.hid (@badU_ok us us.length)
      generalize hs0 : sumU us us.length = s at *
      generalize badU us us.length = bd at *
      obtain ⟨b, at_⟩ := bd
      dsimp only at *
      have hor : (ups.length : Int) ≤ (us.length : Int) ∨ (us.length : Int) < (ups.length : Int) ∧ (5000 : Int) ≤ (us.length : Int) := by have := HL.out; omega
      have hbl := straight_length us
      clear hsame hstr hs0 hk hlt HL HU hsb hsb2
      obtain ⟨Xb0, cb0, rfl⟩ := owns_shape ob
      have hBa := hB.alloc hB.size (.cells #[.int .i64 us.length, .int .i64 s, .int .i64 s] 38)
      have OW := Lib.hid (ow.alloc (.cells #[.int .i64 us.length, .int .i64 s, .int .i64 s] 38))
      have OB := Lib.hid (ob.alloc (.cells #[.int .i64 us.length, .int .i64 s, .int .i64 s] 38))
      clear ob ow hB
      rcases hor with hor | ⟨hor, hor2⟩
      all_goals
        go_wp2_with (at_builtin; refine wpList_append_own _ rfl _ _ 26 rfl w.heap.size 38 j0 (.agg #[.int .i64 0, .int .i64 0, .int .i64 0]) 3 24 Tryd.underlying26 gi gz0 gz1 gz2 rfl (by decide) _ _ _ rfl OW.out ⟨wr.heap.size, 0, none⟩ 1 1 (trCells [((us.length : Int), s, s)]) rfl rfl (cells_fresh wr #[.int .i64 us.length, .int .i64 s, .int .i64 s] _ _ rfl) trCells_one (by unfold maxLen; omega) (by omega) hBa.size ?_)
        intro v2 w2 ow2 hgrow2 _
        have hB2 := bel_own hBa OW.out (Nat.le_refl _) hgrow2
        have ob2 := own_grow OB.out OW.out (by decide) hgrow2
        rw [← HWT.out] at ow2
        have hBb := hB2.alloc hB2.size (.cells #[.int .u8 0] 5)
        have OW3 := Lib.hid (ow2.alloc (.cells #[.int .u8 0] 5))
        have OB3 := Lib.hid (ob2.alloc (.cells #[.int .u8 0] 5))
        clear hgrow2 OW OB HWT hBa hB2 ow2 ob2
        go_wp2_with (at_builtin; refine wpList_append_own _ rfl _ _ 23 rfl w.heap.size 5 i0 (.int .u8 0) 1 1 Tryd.underlying23 hi hz0 hz1 hz2 rfl (by decide) _ _ _ rfl OB3.out ⟨w2.heap.size, 0, none⟩ 1 1 [.int .u8 0] rfl rfl (cells_fresh w2 #[.int .u8 0] _ _ rfl) (by intro u hu; simp at hu; subst hu; rfl) (by unfold maxLen; omega) (by omega) hBb.size ?_)
        intro v4 w4 ob4 hgrow4 _
        have hB4 := bel_own hBb OB3.out (Nat.le_refl _) hgrow4
        have ow4 := own_grow OW3.out OB3.out (by decide) hgrow4
        rw [← HSAME.out] at ob4
        have hB5 := hB4.alloc hB4.size (.cells (trCells [((0 : Int), 128, 0)]).toArray 35)
        have ht5 := tri_lit (heap_alloc_new w4 (.cells (trCells [((0 : Int), 128, 0)]).toArray 35))
        obtain ⟨Xb, cb, rfl⟩ := owns_shape ob4
        obtain ⟨Xw, cw, rfl⟩ := owns_shape ow4
        have ob5 := own_below ob4 ((Below.refl w4.heap.size w4).alloc (Nat.le_refl _) (.cells (trCells [((0 : Int), 128, 0)]).toArray 35))
        have ow5 := own_below ow4 ((Below.refl w4.heap.size w4).alloc (Nat.le_refl _) (.cells (trCells [((0 : Int), 128, 0)]).toArray 35))
        clear hgrow4 OW3 OB3 HSAME hBb ob4 ow4 hB4
        go_wp2_with (go_at_call 16; refine stop_o ?_)
        unfold StopO
        have ob6 : (w4.alloc (.cells (trCells [((0 : Int), 128, 0)]).toArray 35)).ownsRow w.heap.size 5 1 (.slice Xb (straightB us).length cb) (straightB us).length (byteVs (straightB us)) := by rw [hbl]; exact ob5
        have hH := heights_any [ownS] _ 1 0 (straightB us) Xb cb _ (tys_of_tri (ts := [ownS]) ht5) (owned_ints ob6) (upC_byte us) (by omega) (owned_cap ob6) (by decide)
        rw [hbl] at hH
        have HO5 := Lib.hid ow5
        clear ob5 ow5 ht5 ob6
        refine hH.mono ?_
        unfold HeightsOut
        rw [HSTR.out]
        clear hH HSTR
        by_cases hb0 : b = 0
        · subst hb0
          obtain ⟨hbat, _, _⟩ := HOK.out rfl
          obtain ⟨_, rfl⟩ := Prod.mk.inj hbat
          rw [if_pos rfl]
          rintro e w6 ⟨v, rfl, oh, hb6⟩
          dsimp only at oh ⊢
          rw [hgCells_tri, hgTri_straight, wantU_length] at oh
          obtain ⟨Xh, ch, rfl⟩ := owns_shape oh
          have hB6 := hB5.trans (hb6.mono hB5.size)
          have t1 : TriAt w6 Xh (wantT us (us.length + 1)) := tri_owned (by rw [wantT_length]; exact oh)
          have t2 : TriAt w6 Xw (wantT us (us.length + 1)) := tri_owned (by rw [wantT_length]; exact own_below HO5.out hb6)
          have hsm := same7_eq (wantT us (us.length + 1)) Xh Xw ch cw w6 t1 t2 (by rw [wantT_length]; omega)
          rw [wantT_length] at hsm
          have HSM := Lib.hid hsm
          clear hsm t1 t2 oh HO5 hb6 hB5 HOK hbat
          go_wp2_with (go_at_call 26; refine stop_o ?_)
          unfold StopO
          refine HSM.out.mono ?_
          rintro e w7 ⟨rfl, hb7⟩
          go_wp2
          go_ret
          exact ⟨rfl, hB6.trans (hb7.mono hB6.size)⟩
        · have hb1 : (b == 0) = false := by rw [beq_eq_false_iff_ne]; exact hb0
          have hb2 : (b != 0) = true := by rw [bne_iff_ne]; exact hb0
          rw [if_neg hb0]
          rintro e w6 ⟨v, rfl, oh, hb6⟩
          dsimp only at oh ⊢
          obtain ⟨Xh, ch, rfl⟩ := owns_shape oh
          have hB6 := hB5.trans (hb6.mono hB5.size)
          clear oh HO5 hb6 hB5 HOK
          go_wp2
          go_ret
          exact ⟨rfl, hB6⟩
end Go.Proofs.YtfjmdffhfjnopaaDoor
