/- vouchlaw7.FlowMoved: the walk. -/
import Derived.Test.YtfjmdffhfjnopaaDoorFlowH
namespace Vouch
open Go.Vk Go.Proofs.YtfjmdffhfjnopaaDoor
theorem hgTri_nop (bs : List Int) (o : Int × Int) (hs : List (Int × Int)) : hgTri (allI (91 :: bs)) (o :: hs) = (0, o.1, o.2) :: (hgTri (allI bs) hs).map fun t => (t.1 + 1, t.2.1, t.2.2) := by
  rw [allI_nop]
  unfold hgTri
  rw [List.zip_cons_cons, List.map_cons, List.zip_map_left, List.map_map, List.map_map]
  rfl
theorem hgTri_length {l : List Ins} {hs : List (Int × Int)} (h : hs.length = l.length) : (hgTri l hs).length = hs.length := by simp [hgTri, h]
theorem hgTri_at {l : List Ins} {hs : List (Int × Int)} {k : Nat} (h : hs.length = l.length) (hk : k < l.length) : (hgTri l hs).getD k zeroTri = ((l.getD k zeroI).at_, (hs.getD k (0, 0)).1, (hs.getD k (0, 0)).2) := by
  have hk2 : k < hs.length := by omega
  unfold hgTri
  have hz : (l.zip hs)[k]? = some (l[k], hs[k]) := List.getElem?_zip_eq_some.2 ⟨List.getElem?_eq_getElem hk, List.getElem?_eq_getElem hk2⟩
  rw [List.getD_eq_getElem?_getD, List.getElem?_map, hz, List.getD_eq_getElem?_getD, List.getD_eq_getElem?_getD, List.getElem?_eq_getElem hk, List.getElem?_eq_getElem hk2]
  rfl
end Vouch
namespace Go.Proofs.YtfjmdffhfjnopaaDoor
open Go.RowKit Vouch Go.Vk Go.Sort
set_option maxHeartbeats 2000000 in
set_option maxRecDepth 100000 in
theorem moved_walk (A : Option Addr) (capT : Nat) (ls : List Tri) (s : Int) (B : Option Addr) (capB : Nat) (bs : List Int) (w : World) (ht : TriAt w A ls) (h0 : A = none → capT = 0) (hn : ls.length ≤ 140737488351232) (_ws : (Lit.int .i64 s).wf = true)
    (hc : IntsAt w .u8 B bs) (hz : ∀ n ∈ bs, (Lit.int .u8 n).wf = true) (_hcap : bs.length ≤ capB) (hb0 : B = none → capB = 0) (hbn : bs.length ≤ 140737488351232) :
    Calls Tryd.prog 6 #[.slice A ls.length capT, .int .i64 s, .slice B bs.length capB] w fun e w' => e = .returned (.bool true) ∧ Below w.heap.size w w' := by
  have hwr : wrap64 ((ls.length : Int) + (bs.length : Int)) = (ls.length : Int) + (bs.length : Int) := by simp only [wrap64]; omega
  by_cases big : 1048576 < ls.length + bs.length
  · have h1 : (1048576 : Int) < (ls.length : Int) + (bs.length : Int) := by omega
    go_enter Tryd.func6, Tryd.ntmps6
    go_wp2
    go_ret
    exact ⟨rfl, Below.refl _ _⟩
  have h1 : ¬ (1048576 : Int) < (ls.length : Int) + (bs.length : Int) := by omega
  obtain ⟨i0, hi, hz0, hz1, hz2⟩ := info_parts infoByte
  have HT := Lib.hid ht
  have HT0 := Lib.hid h0
  have HC := Lib.hid hc
  have HB0 := Lib.hid (ints_none hc hb0)
  have HB := Lib.hid hb0
  have HZ := Lib.hid (fun z h => byte_wf (hz z h))
  have HBIG := Lib.hid big
  clear ht h0 hc hb0 hz _ws _hcap big
  have hbn2 : bs.length ≤ 1048576 := by omega
  have hln2 : ls.length ≤ 1048576 := by omega
  go_enter Tryd.func6, Tryd.ntmps6
  go_wp2_with (go_at_call 14; refine stop_o ?_)
  unfold StopO
  refine (able_any _).mono ?_
  rintro e w1 ⟨rfl, hb1⟩
  go_wp2_with (go_at_call 17; refine stop_o ?_)
  unfold StopO
  refine (ownT_any ls A capT w1 (tri_below HT.out hb1) HT0.out (by omega)).mono ?_
  rintro e w2 ⟨XT, cT, rfl, oT, hb2⟩
  have hB2 := hb1.trans (hb2.mono hb1.size)
  go_wp2_with (go_at_call 18; refine stop_o ?_)
  unfold StopO
  refine (own7_any bs B capB w2 (ints_below hB2 HC.out) HB.out (by omega)).mono ?_
  rintro e w3 ⟨XB, cB, rfl, oB, hb3⟩
  have hB3 := hB2.trans (hb3.mono hB2.size)
  have tT := Lib.hid (tri_owned (own_below oT hb3))
  have OB := Lib.hid oB
  clear hb1 hb2 hb3 hB2 oT oB
  go_wp2_with (go_at_call 16; refine stop_o ?_)
  unfold StopO
  by_cases hs : 0 ≤ s ∧ s < ls.length
  · have hsp := heightsE_shape (ls.map triTy) s bs
    have hbl1 : bs.length < 1048576 := by omega
    have HNOP := Lib.hid (heightsE_nop (ts := ls.map triTy) (s := s) (bs := bs) hbl1)
    obtain ⟨n, rfl⟩ : ∃ n : Nat, s = n := ⟨s.toNat, by omega⟩
    have hnl : n < ls.length := by omega
    have hown : tyAt (ls.map triTy) (n : Int) = triTy (ls.getD n zeroTri) := by
      unfold tyAt
      rw [List.getD_eq_getElem?_getD, List.getElem?_map, List.getD_eq_getElem?_getD]
      rw [show ((n : Int)).toNat = n by omega, List.getElem?_eq_getElem hnl]
      rfl
    rw [hown] at HNOP
    have HOWN := Lib.hid (HT.out n hnl)
    have hz' : ∀ z ∈ (91 :: bs), 0 ≤ z ∧ z < 256 := fun z h => by
      rcases List.mem_cons.1 h with rfl | h
      · decide
      · exact HZ.out z h
    have HZ2 := Lib.hid hz'
    refine (heights_tri ls XT cT n bs XB cB w3 tT.out (owned_ints OB.out) HZ.out hbn2 (owned_cap OB.out) hln2).mono ?_
    unfold HeightsOut
    have HSP := Lib.hid hsp
    obtain ⟨R, hR⟩ : ∃ R, R = heightsE (ls.map triTy) n bs := ⟨_, rfl⟩
    rw [← hR]
    have HR := Lib.hid hR
    obtain ⟨hsr, er, atr⟩ := R
    rintro e w4 ⟨vh, rfl, oh, hb4⟩
    dsimp only at oh ⊢
    have hB4 := hB3.trans (hb4.mono hB3.size)
    have OH := Lib.hid oh
    clear hb4 hB3 tT OB hsp hR hown hz' oh
    obtain ⟨Xh, ch, rfl⟩ := owns_shape OH.out
    go_wp2_with (go_at_call 17; refine stop_o ?_)
    unfold StopO
    refine (ownT_any ls A capT w4 (tri_below HT.out hB4) HT0.out (by omega)).mono ?_
    rintro e w5 ⟨XT2, cT2, rfl, oT2, hb5⟩
    have hB5 := hB4.trans (hb5.mono hB4.size)
    have hs5 := hB5.size
    have hl5 := own_lit w5 w5.heap.size 5 1 1 #[.int .u8 91] (Nat.le_refl _) rfl (by decide)
    have hB6 := hB5.alloc hB5.size (.cells #[.int .u8 91] 5)
    have hc6 := Lib.hid (ints_below hB6 HC.out)
    have OT2 := Lib.hid oT2
    have OH5 := Lib.hid (own_below OH.out hb5)
    clear hb5 hB5 hB4 oT2 OH
    go_wp2_with (at_builtin; refine wpList_append_src _ rfl _ _ 23 rfl w5.heap.size 5 i0 (.int .u8 0) 1 1 Tryd.underlying23 hi hz0 hz1 hz2 rfl (by decide) _ _ _ rfl hl5 B bs.length capB (byteVs bs) rfl HB0.out ?c0 ?c1 ?c2 ?c3 ?c4 ?c5 ?_)
    case c0 => rw [byteVs_length]; omega
    case c1 => exact fun y hy => by have := hc6.out; rw [hy] at this; exact bytes_src this
    case c2 => exact bytes_one
    case c3 => unfold maxLen; omega
    case c4 => omega
    case c5 => simp
    intro v6 w6 hown6 hgrow6
    have hB7 := bel_own hB6 hl5 hs5 hgrow6
    have hk6 : Below w5.heap.size w5 w6 := bel_own ((Below.refl w5.heap.size w5).alloc (Nat.le_refl _) (.cells #[.int .u8 91] 5)) hl5 (Nat.le_refl _) hgrow6
    have tT6 := Lib.hid (tri_owned (own_below OT2.out hk6))
    have OH6 := Lib.hid (own_below OH5.out hk6)
    have hown7 : w6.ownsRow w5.heap.size 5 1 v6 (91 :: bs).length (byteVs (91 :: bs)) := by
      rw [List.length_cons, Nat.add_comm]
      exact hown6
    obtain ⟨X6, c6, rfl⟩ := owns_shape hown7
    have OB6 := Lib.hid hown7
    clear hgrow6 hown6 hown7 hl5 hc6 hB6 hk6 OT2 OH5
    have hH := heights_tri ls XT2 cT2 n (91 :: bs) X6 c6 w6 tT6.out (owned_ints OB6.out) HZ2.out (by rw [List.length_cons]; omega) (owned_cap OB6.out) hln2
    rw [List.length_cons] at hH
    have HH := Lib.hid hH
    clear hH OB6 tT6
    go_wp2_with (go_at_call 16; refine stop_o ?_)
    unfold StopO
    rcases HSP.out with ⟨hmay, hE⟩ | ⟨hmay, hs', hE, hlen⟩ | ⟨hmay, e', m, hE, herr, hm⟩
    · have hq := HR.out.trans hE
      obtain ⟨rfl, hq2⟩ := Prod.mk.inj hq
      obtain ⟨rfl, rfl⟩ := Prod.mk.inj hq2
      clear hq hq2 hE hmay HNOP HSP HR HOWN OH6
      refine HH.out.mono ?_
      unfold HeightsOut
      clear HH
      generalize (heightsE (ls.map triTy) n (91 :: bs)).2.1 = er2
      generalize (heightsE (ls.map triTy) n (91 :: bs)).2.2 = at2
      rintro e w7 ⟨v7, rfl, _, hb7⟩
      go_wp2
      go_ret
      exact ⟨rfl, hB7.trans (hb7.mono hB7.size)⟩
    · have hq := HR.out.trans hE
      obtain ⟨rfl, hq2⟩ := Prod.mk.inj hq
      obtain ⟨rfl, rfl⟩ := Prod.mk.inj hq2
      have hnop := HNOP.out hmay
      rw [hE] at hnop
      have e2 : movedR ((triTy (ls.getD n zeroTri)).inn, (triTy (ls.getD n zeroTri)).inn) (hsr, 0, 0) = (((ls.getD n zeroTri).1, (ls.getD n zeroTri).1) :: hsr, 0, 0) := rfl
      rw [e2] at hnop
      refine HH.out.mono ?_
      unfold HeightsOut
      rw [hnop]
      clear hq hq2 hE hmay HNOP HSP HR hnop e2 HH
      rintro e w7 ⟨v7, rfl, oh7, hb7⟩
      dsimp only at oh7 ⊢
      rw [hgCells_tri, hgTri_nop, List.length_cons] at oh7
      have oh1 := own_below OH6.out hb7
      rw [hgCells_tri] at oh1
      have hL := hgTri_length hlen
      have hAT : Hid (∀ k, k < (hgTri (allI bs) hsr).length → 0 ≤ ((hgTri (allI bs) hsr).getD k zeroTri).1 ∧ ((hgTri (allI bs) hsr).getD k zeroTri).1 < 1048576) := Lib.hid fun k hk => by
        rw [hL, hlen] at hk
        rw [hgTri_at hlen hk]
        have := at_bound hk
        omega
      generalize hgTri (allI bs) hsr = L at oh7 oh1 hL hAT
      rw [← hL] at oh7 oh1 ⊢
      have hLN : L.length ≤ 1048576 := by
        rw [hL, hlen]
        obtain ⟨q, hq, _⟩ := allI_reads bs
        have := reads_length hq
        omega
      have t1 := Lib.hid (tri_owned oh1)
      obtain ⟨X7, c7, rfl⟩ := owns_shape oh7
      obtain ⟨g7, rfl⟩ := own_head oh7 (by omega)
      obtain ⟨x, rfl, x0, _, _⟩ := HOWN.out
      have hB8 := hB7.trans (hb7.mono hB7.size)
      replace x0 := cell_later hB8 x0
      generalize (ls.getD n zeroTri).1 = a at oh7 x0
      have t2 : TriAt w7 (some ⟨g7, 0, none⟩) ((0, a, a) :: L.map fun t => (t.1 + 1, t.2.1, t.2.2)) := tri_owned (by simpa using oh7)
      have T2 := Lib.hid t2
      obtain ⟨y, hy, y0, y1, y2⟩ := t2 0 (by simp)
      cases hy
      rw [Nat.zero_mul, show (⟨g7, 0, none⟩ : Addr).add 0 = ⟨g7, 0, none⟩ from rfl, List.getD_cons_zero] at y0 y1 y2
      clear oh7 oh1 OH6 HOWN hL hlen hb7 hB7 t2
      have hnl2 : (n : Int) < (ls.length : Int) := by omega
      have hnl3 : decide (ls.length ≤ n) = false := decide_eq_false (by omega)
      have hnl4 : decide ((n : Int) < 0) = false := decide_eq_false (by omega)
      go_wp2
      go_quiet (fail)
      go_wp2
      go_loopw [13] (fun vi wr => ∃ k : Nat, vi = .int .i64 k ∧ k ≤ L.length ∧ Below w7.heap.size w7 wr) (fun vi _ => L.length - (intOf vi).toNat)
      case atStart => exact ⟨0, rfl, Nat.zero_le _, below_drewN (Below.refl _ _) _⟩
      case round =>
        clear x0 y0 y1 y2
        obtain ⟨k, rfl, hk, hB⟩ := hrel
        by_cases hlt : k < L.length
        · have g1 : (k : Int) < (L.length : Int) := by omega
          have g2 : (k : Int) + 1 < ((L.length + 1 : Nat) : Int) := by omega
          have g3 : ((k : Int) + 1).toNat = k + 1 := by omega
          obtain ⟨y, hy, y0, y1, y2⟩ := T2.out (k + 1) (by simp; omega)
          cases hy
          obtain ⟨z, rfl, z0, z1, z2⟩ := t1.out k hlt
          have hak := hAT.out k hlt
          have e3 : ((0, a, a) :: L.map fun t : Tri => ((t.1 + 1, t.2.1, t.2.2) : Tri)).getD (k + 1) zeroTri = ((L.getD k zeroTri).1 + 1, (L.getD k zeroTri).2.1, (L.getD k zeroTri).2.2) := by
            rw [List.getD_cons_succ, List.getD_eq_getElem?_getD, List.getElem?_map, List.getElem?_eq_getElem hlt, List.getD_eq_getElem?_getD, List.getElem?_eq_getElem hlt]
            rfl
          rw [e3, addr_zero] at y0 y1 y2
          clear e3
          generalize L.getD k zeroTri = t at y0 y1 y2 z0 z1 z2 hak
          obtain ⟨p, lo, hi'⟩ := t
          dsimp only at y0 y1 y2 z0 z1 z2 hak
          replace y0 := cell_later hB y0
          replace y1 := cell_later hB y1
          replace y2 := cell_later hB y2
          replace z0 := cell_later hB z0
          replace z1 := cell_later hB z1
          replace z2 := cell_later hB z2
          go_wp2
          go_quiet (fail)
          go_wp2
          exact ⟨⟨k + 1, by go_num, by omega, below_drewN hB _⟩, by simp [intOf]; omega⟩
        · have g1 : ¬ (k : Int) < (L.length : Int) := by omega
          go_wp2
          go_ret
          exact ⟨rfl, hB8.trans (hB.mono hB8.size)⟩
    · have hq := HR.out.trans hE
      obtain ⟨rfl, hq2⟩ := Prod.mk.inj hq
      obtain ⟨rfl, rfl⟩ := Prod.mk.inj hq2
      have hnop := HNOP.out hmay
      rw [hE] at hnop
      have hab := at_bound hm
      generalize ((allI bs).getD m zeroI).at_ = at_ at hnop hab ⊢
      have h1e : (er == 1) = false := by rw [beq_eq_false_iff_ne]; unfold ErrH at herr; omega
      have h0e : ¬ er = 0 := by unfold ErrH at herr; omega
      have h0n : (er != 0) = true := by rw [bne_iff_ne]; exact h0e
      have e2 : movedR ((triTy (ls.getD n zeroTri)).inn, (triTy (ls.getD n zeroTri)).inn) ([], er, at_) = ([], er, at_ + 1) := by
        unfold movedR
        rw [if_neg h0e]
      rw [e2] at hnop
      refine HH.out.mono ?_
      unfold HeightsOut
      rw [hnop]
      clear hq hq2 hE hmay HNOP HSP HR hnop e2 HH HOWN OH6 herr h0e
      rintro e w7 ⟨v7, rfl, oh7, hb7⟩
      dsimp only at oh7 ⊢
      obtain ⟨X7, c7, rfl⟩ := owns_shape oh7
      clear oh7
      go_wp2
      go_ret
      exact ⟨rfl, hB7.trans (hb7.mono hB7.size)⟩
  · refine (heights_none ls.length XT cT s _ w3 hs).mono ?_
    rintro e w4 ⟨rfl, hb4⟩
    have hB4 := hB3.trans (hb4.mono hB3.size)
    clear hb4 hB3 tT OB
    go_wp2_with (go_at_call 17; refine stop_o ?_)
    unfold StopO
    refine (ownT_any ls A capT w4 (tri_below HT.out hB4) HT0.out (by omega)).mono ?_
    rintro e w5 ⟨XT2, cT2, rfl, oT2, hb5⟩
    have hB5 := hB4.trans (hb5.mono hB4.size)
    have hs5 := hB5.size
    have hl5 := own_lit w5 w5.heap.size 5 1 1 #[.int .u8 91] (Nat.le_refl _) rfl (by decide)
    have hB6 := hB5.alloc hB5.size (.cells #[.int .u8 91] 5)
    have hc6 := Lib.hid (ints_below hB6 HC.out)
    clear hb5 hB5 hB4 oT2
    go_wp2_with (at_builtin; refine wpList_append_src _ rfl _ _ 23 rfl w5.heap.size 5 i0 (.int .u8 0) 1 1 Tryd.underlying23 hi hz0 hz1 hz2 rfl (by decide) _ _ _ rfl hl5 B bs.length capB (byteVs bs) rfl HB0.out ?a0 ?a1 ?a2 ?a3 ?a4 ?a5 ?_)
    case a0 => rw [byteVs_length]; omega
    case a1 => exact fun y hy => by have := hc6.out; rw [hy] at this; exact bytes_src this
    case a2 => exact bytes_one
    case a3 => unfold maxLen; omega
    case a4 => omega
    case a5 => simp
    intro v6 w6 hown6 hgrow6
    have hB7 := bel_own hB6 hl5 hs5 hgrow6
    clear hgrow6 hown6 hl5 hc6 hB6
    go_wp2_with (go_at_call 16; refine stop_o ?_)
    unfold StopO
    refine (heights_none ls.length XT2 cT2 s _ w6 hs).mono ?_
    rintro e w7 ⟨rfl, hb7⟩
    go_wp2
    go_ret
    exact ⟨rfl, hB7.trans (hb7.mono hB7.size)⟩
end Go.Proofs.YtfjmdffhfjnopaaDoor
