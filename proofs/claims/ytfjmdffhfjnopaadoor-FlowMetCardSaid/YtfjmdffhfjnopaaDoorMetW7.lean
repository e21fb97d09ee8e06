/- vouchlaw7.FlowMet: the walk. -/
import Derived.Test.YtfjmdffhfjnopaaDoorMet7
namespace Go.Proofs.YtfjmdffhfjnopaaDoor
open Go.RowKit Vouch Go.Vk Go.Sort
set_option maxHeartbeats 4000000 in
set_option maxRecDepth 100000 in
theorem met_walk (A : Option Addr) (capT : Nat) (ls : List Tri) (s : Int) (B : Option Addr) (capB : Nat) (bs : List Int) (which : Int) (w : World) (ht : TriAt w A ls) (h0 : A = none → capT = 0) (hn : ls.length ≤ 140737488351232) (_ws : (Lit.int .i64 s).wf = true)
    (hc : IntsAt w .u8 B bs) (hz : ∀ n ∈ bs, (Lit.int .u8 n).wf = true) (_hcap : bs.length ≤ capB) (hb0 : B = none → capB = 0) (hbn : bs.length ≤ 140737488351232) (_hwh : (Lit.int .i64 which).wf = true) :
    Calls Tryd.prog 5 #[.slice A ls.length capT, .int .i64 s, .slice B bs.length capB, .int .i64 which] w fun e w' => e = .returned (.bool true) ∧ Below w.heap.size w w' := by
  have hwr : wrap64 ((ls.length : Int) + (bs.length : Int)) = (ls.length : Int) + (bs.length : Int) := by simp only [wrap64]; omega
  by_cases big : 1048576 < ls.length + bs.length
  · have h1 : (1048576 : Int) < (ls.length : Int) + (bs.length : Int) := by omega
    go_enter Tryd.func5, Tryd.ntmps5
    go_wp2
    go_ret
    exact ⟨rfl, Below.refl _ _⟩
  have h1 : ¬ (1048576 : Int) < (ls.length : Int) + (bs.length : Int) := by omega
  have HT := Lib.hid ht
  have HT0 := Lib.hid h0
  have HC := Lib.hid hc
  have HB := Lib.hid hb0
  have HZ := Lib.hid (fun z h => byte_wf (hz z h))
  clear ht h0 hc hb0 hz _ws _hcap big
  have hbn2 : bs.length ≤ 1048576 := by omega
  have hln2 : ls.length ≤ 1048576 := by omega
  go_enter Tryd.func5, Tryd.ntmps5
  go_wp2_with (go_at_call 14; refine stop_o ?_)
  unfold StopO
  refine (able_any _).mono ?_
  rintro e w1 ⟨rfl, hb1⟩
  go_wp2_with (go_at_call 17; refine stop_o ?_)
  unfold StopO
  refine (ownT_any ls A capT w1 (tri_below HT.out hb1) HT0.out (by omega)).mono ?_
  rintro e w2 ⟨XT, cT, rfl, oT, hb2⟩
  have hB2 := hb1.trans (hb2.mono hb1.size)
  go_wp2_with (go_at_call 18; refine stop_o ?_)
  unfold StopO
  refine (own7_any bs B capB w2 (ints_below hB2 HC.out) HB.out (by omega)).mono ?_
  rintro e w3 ⟨XB, cB, rfl, oB, hb3⟩
  have hB3 := hB2.trans (hb3.mono hB2.size)
  have tT := Lib.hid (tri_owned (own_below oT hb3))
  have OB := Lib.hid oB
  clear hb1 hb2 hb3 hB2 oT oB
  go_wp2_with (go_at_call 16; refine stop_o ?_)
  unfold StopO
  have HSP := Lib.hid (heightsE_shape (ls.map triTy) s bs)
  refine (heights_tri ls XT cT s bs XB cB w3 tT.out (owned_ints OB.out) HZ.out hbn2 (owned_cap OB.out) hln2).mono ?_
  unfold HeightsOut
  obtain ⟨R, hR⟩ : ∃ R, R = heightsE (ls.map triTy) s bs := ⟨_, rfl⟩
  rw [← hR]
  have HR := Lib.hid hR
  obtain ⟨hsr, er, atr⟩ := R
  rintro e w4 ⟨vh, rfl, oh, hb4⟩
  dsimp only at oh ⊢
  have hB4 := hB3.trans (hb4.mono hB3.size)
  have OH := Lib.hid oh
  obtain ⟨Xh, ch, rfl⟩ := owns_shape OH.out
  clear hb4 hB3 tT OB hR oh
  by_cases her : er = 0
  case neg =>
    have her1 : (er != 0) = true := by rw [bne_iff_ne]; exact her
    clear her
    go_wp2
    go_ret
    exact ⟨rfl, hB4⟩
  subst her
  have hatr : atr = 0 := by
    rcases HSP.out with ⟨_, hE⟩ | ⟨_, hs', hE, _⟩ | ⟨_, e', m, hE, herr, _⟩
    · have hq := HR.out.trans hE
      exact absurd (Prod.mk.inj (Prod.mk.inj hq).2).1 (by decide)
    · exact (Prod.mk.inj (Prod.mk.inj (HR.out.trans hE)).2).2
    · have hq := (Prod.mk.inj (Prod.mk.inj (HR.out.trans hE)).2).1
      unfold ErrH at herr
      omega
  subst hatr
  obtain ⟨hmay, hjd⟩ := judged_of HZ.out HR.out.symm
  have hmp := may_parts hmay
  rw [List.length_map] at hmp
  obtain ⟨n, rfl⟩ : ∃ n : Nat, s = n := ⟨s.toNat, by omega⟩
  have hnl : n < ls.length := by omega
  rw [tyAt_tri hnl] at hjd
  have hsc := scan_parts (check_parts hmp.2.2.2.1).1
  have HJD := Lib.hid (⟨hmay, hjd, hsc.1⟩ : _ ∧ _ ∧ _)
  clear hmay hjd hmp HSP hsc
  go_wp2_with (go_at_call 19; refine stop_o ?_)
  unfold StopO
  refine (list_any bs B capB w4 (ints_below hB4 HC.out) HB.out HZ.out hbn2).mono ?_
  rintro e w6 ⟨xs, vi, rfl, hall, oI, rI, hb6⟩
  have hfst := allOf_allI hall
  obtain ⟨I, cI, rfl⟩ := owns_shape oI
  have hkn : Known7 ls n bs hsr xs := ⟨HZ.out, hbn2, hln2, hnl, hfst, HJD.out.1, HJD.out.2.1⟩
  have hxl : xs.length = (allI bs).length := by rw [← hfst]; simp
  have hhl : hsr.length = xs.length := by rw [HJD.out.2.1.len, hxl]
  have hB6 := hB4.trans (hb6.mono hB4.size)
  have hlaid : Laid7 ls A bs hsr xs w4.heap.size w3.heap.size (.slice I xs.length cI) (.slice Xh hsr.length ch) w6 := ⟨tri_below HT.out hB6, oI, rI, by rw [← hgCells_tri]; exact own_below OH.out hb6⟩
  obtain ⟨N, hN⟩ : ∃ N, N = xs.length := ⟨_, rfl⟩
  have hN0 : 0 < N := by have := HJD.out.2.2; omega
  have hNm : N ≤ 1048576 := by
    obtain ⟨q, hq, _⟩ := allI_reads bs
    have := reads_length hq
    omega
  have HMET := Lib.hid (fun (i : Nat) (h : Int) (w' : World) (hb : Below w6.heap.size w6 w') => met_any ls A capT n bs hsr xs w4.heap.size w3.heap.size I cI Xh ch hkn 300 i h w' (laid7_below hlaid hb))
  have HHG := Lib.hid (fun (i : Nat) (hi : i < N) => laid_hgt hlaid hkn (k := i) (by omega))
  rw [hhl, ← hN] at HMET ⊢
  have g2 : ¬ (ls.length : Int) ≤ (n : Int) := by omega
  have g3 : ¬ ls.length ≤ n := by omega
  have g4 : ((N : Int) == 0) = false := by rw [beq_eq_false_iff_ne]; omega
  have g5 : ¬ (n : Int) < 0 := by omega
  clear hall oI rI hb6 hfst hkn hxl hhl hlaid hN HJD OH HR HT HT0 HC HB HZ hB4
  by_cases h400 : 400 < N
  · have g6 : (400 : Int) < (N : Int) := by omega
    go_wp2
    go_ret
    exact ⟨rfl, hB6⟩
  have g6 : ¬ (400 : Int) < (N : Int) := by omega
  have hqb : -(N : Int) < which.tmod N ∧ which.tmod N < N := by
    have h1 := Int.lt_tmod_of_pos which (show (0 : Int) < N by omega)
    have h2 := Int.tmod_lt_of_pos which (show (0 : Int) < N by omega)
    exact ⟨h1, h2⟩
  obtain ⟨q, hq⟩ : ∃ q, which.tmod N = q := ⟨_, rfl⟩
  rw [hq] at hqb
  by_cases hq0 : q < 0
  · obtain ⟨m, hm⟩ : ∃ m : Nat, q + N = m := ⟨(q + N).toNat, by omega⟩
    have hmN : m < N := by omega
    have hmw : wrap64 (q + (N : Int)) = (m : Int) := by simp only [wrap64]; omega
    obtain ⟨gH, rfl, _, u1, u2⟩ := HHG.out m hmN
    have p1 : (m : Int) < (N : Int) := by omega
    have HM1 := Lib.hid (fun (w' : World) (hb : Below w6.heap.size w6 w') => HMET.out m _ w' hb hmN (.inl rfl) (Nat.le_refl _))
    have HM2 := Lib.hid (fun (w' : World) (hb : Below w6.heap.size w6 w') => HMET.out m _ w' hb hmN (.inr rfl) (Nat.le_refl _))
    generalize (hsr.getD m (0, 0)).1 = lo at *
    generalize (hsr.getD m (0, 0)).2 = hi at *
    clear HHG HMET
    go_wp2_with (go_at_call 24; refine stop_o ?_)
    unfold StopO
    refine (HM1.out w6 (Below.refl _ _)).mono ?_
    rintro e w7 ⟨rfl, hb7⟩
    replace u1 := cell_later hb7 u1
    replace u2 := cell_later hb7 u2
    go_wp2_with (go_at_call 24; refine stop_o ?_)
    unfold StopO
    refine (HM2.out w7 hb7).mono ?_
    rintro e w8 ⟨rfl, hb8⟩
    go_wp2
    go_ret
    exact ⟨rfl, hB6.trans ((hb7.trans (hb8.mono hb7.size)).mono hB6.size)⟩
  · obtain ⟨m, rfl⟩ : ∃ m : Nat, q = m := ⟨q.toNat, by omega⟩
    have hmN : m < N := by omega
    obtain ⟨gH, rfl, _, u1, u2⟩ := HHG.out m hmN
    have p1 : (m : Int) < (N : Int) := by omega
    have HM1 := Lib.hid (fun (w' : World) (hb : Below w6.heap.size w6 w') => HMET.out m _ w' hb hmN (.inl rfl) (Nat.le_refl _))
    have HM2 := Lib.hid (fun (w' : World) (hb : Below w6.heap.size w6 w') => HMET.out m _ w' hb hmN (.inr rfl) (Nat.le_refl _))
    generalize (hsr.getD m (0, 0)).1 = lo at *
    generalize (hsr.getD m (0, 0)).2 = hi at *
    clear HHG HMET
    go_wp2_with (go_at_call 24; refine stop_o ?_)
    unfold StopO
    refine (HM1.out w6 (Below.refl _ _)).mono ?_
    rintro e w7 ⟨rfl, hb7⟩
    replace u1 := cell_later hb7 u1
    replace u2 := cell_later hb7 u2
    go_wp2_with (go_at_call 24; refine stop_o ?_)
    unfold StopO
    refine (HM2.out w7 hb7).mono ?_
    rintro e w8 ⟨rfl, hb8⟩
    go_wp2
    go_ret
    exact ⟨rfl, hB6.trans ((hb7.trans (hb8.mono hb7.size)).mono hB6.size)⟩
end Go.Proofs.YtfjmdffhfjnopaaDoor
