/- vouchlaw7.FlowWalks: the walk. -/
import Derived.Test.YtfjmdffhfjnopaaDoorWalksP7
namespace Go.Proofs.YtfjmdffhfjnopaaDoor
open Go.RowKit Vouch Go.Vk Go.Sort
set_option maxHeartbeats 4000000 in
set_option maxRecDepth 100000 in
theorem walks_walk (A : Option Addr) (capT : Nat) (ls : List Tri) (s : Int) (B : Option Addr) (capB : Nat) (bs : List Int) (C : Option Addr) (capC : Nat) (cs : List Int) (w : World) (ht : TriAt w A ls) (h0 : A = none → capT = 0) (hn : ls.length ≤ 140737488351232) (_ws : (Lit.int .i64 s).wf = true)
    (hc : IntsAt w .u8 B bs) (hz : ∀ n ∈ bs, (Lit.int .u8 n).wf = true) (_hcap : bs.length ≤ capB) (hb0 : B = none → capB = 0) (hbn : bs.length ≤ 140737488351232) (hcc : IntsAt w .i64 C cs) (hcw : ∀ n ∈ cs, (Lit.int .i64 n).wf = true) (_hcn : cs.length ≤ 140737488355328) :
    Calls Tryd.prog 10 #[.slice A ls.length capT, .int .i64 s, .slice B bs.length capB, .slice C cs.length capC] w fun e w' => e = .returned (.bool true) ∧ Below w.heap.size w w' := by
  have HCC := Lib.hid hcc
  have HCW := Lib.hid hcw
  clear hcc hcw
  have hwr : wrap64 ((ls.length : Int) + (bs.length : Int)) = (ls.length : Int) + (bs.length : Int) := by simp only [wrap64]; omega
  by_cases big : 1048576 < ls.length + bs.length
  · have h1 : (1048576 : Int) < (ls.length : Int) + (bs.length : Int) := by omega
    go_enter Tryd.func10, Tryd.ntmps10
    go_wp2
    go_ret
    exact ⟨rfl, Below.refl _ _⟩
  have h1 : ¬ (1048576 : Int) < (ls.length : Int) + (bs.length : Int) := by omega
  have HT := Lib.hid ht
  have HT0 := Lib.hid h0
  have HC := Lib.hid hc
  have HB := Lib.hid hb0
  have HZ := Lib.hid (fun z h => byte_wf (hz z h))
  clear ht h0 hc hb0 hz _ws _hcap big
  have hbn2 : bs.length ≤ 1048576 := by omega
  have hln2 : ls.length ≤ 1048576 := by omega
  go_enter Tryd.func10, Tryd.ntmps10
  go_wp2_with (go_at_call 14; refine stop_o ?_)
  unfold StopO
  refine (able_any _).mono ?_
  rintro e w1 ⟨rfl, hb1⟩
  go_wp2_with (go_at_call 17; refine stop_o ?_)
  unfold StopO
  refine (ownT_any ls A capT w1 (tri_below HT.out hb1) HT0.out (by omega)).mono ?_
  rintro e w2 ⟨XT, cT, rfl, oT, hb2⟩
  have hB2 := hb1.trans (hb2.mono hb1.size)
  go_wp2_with (go_at_call 18; refine stop_o ?_)
  unfold StopO
  refine (own7_any bs B capB w2 (ints_below hB2 HC.out) HB.out (by omega)).mono ?_
  rintro e w3 ⟨XB, cB, rfl, oB, hb3⟩
  have hB3 := hB2.trans (hb3.mono hB2.size)
  have tT := Lib.hid (tri_owned (own_below oT hb3))
  have OB := Lib.hid oB
  clear hb1 hb2 hb3 hB2 oT oB
  go_wp2_with (go_at_call 16; refine stop_o ?_)
  unfold StopO
  have HSP := Lib.hid (heightsE_shape (ls.map triTy) s bs)
  refine (heights_tri ls XT cT s bs XB cB w3 tT.out (owned_ints OB.out) HZ.out hbn2 (owned_cap OB.out) hln2).mono ?_
  unfold HeightsOut
  obtain ⟨R, hR⟩ : ∃ R, R = heightsE (ls.map triTy) s bs := ⟨_, rfl⟩
  rw [← hR]
  have HR := Lib.hid hR
  obtain ⟨hsr, er, atr⟩ := R
  rintro e w4 ⟨vh, rfl, oh, hb4⟩
  dsimp only at oh ⊢
  have hB4 := hB3.trans (hb4.mono hB3.size)
  have OH := Lib.hid oh
  obtain ⟨Xh, ch, rfl⟩ := owns_shape OH.out
  clear hb4 hB3 tT OB hR oh
  by_cases her : er = 0
  case neg =>
    have her1 : (er != 0) = true := by rw [bne_iff_ne]; exact her
    clear her
    go_wp2
    go_ret
    exact ⟨rfl, hB4⟩
  subst her
  have hatr : atr = 0 := by
    rcases HSP.out with ⟨_, hE⟩ | ⟨_, hs', hE, _⟩ | ⟨_, e', m, hE, herr, _⟩
    · have hq := HR.out.trans hE
      exact absurd (Prod.mk.inj (Prod.mk.inj hq).2).1 (by decide)
    · exact (Prod.mk.inj (Prod.mk.inj (HR.out.trans hE)).2).2
    · have hq := (Prod.mk.inj (Prod.mk.inj (HR.out.trans hE)).2).1
      unfold ErrH at herr
      omega
  subst hatr
  obtain ⟨hmay, hjd⟩ := judged_of HZ.out HR.out.symm
  have hmp := may_parts hmay
  rw [List.length_map] at hmp
  obtain ⟨n, rfl⟩ : ∃ n : Nat, s = n := ⟨s.toNat, by omega⟩
  have hnl : n < ls.length := by omega
  rw [tyAt_tri hnl] at hjd
  have hsc := scan_parts (check_parts hmp.2.2.2.1).1
  have HJD := Lib.hid (⟨hmay, hjd, hsc.1⟩ : _ ∧ _ ∧ _)
  clear hmay hjd hmp HSP hsc
  have hkn : Known7 ls n bs hsr ((allI bs).map fun i => (i, undef)) := ⟨HZ.out, hbn2, hln2, hnl, by rw [List.map_map]; exact List.map_id'' (fun _ => rfl) _, HJD.out.1, HJD.out.2.1⟩
  have hhl := HJD.out.2.1.len
  obtain ⟨N, hN⟩ : ∃ N, N = (allI bs).length := ⟨_, rfl⟩
  have hNm : N ≤ 1048576 := by
    obtain ⟨q, hq, _⟩ := allI_reads bs
    have := reads_length hq
    omega
  have hL := hgTri_length hhl
  have hck := (may_parts HJD.out.1).2.2.2.1
  have hoh := OH.out
  rw [hgCells_tri, hhl, ← hN] at hoh
  rw [hhl, ← hN] at hL
  rw [hhl, ← hN]
  obtain ⟨x, rfl, x0, _, _⟩ := HT.out n hnl
  replace x0 := cell_later hB4 x0
  have g2 : ¬ (ls.length : Int) ≤ (n : Int) := by omega
  have g3 : ¬ ls.length ≤ n := by omega
  have g5 : ¬ (n : Int) < 0 := by omega
  have g7 : (n : Int) < (ls.length : Int) := by omega
  have hfirst := HJD.out.2.1.first HJD.out.2.2
  have H := Lib.hid (⟨hkn, hck, hhl.trans hN.symm, hN, hfirst⟩ : _ ∧ _ ∧ _ ∧ _ ∧ _)
  have hN0 : 0 < N := by rw [hN]; exact HJD.out.2.2
  have HLL := Lib.hid hL
  have OH2 := Lib.hid hoh
  have HB4 := Lib.hid hB4
  have hat0 : ((allI bs).getD 0 zeroI).at_ = 0 := at_zero HJD.out.2.2
  clear hkn hck hhl hfirst hL hoh OH HJD HR hN hB4
  generalize htv : (ls.getD n zeroTri).1 = tv at x0
  go_wp2
  go_loopw [12, 13, 14] (fun vw va vi wr => ∃ (nn k : Nat) (wd : Int), vw = .int .i64 wd ∧ va = .int .i64 ((allI bs).getD k zeroI).at_ ∧ vi = .int .i64 nn ∧ nn ≤ 2000 ∧ k < N ∧ (hsr.getD k (0, 0)).1 ≤ wd ∧ wd ≤ (hsr.getD k (0, 0)).2 ∧ Below w4.heap.size w4 wr) (fun _ _ vi _ => 2000 - (intOf vi).toNat)
  case atStart => exact ⟨0, 0, tv, rfl, by rw [hat0], rfl, by omega, hN0, by rw [H.out.2.2.2.2]; exact Int.le_of_eq htv, by rw [H.out.2.2.2.2]; exact Int.le_of_eq htv.symm, Below.refl _ _⟩
  case round =>
    obtain ⟨nn, k, wd, rfl, rfl, rfl, hnn, hkN, hw1, hw2, hB⟩ := hrel
    by_cases hlt : nn < 2000
    · have q1 : (nn : Int) < 2000 := by omega
      have hkl : k < (allI bs).length := by rw [← H.out.2.2.2.1]; exact hkN
      have hkn := H.out.1
      obtain ⟨a1, a2, a3, a4, a5, _, a7⟩ := ins_known HZ.out (by omega) hkl
      have hbd := known_bounds hkn hkl
      have hfi := hkn.judged.fine k hkl
      have hli := low_in hfi.1
      have hbn := hfi.2
      have HSTEP := Lib.hid (fun (m : Nat) (hm : m < (tosI ((allI bs).getD k zeroI)).length) => (by
        obtain ⟨n', b1, b2, b3⟩ := tos_place H.out.2.1 hkl hm
        obtain ⟨c1, c2⟩ := judged_step hkn.judged hkl b1 b2 hw1 hw2
        exact ⟨n', by rw [H.out.2.2.2.1]; exact b1, b3.symm, c1, c2⟩ : ∃ n', n' < N ∧ (tosI ((allI bs).getD k zeroI)).getD m 0 = ((allI bs).getD n' zeroI).at_ ∧ (hsr.getD n' (0, 0)).1 ≤ wd - (turnsI (ls.map triTy) (triTy (ls.getD n zeroTri)) ((allI bs).getD k zeroI)).1 + (turnsI (ls.map triTy) (triTy (ls.getD n zeroTri)) ((allI bs).getD k zeroI)).2 ∧ wd - (turnsI (ls.map triTy) (triTy (ls.getD n zeroTri)) ((allI bs).getD k zeroI)).1 + (turnsI (ls.map triTy) (triTy (ls.getD n zeroTri)) ((allI bs).getD k zeroI)).2 ≤ (hsr.getD n' (0, 0)).2))
      have htl := tosI_len a2
      have HTU := Lib.hid (fun (X : Option Addr) (c : Nat) (w' : World) (ht : TriAt w' (some x) ls) (hi : InsOK w' ((allI bs).getD k zeroI) X) => known_turns (capT := capT) (c := c) hkn hkl ht hi)
      have HNU := Lib.hid (fun (w' : World) (ht : TriAt w' Xh (hgTri (allI bs) hsr)) => lnumber_any (hgTri (allI bs) hsr) Xh ch k w' ht (rise_hg (by rw [H.out.2.2.1, H.out.2.2.2.1])) (by rw [HLL.out]; exact hkN) (by rw [HLL.out]; exact hNm))
      have hget := hgTri_at (l := allI bs) (hs := hsr) (k := k) (by rw [H.out.2.2.1, H.out.2.2.2.1]) hkl
      rw [HLL.out, hget] at HNU
      dsimp only at HNU
      obtain ⟨l0, l1, l2⟩ := trCells_at (ls := hgTri (allI bs) hsr) (k := k) (by rw [HLL.out]; exact hkN)
      rw [hget] at l0 l1 l2
      obtain ⟨gH, rfl⟩ := own_head OH2.out (by omega)
      have HLC := Lib.hid (⟨(OH2.out.cellAt (k * 3 + 1) (by omega)).trans l1, (OH2.out.cellAt (k * 3 + 2) (by omega)).trans l2⟩ : _ ∧ _)
      have HTT := Lib.hid (fun (w' : World) (hb : Below w4.heap.size w4 w') => (tri_owned (ls := hgTri (allI bs) hsr) (c := ch) (by rw [HLL.out]; exact own_below OH2.out hb) : TriAt w' (some ⟨gH, 0, none⟩) (hgTri (allI bs) hsr)))
      have HA := Lib.hid (⟨a2, a3, a4, a5, a7, hli.2⟩ : _ ∧ _ ∧ _ ∧ _ ∧ _ ∧ _)
      have hlow := hli.1
      have hbn2' : 0 ≤ (hsr.getD k (0, 0)).1 ∧ (hsr.getD k (0, 0)).2 ≤ 1023 := by unfold Bnd at hbn; omega
      clear a1 a3 a4 a5 a7 hfi hli hget l0 l1 l2 hkn hbn
      generalize (hsr.getD k (0, 0)).1 = lo at *
      generalize (hsr.getD k (0, 0)).2 = hi_ at *
      generalize (turnsI (ls.map triTy) (triTy (ls.getD n zeroTri)) ((allI bs).getD k zeroI)).1 = tin at *
      generalize (turnsI (ls.map triTy) (triTy (ls.getD n zeroTri)) ((allI bs).getD k zeroI)).2 = tout at *
      generalize (allI bs).getD k zeroI = ins at *
      have hBW := HB4.out.trans (hB.mono HB4.out.size)
      go_wp2_with (go_at_call 18; refine stop_o ?_)
      unfold StopO
      refine (own7_any bs B capB wr (ints_below hBW HC.out) HB.out (by omega)).mono ?_
      rintro e w5 ⟨X5, c5, rfl, o5, hb5⟩
      have OB5 := Lib.hid o5
      have hB5 := hB.trans (hb5.mono hB.size)
      clear o5 hb5 hBW
      go_wp2_with (go_at_call 27; refine stop_o ?_)
      unfold StopO
      refine (one_any bs X5 c5 ins.at_ w5 (owned_ints OB5.out) HZ.out (by omega) (owned_cap OB5.out)).mono ?_
      rw [HA.out.2.2.2.2.1]
      unfold insV
      rintro e w6 ⟨v6, rfl, o6, hb6⟩
      dsimp only at o6 ⊢
      obtain ⟨X, c, rfl⟩ := owns_shape o6
      have hB6 := hB5.trans (hb6.mono hB5.size)
      have hB7 := hB6.alloc hB6.size (.cells #[.int .i64 ins.at_, .int .i64 ins.code, .slice X ins.imm.length c, .int .i64 ins.next] 42)
      have hg7 := heap_alloc_new w6 (.cells #[.int .i64 ins.at_, .int .i64 ins.code, .slice X ins.imm.length c, .int .i64 ins.next] 42)
      have o7 := o6.alloc (.cells #[.int .i64 ins.at_, .int .i64 ins.code, .slice X ins.imm.length c, .int .i64 ins.next] 42)
      obtain ⟨gi, hgi⟩ : ∃ gi, gi = w6.heap.size := ⟨_, rfl⟩
      have hok : InsOK _ ins X := ⟨owned_ints o7, HA.out.1, by have := HA.out.2.1; omega, wf64 (by have := HA.out.2.2; omega) (by have := HA.out.2.2; omega)⟩
      have hic := owned_cap o7
      have H7 := Lib.hid (⟨hB7, hg7, hok⟩ : _ ∧ _ ∧ _)
      clear hB5 hb6 hB6 hB7 hg7 o6 o7 hok OB5
      go_wp2_with (go_at_call 23; refine stop_o ?_)
      unfold StopO
      rw [← hgi] at H7 ⊢
      generalize w6.alloc (.cells #[.int .i64 ins.at_, .int .i64 ins.code, .slice X ins.imm.length c, .int .i64 ins.next] 42) = W7 at H7 ⊢
      refine (HNU.out W7 (HTT.out W7 H7.out.1)).mono ?_
      rintro e w8 ⟨rfl, hb8⟩
      have H8 := Lib.hid (⟨H7.out.1.trans (hb8.mono H7.out.1.size), kept_of hb8 H7.out.2.1, insok_below H7.out.2.2 hb8⟩ : _ ∧ _ ∧ _)
      clear H7 hb8 HNU hgi
      have c1 := cell_later H8.out.1 HLC.out.1
      have c2 := cell_later H8.out.1 HLC.out.2
      obtain ⟨i0, i1, i2, i3, iz, il⟩ := cells4 H8.out.2.1
      have r1 : ¬ (k : Int) < 0 := by omega
      have r2 : (k : Int) < (N : Int) := by omega
      have r3 : ¬ wd < lo := by omega
      have r4 : ¬ hi_ < wd := by omega
      go_wp2_with (go_at_call 20; refine stop_o ?_)
      unfold StopO
      have ht8 : TriAt w8 (some x) ls := tri_below HT.out (HB4.out.trans (H8.out.1.mono HB4.out.size))
      refine (HTU.out X c w8 ht8 H8.out.2.2).mono ?_
      rintro e w9 ⟨rfl, hb9⟩
      have H9 := Lib.hid (⟨H8.out.1.trans (hb9.mono H8.out.1.size), kept_of hb9 H8.out.2.1, insok_below H8.out.2.2 hb9⟩ : _ ∧ _ ∧ _)
      clear H8 hb9 HTU ht8 c1 c2 i0 i1 i2 i3 iz il HTT
      obtain ⟨i0, i1, i2, i3, iz, il⟩ := cells4 H9.out.2.1
      have r5 : ¬ wd < tin := by omega
      have HLE := Lib.hid (leads_any ins X c w9 H9.out.2.2.1 H9.out.2.2.2.1 H9.out.2.2.2.2.1 hic H9.out.2.2.2.2.2)
      unfold insV at HLE
      by_cases hrf : ins.code = 228
      · obtain ⟨e1, e2⟩ := HA.out.2.2.2.2.2 hrf
        have e3 : (wd == tin) = true := by rw [beq_iff_eq]; omega
        rw [hrf] at i1
        clear HLE HSTEP
        go_wp2
        go_ret
        exact ⟨rfl, HB4.out.trans (H9.out.1.mono HB4.out.size)⟩
      · have hrf2 : (ins.code == 228) = false := by rw [beq_eq_false_iff_ne]; exact hrf
        go_wp2_with (go_at_call 21; refine stop_o ?_)
        unfold StopO
        refine HLE.out.mono ?_
        rintro e w10 ⟨vt, rfl, ot, hb10⟩
        have OT := Lib.hid ot
        have hs910 := hb10.size
        have H10 := Lib.hid (⟨H9.out.1.trans (hb10.mono H9.out.1.size), kept_of hb10 H9.out.2.1⟩ : _ ∧ _)
        clear H9 hb10 ot HLE i0 i1 i2 i3 iz il
        obtain ⟨i0, i1, i2, i3, iz, il⟩ := cells4 H10.out.2
        have HEN := Lib.hid (lends_any ins (.slice X ins.imm.length c) w10)
        unfold insV at HEN
        obtain ⟨XT', cT', rfl⟩ := owns_shape OT.out
        go_wp2_with (go_at_call 22; refine stop_o ?_)
        unfold StopO
        refine HEN.out.mono ?_
        rintro e w11 ⟨rfl, hb11⟩
        have OT2 := Lib.hid (own_below OT.out hb11)
        have H11 := Lib.hid (⟨H10.out.1.trans (hb11.mono H10.out.1.size), kept_of hb11 H10.out.2⟩ : _ ∧ _)
        have hs911 : w9.heap.size ≤ w11.heap.size := Nat.le_trans hs910 hb11.size
        clear H10 hb11 OT i0 i1 i2 i3 iz il HEN
        obtain ⟨i0, i1, i2, i3, iz, il⟩ := cells4 H11.out.2
        go_upto_if 123 with fail
        obtain ⟨ti, hti⟩ : ∃ ti, ti = tosI ins := ⟨_, rfl⟩
        have HTI := Lib.hid hti
        clear hti
        go_cut [21] from 55 to 155 (fun s21 wx => wx.ownsRow w9.heap.size 3 1 s21 ti.length (intVs ti) ∧ Below w11.heap.size w11 wx)
        case first =>
          cases hends : (opR ins.code).ends with
          | true =>
            have hte : ti = leadsI ins := by rw [HTI.out]; unfold tosI; rw [hends]; simp
            go_wp2_with fail
            go_meet
            exact ⟨by rw [hte]; exact OT2.out, Below.refl _ _⟩
          | false =>
            have hte : ti = leadsI ins ++ [ins.next] := by rw [HTI.out]; unfold tosI; rw [hends]; simp
            have hlen := leadsI_len HA.out.1
            obtain ⟨j0, gi0, gz0, gz1, gz2⟩ := info_parts infoInt
            go_wp2_with fail
            refine (wpIn_wide (n := 8)).1 ?_
            refine region_split 6 ?_
            simp only [List.take_succ_cons, List.take_zero, List.drop_succ_cons, List.drop_zero]
            refine wpIn_region_two (w0 := w11) (fun j => ([.slice XT' (leadsI ins).length cT', undef, .pointer (some ⟨gi, 3, none⟩), .int .i64 ins.next, undef, undef] : List Value).getD j undef) 1 4 5
              (fun v W => W.ownsRow w11.heap.size 3 1 v (leadsI ins).length (intVs (leadsI ins))) (fun v W => ∃ z, v = .slice (some ⟨z, 0, none⟩) 1 1 ∧ W.heap[z]? = some (.cells #[.int .i64 ins.next] 3 (0, 0)))
              (fun v W => W.ownsRow w11.heap.size 3 1 v ((leadsI ins).length + 1) (intVs (leadsI ins) ++ [.int .i64 ins.next]) ∧ Below w11.heap.size w11 W)
              (by kernel_rfl) (by kernel_rfl) rfl (by kernel_rfl) (by kernel_rfl) (by kernel_rfl) (by kernel_rfl) (by decide) rfl (by kernel_rfl) (fun v W W' h hb => own_below h hb) (fun v W W' h hb => (by obtain ⟨z, e1, e2⟩ := h; exact ⟨z, e1, kept_of hb e2⟩)) ?hp ?h1 ?h2 ?h3 ?hend
            case hp =>
              intro i o hi6 hn1 hn2 ho σ ρ hr W hB
              have i3' := cell_later hB i3
              rcases (show i = 0 ∨ i = 2 ∨ i = 3 by omega) with rfl | rfl | rfl
              · change (_ : List Oper)[0]? = some o at ho
                simp only [List.getElem?_cons_zero, Option.some.injEq] at ho
                subst ho
                have e21 : ρ (.tmp 21) = .slice XT' (leadsI ins).length cT' := hr.rest 21 (by kernel_rfl)
                exact ⟨rfl, .inl (by go_simp)⟩
              · change (_ : List Oper)[2]? = some o at ho
                simp only [List.getElem?_cons_succ, List.getElem?_cons_zero, Option.some.injEq] at ho
                subst ho
                have e15 : ρ (.tmp 15) = .pointer (some ⟨gi, 0, none⟩) := hr.rest 15 (by kernel_rfl)
                exact ⟨rfl, .inl (by go_simp)⟩
              · change (_ : List Oper)[3]? = some o at ho
                simp only [List.getElem?_cons_succ, List.getElem?_cons_zero, Option.some.injEq] at ho
                subst ho
                have e126 : ρ (.tmp 126) = .pointer (some ⟨gi, 3, none⟩) := hr.deps ⟨2, .data⟩ (by simp) rfl _ _ rfl rfl
                exact ⟨rfl, .inl (by go_simp)⟩
            case h1 =>
              intro o ho σ ρ hr W hB
              change (_ : List Oper)[1]? = some o at ho
              simp only [List.getElem?_cons_succ, List.getElem?_cons_zero, Option.some.injEq] at ho
              subst ho
              have e124 : ρ (.tmp 124) = .slice XT' (leadsI ins).length cT' := hr.deps ⟨0, .data⟩ (by simp) rfl _ _ rfl rfl
              have hcst := hr.const
              have hsrc := own_below OT2.out hB
              obtain ⟨v', w', hrun, h2, h3⟩ := run_append_src (P := Tryd.prog) W W.heap.size 43 43 3 j0 (.int .i64 0) 1 8 Tryd.underlying43 gi0 gz0 gz1 gz2 rfl (by decide) (.slice none 0 0) 0 [] (World.ownsRow_nil _ _ _ _) XT' (leadsI ins).length cT' (intVs (leadsI ins))
                (own_none hsrc) (by simp [intVs]) (own_src hsrc) (fun u hu => (by obtain ⟨z, _, rfl⟩ := List.mem_map.1 hu; rfl)) (by unfold maxLen; omega) (by omega) (Nat.le_refl _)
              rw [Nat.zero_add, List.nil_append] at h2
              refine ⟨v', w', ⟨rfl, .inl ?_⟩, bel_own (Below.refl _ _) (World.ownsRow_nil W W.heap.size 3 1) (Nat.le_refl _) h3, own_lower h2 hB.size⟩
              show (execOp ρ _).run _ W = .ok (.value v') w'
              unfold execOp
              simp only [resolve, invoke, builtin, Sem.run_bind, Sem.run_pure, Result.andThen_ok, List.map_toArray, List.map_cons, List.map_nil, e124, hcst]
              rw [hrun]
              rfl
            case h2 =>
              intro o ho σ ρ hr W hB
              change (_ : List Oper)[4]? = some o at ho
              simp only [List.getElem?_cons_succ, List.getElem?_cons_zero, Option.some.injEq] at ho
              subst ho
              have e127 : ρ (.tmp 127) = .int .i64 ins.next := hr.deps ⟨3, .data⟩ (by simp) rfl _ _ rfl rfl
              exact ⟨.slice (some ⟨W.heap.size, 0, none⟩) 1 1, W.alloc (.cells #[.int .i64 ins.next] 3), ⟨rfl, .inl (by go_simp)⟩, (Below.refl _ _).alloc (Nat.le_refl _) _, W.heap.size, rfl, heap_alloc_new _ _⟩
            case h3 =>
              intro o ho σ ρ hr W hB hM1 hM2
              obtain ⟨z, ez, hz⟩ := hM2
              change (_ : List Oper)[5]? = some o at ho
              simp only [List.getElem?_cons_succ, List.getElem?_cons_zero, Option.some.injEq] at ho
              subst ho
              have e125 : ρ (.tmp 125) = σ.1 := hr.deps ⟨1, .data⟩ (by simp) rfl _ _ rfl rfl
              have e128 : ρ (.tmp 128) = σ.2.1 := hr.deps ⟨4, .data⟩ (by simp) rfl _ _ rfl rfl
              rw [ez] at e128
              obtain ⟨v', w', hrun, h2, h3⟩ := run_append_src (P := Tryd.prog) W w11.heap.size 43 43 3 j0 (.int .i64 0) 1 8 Tryd.underlying43 gi0 gz0 gz1 gz2 rfl (by decide) σ.1 (leadsI ins).length (intVs (leadsI ins)) hM1 (some ⟨z, 0, none⟩) 1 1 [.int .i64 ins.next]
                (fun e => (by cases e)) rfl (fun y hy j u hu => (by cases hy; rw [addr_zero]; simp only [World.cell?, hz]; simpa using hu)) (fun u hu => (by rw [List.mem_singleton.1 hu]; rfl)) (by unfold maxLen; omega) (by omega) hB.size
              refine ⟨v', w', ⟨rfl, .inl ?_⟩, h2, ?_⟩
              · show (execOp ρ _).run _ W = .ok (.value v') w'
                unfold execOp
                simp only [resolve, invoke, builtin, Sem.run_bind, Sem.run_pure, Result.andThen_ok, List.map_toArray, List.map_cons, List.map_nil, e125, e128]
                rw [hrun]
                rfl
              · exact bel_own hB hM1 (Nat.le_refl _) h3
            case hend =>
              intro listed a σ w hl hJ hM
              have ha := jt_act hJ hl (by kernel_rfl) (by simp only [List.size_toArray]; kernel_rfl)
              simp only [putAll, vals3, List.getD_cons_zero, List.getD_cons_succ, Nat.zero_add, Nat.reduceAdd, Nat.reduceEqDiff, if_true, if_false] at ha
              subst ha
              refine wpIn_oper_yld (v := σ.2.2) (w' := w) rfl ⟨rfl, .inl (by go_simp)⟩ ?_
              go_wp2_with fail
              go_meet
              refine ⟨?_, hM.2⟩
              rw [hte, List.length_append, show intVs (leadsI ins ++ [ins.next]) = intVs (leadsI ins) ++ [.int .i64 ins.next] by simp [intVs]]
              exact own_lower hM.1 hs911
        case rest =>
          obtain ⟨ot, hbc⟩ := hcut
          rw [← HTI.out] at HSTEP htl
          have hBc := H11.out.1.trans (hbc.mono H11.out.1.size)
          obtain ⟨tn, htn⟩ : ∃ tn, tn = ti.length := ⟨_, rfl⟩
          rw [← htn] at ot htl
          have HTN := Lib.hid htn
          obtain ⟨Xt, ct, rfl⟩ := owns_shape ot
          clear OT2 i0 i1 i2 i3 iz il HTI hbc htn
          by_cases hl0 : tn = 0
          · subst hl0
            clear HSTEP ot
            go_wp2
            go_ret
            exact ⟨rfl, HB4.out.trans (hBc.mono HB4.out.size)⟩
          · have r6 : ((tn : Int) == 0) = false := by rw [beq_eq_false_iff_ne]; omega
            obtain ⟨gt, rfl⟩ := own_head ot (by omega)
            by_cases hch : nn < cs.length
            · have r8 : (nn : Int) < (cs.length : Int) := by omega
              obtain ⟨y, rfl, hy⟩ := HCC.out nn hch
              replace hy := cell_later (HB4.out.trans (hBc.mono HB4.out.size)) hy
              generalize cs.getD nn 0 = kk at hy
              have hqb : -(tn : Int) < kk.tmod tn ∧ kk.tmod tn < tn := ⟨Int.lt_tmod_of_pos kk (by omega), Int.tmod_lt_of_pos kk (by omega)⟩
              obtain ⟨q, hq⟩ : ∃ q, kk.tmod tn = q := ⟨_, rfl⟩
              rw [hq] at hqb
              by_cases hq0 : q < 0
              · obtain ⟨m, hm⟩ : ∃ m : Nat, q + tn = m := ⟨(q + tn).toNat, by omega⟩
                have hmN : m < tn := by omega
                have hmw : wrap64 (q + (tn : Int)) = (m : Int) := by simp only [wrap64]; omega
                obtain ⟨n', b1, b2, b3, b4⟩ := HSTEP.out m (by have := HTN.out; omega)
                have tj : wc.cell? ⟨gt, m, none⟩ = some (.int .i64 ((allI bs).getD n' zeroI).at_) := (ot.cellAt m (by omega)).trans (by
                  unfold intVs
                  have htn := HTN.out
                  rw [List.getElem?_map, List.getElem?_eq_getElem (by omega), ← b2, List.getD_eq_getElem?_getD, List.getElem?_eq_getElem (by omega)]
                  rfl)
                have HO2 := Lib.hid (⟨b1, b3, b4⟩ : _ ∧ _ ∧ _)
                have r7 : (m : Int) < (tn : Int) := by omega
                obtain ⟨at', hat'⟩ : ∃ at', at' = ((allI bs).getD n' zeroI).at_ := ⟨_, rfl⟩
                rw [← hat'] at tj
                have HAT := Lib.hid hat'
                clear HSTEP b1 b2 b3 b4 ot hat'
                go_wp2
                exact ⟨⟨nn + 1, n', wd - tin + tout, rfl, by rw [HAT.out], by go_num, by omega, HO2.out.1, HO2.out.2.1, HO2.out.2.2, hBc⟩, by simp [intOf]; omega⟩
              · obtain ⟨m, rfl⟩ : ∃ m : Nat, q = m := ⟨q.toNat, by omega⟩
                have hmN : m < tn := by omega
                obtain ⟨n', b1, b2, b3, b4⟩ := HSTEP.out m (by have := HTN.out; omega)
                have tj : wc.cell? ⟨gt, m, none⟩ = some (.int .i64 ((allI bs).getD n' zeroI).at_) := (ot.cellAt m (by omega)).trans (by
                  unfold intVs
                  have htn := HTN.out
                  rw [List.getElem?_map, List.getElem?_eq_getElem (by omega), ← b2, List.getD_eq_getElem?_getD, List.getElem?_eq_getElem (by omega)]
                  rfl)
                have HO2 := Lib.hid (⟨b1, b3, b4⟩ : _ ∧ _ ∧ _)
                have r7 : (m : Int) < (tn : Int) := by omega
                obtain ⟨at', hat'⟩ : ∃ at', at' = ((allI bs).getD n' zeroI).at_ := ⟨_, rfl⟩
                rw [← hat'] at tj
                have HAT := Lib.hid hat'
                clear HSTEP b1 b2 b3 b4 ot hat'
                go_wp2
                exact ⟨⟨nn + 1, n', wd - tin + tout, rfl, by rw [HAT.out], by go_num, by omega, HO2.out.1, HO2.out.2.1, HO2.out.2.2, hBc⟩, by simp [intOf]; omega⟩
            · have r8 : ¬ (nn : Int) < (cs.length : Int) := by omega
              have hmb : (nn : Int).tmod tn = ((nn % tn : Nat) : Int) := by rw [Int.tmod_eq_emod_of_nonneg (by omega)]; rfl
              obtain ⟨m, hm⟩ : ∃ m : Nat, m = nn % tn := ⟨_, rfl⟩
              have hmN : m < tn := by rw [hm]; exact Nat.mod_lt _ (by omega)
              rw [← hm] at hmb
              clear hm
              obtain ⟨n', b1, b2, b3, b4⟩ := HSTEP.out m (by have := HTN.out; omega)
              have tj : wc.cell? ⟨gt, m, none⟩ = some (.int .i64 ((allI bs).getD n' zeroI).at_) := (ot.cellAt m (by omega)).trans (by
                unfold intVs
                have htn := HTN.out
                rw [List.getElem?_map, List.getElem?_eq_getElem (by omega), ← b2, List.getD_eq_getElem?_getD, List.getElem?_eq_getElem (by omega)]
                rfl)
              have HO2 := Lib.hid (⟨b1, b3, b4⟩ : _ ∧ _ ∧ _)
              have r7 : (m : Int) < (tn : Int) := by omega
              obtain ⟨at', hat'⟩ : ∃ at', at' = ((allI bs).getD n' zeroI).at_ := ⟨_, rfl⟩
              rw [← hat'] at tj
              have HAT := Lib.hid hat'
              clear HSTEP b1 b2 b3 b4 ot hat'
              go_wp2
              exact ⟨⟨nn + 1, n', wd - tin + tout, rfl, by rw [HAT.out], by go_num, by omega, HO2.out.1, HO2.out.2.1, HO2.out.2.2, hBc⟩, by simp [intOf]; omega⟩
    · have q1 : ¬ (nn : Int) < 2000 := by omega
      go_wp2
      go_ret
      exact ⟨rfl, HB4.out.trans (hB.mono HB4.out.size)⟩
end Go.Proofs.YtfjmdffhfjnopaaDoor
