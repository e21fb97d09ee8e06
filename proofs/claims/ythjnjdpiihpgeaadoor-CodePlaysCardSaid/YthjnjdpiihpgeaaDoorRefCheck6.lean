/- vouchref6.Check: the document's answer. -/
import Derived.Test.YthjnjdpiihpgeaaDoorRefStarts6
namespace Go.Proofs.YthjnjdpiihpgeaaDoor
open Go.RowKit Vouch Go.Vk Go.Sort
set_option maxHeartbeats 1000000 in
set_option maxRecDepth 100000 in
theorem refcheck_any (bs : List Int) (A : Option Addr) (cap : Nat) (w : World) (hc : IntsAt w .u8 A bs) (hz : ∀ z ∈ bs, 0 ≤ z ∧ z < 256) (hn : bs.length ≤ 4294967296) :
    Calls Tryd.prog 33 #[.slice A bs.length cap] w (CheckOut bs w) := by
  have HSC := Lib.hid (refscan_any bs A cap w hc hz hn)
  have HSS := Lib.hid (fun w1 (hb : Below w.heap.size w w1) => refstarts_any bs A cap w1 (ints_below hb hc) hz hn)
  have HZ := Lib.hid hz
  clear hc hz
  go_enter Tryd.func33, Tryd.ntmps33
  go_wp2_with (go_at_call 34; refine stop_o ?_)
  unfold StopO
  refine HSC.out.mono ?_
  rintro e w1 ⟨xs, ys, v, hall, rfl, hown, hrows, hys, hb1⟩
  have HALL := Lib.hid hall
  rcases hys with ⟨h0, hxy⟩ | ⟨h0, hxy⟩
  · obtain rfl : xs = ys := hxy.symm
    rw [h0]
    have HSE := Lib.hid h0
    clear h0 hall
    go_wp2_with (go_at_call 35; refine stop_o ?_)
    unfold StopO
    refine (HSS.out w1 hb1).mono ?_
    rintro e w2 ⟨rfl, xs', hall', hrow, hb2⟩
    rw [all_same HALL.out hall'] at hrow
    have hB2 := hb1.trans (hb2.mono hb1.size)
    clear hall'
    have hlen : xs.length ≤ bs.length := by
      obtain ⟨p, hp, _⟩ := HALL.out
      have := reads_length hp
      simpa using this
    obtain ⟨Xl, cl, rfl⟩ := owns_shape hown
    have HOWN := Lib.hid (own_below hown hb2)
    have HROWS := Lib.hid (fun x hx => own_below (hrows x hx) hb2)
    clear hown hrows
    go_wp2
    go_loopw [8] (fun vk wr => ∃ k : Nat, vk = .int .i64 k ∧ k ≤ xs.length ∧ (∀ m, m < k → badI bs.length (xs.map Prod.fst) ((xs.map Prod.fst).getD m zeroI) = false) ∧ Below w2.heap.size w2 wr) (fun vk _ => xs.length - (intOf vk).toNat)
    case atStart => exact ⟨0, rfl, Nat.zero_le _, fun m h => absurd h (Nat.not_lt_zero _), Below.refl _ _⟩
    case round =>
      obtain ⟨k, rfl, hk, hgood, hBr⟩ := hrel
      have HG := Lib.hid hgood
      clear hgood
      by_cases hlt : k < xs.length
      · obtain ⟨⟨i, yv⟩, hy⟩ : ∃ y, xs[k]? = some y := ⟨_, List.getElem?_eq_getElem hlt⟩
        obtain ⟨hr1, hr2, hr3, hr4⟩ := insCells_at hy
        have hyr := HROWS.out _ (List.mem_of_getElem? hy)
        have hik : (xs.map Prod.fst)[k]? = some i := by rw [List.getElem?_map, hy]; rfl
        dsimp only at hr1 hr2 hr3 hr4
        replace hyr : w2.ownsRow w.heap.size 5 1 yv i.imm.length (byteVs i.imm) := hyr
        obtain ⟨X, c, rfl⟩ := owns_shape hyr
        obtain ⟨gl, rfl⟩ := own_head HOWN.out (by omega)
        obtain ⟨q, hq1, hq2⟩ : ∃ q, Reads bs ((xs.take k).map Prod.fst) q ∧ readE bs q = (0, i) := by
          obtain ⟨p, hp, _⟩ := HALL.out
          exact reads_at hp hy
        obtain ⟨hq0, hqn, hq5, hat, hnx, hil⟩ := read_next hq2
        have him := (read_parts hq2).2.2.1
        have hib : ∀ z ∈ i.imm, 0 ≤ z ∧ z < 256 := fun z h => by
          rw [him] at h
          exact HZ.out z (List.mem_of_mem_drop (List.mem_of_mem_take h))
        have c0 := cell_later hBr ((HOWN.out.cellAt (k * 4) (by omega)).trans hr1)
        have c1 := cell_later hBr ((HOWN.out.cellAt (k * 4 + 1) (by omega)).trans hr2)
        have c2 := cell_later hBr ((HOWN.out.cellAt (k * 4 + 2) (by omega)).trans hr3)
        have c3 := cell_later hBr ((HOWN.out.cellAt (k * 4 + 3) (by omega)).trans hr4)
        have HIK := Lib.hid hik
        have hnw : (Lit.int .i64 i.next).wf = true := wf64 (by omega) (by omega)
        have hLm := leadsI_len hib
        have HAT := Lib.hid hat
        have HNX := Lib.hid hnx
        have h1 : (k : Int) < (xs.length : Int) := by omega
        have HL := Lib.hid (rleads_any i X c _ (ints_below hBr (owned_ints hyr)) hib (by omega) hnw)
        unfold insV at HL
        clear hr1 hr2 hr3 hr4 hq2 hq1 him hik hy hat hnx hib
        have hrow3 := row_below hrow hBr
        go_wp2_with (go_at_call 29; refine stop_o ?_)
        unfold StopO
        refine HL.out.mono ?_
        rintro e w4 ⟨vl, rfl, hol, hb4⟩
        obtain ⟨Xt, ct, rfl⟩ := owns_shape hol
        have hrow4 := row_below hrow3 hb4
        have HC0 := Lib.hid (cell_later hb4 c0)
        have hB4 := hBr.trans (hb4.mono hBr.size)
        have HLI := Lib.hid (owned_ints64 hol)
        clear hol c0 c1 c2 c3 hrow3
        go_wp2
        go_loopw [10] (fun vj wx => ∃ j : Nat, vj = .int .i64 j ∧ j ≤ (leadsI i).length ∧ (∀ m, m < j → goodTo bs.length (xs.map Prod.fst) ((leadsI i).getD m 0) = true) ∧ Below w4.heap.size w4 wx) (fun vj _ => (leadsI i).length - (intOf vj).toNat)
        case atStart => exact ⟨0, rfl, Nat.zero_le _, fun m h => absurd h (Nat.not_lt_zero _), Below.refl _ _⟩
        case round =>
          obtain ⟨j, rfl, hj, hgd, hBj⟩ := hrel
          have HGD := Lib.hid hgd
          clear hgd
          have hrow5 := row_below hrow4 hBj
          have d0 := cell_later hBj HC0.out
          by_cases hjl : j < (leadsI i).length
          · obtain ⟨y, rfl, hy⟩ := HLI.out j hjl
            have hy' := cell_later hBj hy
            have hj1 : (j : Int) < ((leadsI i).length : Int) := by omega
            have HBAD := Lib.hid (fun (h : goodTo bs.length (xs.map Prod.fst) ((leadsI i).getD j 0) = false) => check_bad HSE.out HIK.out HG.out hjl h)
            have HSN := Lib.hid (fun (h : goodTo bs.length (xs.map Prod.fst) ((leadsI i).getD j 0) = true) m (hm : m < j + 1) => if e : m < j then HGD.out m e else (by rw [show m = j by omega]; exact h))
            generalize (leadsI i).getD j 0 = t at hy' HBAD HSN
            clear hy
            have HROW := Lib.hid hrow5
            by_cases ht0 : t < 0
            · have hb := HBAD.out (by unfold goodTo; rw [decide_eq_false (by omega)]; rfl)
              have HB := Lib.hid hb
              clear hb
              go_wp2
              go_quiet (fail)
              go_wp2
              refine bodyPost_ret (results_tmp2 rfl _ _ _) rfl (checkOut_mk xs HALL.out (by rw [HB.out]; rfl) (below_drewN (hB2.trans ((hB4.trans (hBj.mono hB4.size)).mono hB2.size)) _))
            · by_cases ht1 : (bs.length : Int) ≤ t
              · have hb := HBAD.out (by unfold goodTo; rw [decide_eq_false (show ¬ t < (bs.length : Int) by omega)]; simp)
                have ht2 : ¬ t < (bs.length : Int) := by omega
                have HB := Lib.hid hb
                clear hb
                go_wp2
                go_quiet (fail)
                go_wp2
                refine bodyPost_ret (results_tmp2 rfl _ _ _) rfl (checkOut_mk xs HALL.out (by rw [HB.out]; rfl) (below_drewN (hB2.trans ((hB4.trans (hBj.mono hB4.size)).mono hB2.size)) _))
              · obtain ⟨q', hq'⟩ : ∃ q' : Nat, t = q' := ⟨t.toNat, by omega⟩
                subst hq'
                have hcq := HROW.out.cell (i := q') (by omega)
                cases hst : startAt (xs.map Prod.fst) q' with
                | true =>
                  have hs := HSN.out (by unfold goodTo; rw [decide_eq_true (by omega), decide_eq_true (by omega)]; simpa using hst)
                  rw [hst] at hcq
                  have HS := Lib.hid hs
                  clear hs hst
                  have ht3 : (q' : Int) < (bs.length : Int) := by omega
                  go_wp2
                  exact ⟨⟨j + 1, by go_num, by omega, HS.out, hBj⟩, by simp [intOf]; omega⟩
                | false =>
                  have hb := HBAD.out (by unfold goodTo; rw [decide_eq_true (by omega), decide_eq_true (by omega)]; simpa using hst)
                  rw [hst] at hcq
                  have ht3 : (q' : Int) < (bs.length : Int) := by omega
                  clear hst
                  have HB := Lib.hid hb
                  clear hb
                  go_wp2
                  go_quiet (fail)
                  go_wp2
                  refine bodyPost_ret (results_tmp2 rfl _ _ _) rfl (checkOut_mk xs HALL.out (by rw [HB.out]; rfl) (below_drewN (hB2.trans ((hB4.trans (hBj.mono hB4.size)).mono hB2.size)) _))
          · have hje : (leadsI i).length = j := by omega
            have hbn := bad_none (n := bs.length) (l := xs.map Prod.fst) (i := i) (fun m hm => HGD.out m (by omega))
            have hj1 : ¬ (j : Int) < ((leadsI i).length : Int) := by omega
            have HBN := Lib.hid (fun m (hm : m < k + 1) => (show badI bs.length (xs.map Prod.fst) ((xs.map Prod.fst).getD m zeroI) = false from if e : m < k then HG.out m e else (by rw [show m = k by omega, List.getD_eq_getElem?_getD, HIK.out]; exact hbn)))
            clear hbn hje
            go_wp2
            exact ⟨⟨k + 1, by go_num, by omega, HBN.out, hB4.trans (hBj.mono hB4.size)⟩, by simp [intOf]; omega⟩
      · have hk' : k = xs.length := by omega
        subst hk'
        have hck := check_good HSE.out (fun m hm => HG.out m (by simpa using hm))
        have HCK := Lib.hid hck
        have h1 : ¬ (xs.length : Int) < (xs.length : Int) := by omega
        clear hck
        go_wp2
        refine bodyPost_ret (results_tmp2 rfl _ _ _) rfl (checkOut_mk xs HALL.out (by rw [HCK.out]; rfl) (hB2.trans (hBr.mono hB2.size)))
  · subst hxy
    have hne : ((scanE bs (xs.map Prod.fst)).1 != 0) = true := by simpa using h0
    have hck : checkE bs (xs.map Prod.fst) = scanE bs (xs.map Prod.fst) := by unfold checkE; rw [if_neg h0]
    have HCK := Lib.hid hck
    generalize scanE bs (xs.map Prod.fst) = r at hne HCK ⊢
    clear h0 hck hall
    go_wp2
    refine bodyPost_ret (results_tmp2 rfl _ _ _) rfl (checkOut_mk xs HALL.out (by rw [HCK.out]; rfl) hb1)
end Go.Proofs.YthjnjdpiihpgeaaDoor
