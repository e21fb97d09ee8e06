/- vouchlaw7.again: the same lists, one byte and one type written over. -/
import Derived.Test.YtfjmdffhfjnopaaDoorFlowH
import Derived.Test.YtfjmdffhfjnopaaDoorStay7
import Derived.Test.YtfjmdffhfjnopaaDoorRHeights7
import Derived.Laws.Closers25b
namespace Go.Vk
theorem trCells_set0 : ∀ {ls : List Tri} {k : Nat} (z : Int), k < ls.length → (trCells ls).set (k * 3) (.int .i64 z) = trCells (ls.set k (z, (ls.getD k zeroTri).2.1, (ls.getD k zeroTri).2.2))
  | [], _, _, h => by simp at h
  | t :: r, 0, z, _ => by simp [trCells]
  | t :: r, k + 1, z, h => by
    rw [trCells_cons, show (k + 1) * 3 = k * 3 + 3 by omega, List.set_cons_succ, List.set_cons_succ, List.set_cons_succ, trCells_set0 z (by simpa using h)]
    simp [trCells_cons]
end Go.Vk
namespace Go.Proofs.YtfjmdffhfjnopaaDoor
open Go.RowKit Vouch Go.Vk Go.Sort
theorem rheights_tri (ls : List Tri) (A : Option Addr) (capT : Nat) (s : Int) (bs : List Int) (B : Option Addr) (capB : Nat) (w : World) (ht : TriAt w A ls) (hc : IntsAt w .u8 B bs) (hz : ∀ z ∈ bs, 0 ≤ z ∧ z < 256) (hn : bs.length ≤ 1048576) (hcap : bs.length ≤ capB) (htn : ls.length ≤ 1048576) :
    Calls Tryd.prog 33 #[.slice A ls.length capT, .int .i64 s, .slice B bs.length capB] w (HeightsOut (ls.map triTy) s bs w) := by
  have h := rheights7_any (ls.map triTy) A capT s bs B capB w (tys_tri ht) hc hz hn hcap (by simpa using htn)
  rw [List.length_map] at h
  exact h
theorem hgTri_len (bs : List Int) (hs : List (Int × Int)) : (hgTri (allI bs) hs).length ≤ bs.length := by
  obtain ⟨q, hq, _⟩ := allI_reads bs
  have := reads_length hq
  have := reads_pos hq
  unfold hgTri
  rw [List.length_map, List.length_zip]
  omega
/-- Both answers are one. -/
theorem out_tri {ts : List Ty} {s : Int} {bs : List Int} {w w' : World} {e : Ending} (h : HeightsOut ts s bs w e w') : ∃ (L : List Tri) (X : Option Addr) (c : Nat) (er pl : Int), L = hgTri (allI bs) (heightsE ts s bs).1 ∧ er = (heightsE ts s bs).2.1 ∧ pl = (heightsE ts s bs).2.2 ∧ e = .returned (.tuple #[.slice X L.length c, .int .i64 er, .int .i64 pl]) ∧ w'.ownsRow w.heap.size 38 3 (.slice X L.length c) L.length (trCells L) ∧ Below w.heap.size w w' := by
  obtain ⟨v, rfl, ho, hb⟩ := h
  rw [hgCells_tri] at ho
  have hl : (heightsE ts s bs).1.length = (hgTri (allI bs) (heightsE ts s bs).1).length := by
    rcases heightsE_shape ts s bs with ⟨_, h⟩ | ⟨_, hs, h, hl⟩ | ⟨_, e, n, h, _⟩
    · rw [h]; simp [hgTri]
    · rw [h]
      show hs.length = _
      unfold hgTri
      simp
      omega
    · rw [h]; simp [hgTri]
  rw [hl] at ho
  obtain ⟨X, c, rfl⟩ := owns_shape ho
  exact ⟨_, X, c, _, _, rfl, rfl, rfl, rfl, ho, hb⟩
set_option maxHeartbeats 2000000 in
set_option maxRecDepth 100000 in
theorem again_any (ls : List Tri) (s : Int) (bs : List Int) (gt gw cT cW B0 : Nat) (w : World) (hT : w.ownsRow B0 35 3 (.slice (some ⟨gt, 0, none⟩) ls.length cT) ls.length (trCells ls)) (hW : w.ownsRow B0 5 1 (.slice (some ⟨gw, 0, none⟩) bs.length cW) bs.length (byteVs bs)) (hz : ∀ z ∈ bs, 0 ≤ z ∧ z < 256) (hl : ls.length ≤ 1048576) (hn : bs.length ≤ 1048576) (hB0 : B0 ≤ w.heap.size) :
    Calls Tryd.prog 34 #[.slice (some ⟨gt, 0, none⟩) ls.length cT, .int .i64 s, .slice (some ⟨gw, 0, none⟩) bs.length cW] w fun e w' => e = .returned (.bool true) ∧ Below B0 w w' ∧ ∀ k o, k ≠ gt → k ≠ gw → w.heap[k]? = some o → w'.heap[k]? = some o := by
  have hgt : B0 ≤ gt ∧ gt < w.heap.size := hT.lt gt rfl
  have hgw : B0 ≤ gw ∧ gw < w.heap.size := hW.lt gw rfl
  have hne : gt ≠ gw := by
    obtain ⟨ca, h1⟩ := own_block7 hT rfl
    obtain ⟨cb, h2⟩ := own_block7 hW rfl
    exact apart_of h1 h2 (by decide)
  have HG := Lib.hid (⟨hgt, hgw, hne⟩ : _ ∧ _ ∧ _)
  have HT := Lib.hid hT
  have HW := Lib.hid hW
  have HZ := Lib.hid hz
  clear hT hW hz hgt hgw hne
  obtain ⟨n, hnn⟩ : ∃ n, bs.length = n := ⟨_, rfl⟩
  obtain ⟨m, hmm⟩ : ∃ m, ls.length = m := ⟨_, rfl⟩
  rw [hnn] at HW hn ⊢
  rw [hmm] at HT hl ⊢
  have HN := Lib.hid (⟨hnn, hmm⟩ : _ ∧ _)
  clear hnn hmm
  have hB0' := Lib.hid hB0
  clear hB0
  go_enter Tryd.func34, Tryd.ntmps34
  go_upto_if 16 with fail
  go_cut [16] from 7 to 27 (fun s16 wx => ∃ bs' : List Int, Hid (bs'.length = n ∧ (∀ z ∈ bs', 0 ≤ z ∧ z < 256) ∧ wx.ownsRow B0 5 1 (.slice (some ⟨gw, 0, none⟩) n cW) n (byteVs bs') ∧ wx.ownsRow B0 35 3 (.slice (some ⟨gt, 0, none⟩) m cT) m (trCells ls) ∧ Below B0 w wx ∧ ∀ k o, k ≠ gt → k ≠ gw → w.heap[k]? = some o → wx.heap[k]? = some o))
  case first =>
    by_cases h0 : 0 < n
    · have h0i : (0 : Int) < (n : Int) := by omega
      have hd : ((n : Int) / 2) = ((n / 2 : Nat) : Int) := by omega
      have hlt : n / 2 < n := by omega
      have hlt2 : ((n / 2 : Nat) : Int) < (n : Int) := by omega
      obtain ⟨q, hq⟩ : ∃ q, n / 2 = q := ⟨_, rfl⟩
      rw [hq] at hd hlt hlt2
      obtain ⟨z, hz⟩ : ∃ z, bs[q]? = some z := ⟨_, List.getElem?_eq_getElem (by have := HN.out.1; omega)⟩
      have hc := own_cell HW.out (j := q) (v := .int .u8 z) (by unfold byteVs; rw [List.getElem?_map, hz]; rfl)
      obtain ⟨hc1, hc2⟩ := hc
      have HQ := Lib.hid (⟨hq, hz, hlt⟩ : _ ∧ _ ∧ _)
      clear hq hz
      go_wp2_with fail
      go_meet
      refine ⟨bs.set q (Go.bits .xor .u8 z 1), Lib.hid ⟨by rw [List.length_set]; exact HN.out.1, fun x hx => ?_, ?_, ?_, (Below.refl _ _).setCell HG.out.2.1.1 _, fun k o h1 h2 h => heap_setOther h h2 _⟩⟩
      · rcases List.mem_or_eq_of_mem_set hx with h | rfl
        · exact HZ.out x h
        · have := bits_lo_u8 .xor z 1
          have := bits_hi_u8 .xor z 1
          omega
      · have := own_set HW.out q (.int .u8 (Go.bits .xor .u8 z 1))
        unfold byteVs at this ⊢
        rw [List.map_set]
        exact this
      · obtain ⟨cb, h2⟩ := own_block7 HW.out rfl
        exact own_setBlock HT.out (a := ⟨gw, q, none⟩) h2 (by decide) _
    · have h0i : ¬ (0 : Int) < (n : Int) := by omega
      go_wp2_with fail
      go_meet
      exact ⟨bs, Lib.hid ⟨HN.out.1, HZ.out, HW.out, HT.out, Below.refl _ _, fun k o _ _ h => h⟩⟩
  case rest =>
    obtain ⟨bs', HC⟩ := hcut
    clear HW HT HZ
    go_upto_if 30 with fail
    go_cut [30] from 31 to 44 (fun s30 wx => ∃ ls' : List Tri, Hid (ls'.length = m ∧ wx.ownsRow B0 5 1 (.slice (some ⟨gw, 0, none⟩) n cW) n (byteVs bs') ∧ wx.ownsRow B0 35 3 (.slice (some ⟨gt, 0, none⟩) m cT) m (trCells ls') ∧ Below B0 w wx ∧ ∀ k o, k ≠ gt → k ≠ gw → w.heap[k]? = some o → wx.heap[k]? = some o))
    case first =>
      by_cases h0 : 0 < m
      · have h0i : (0 : Int) < (m : Int) := by omega
        have hlt : m - 1 < m := by omega
        have hz1 : (0 : Int) ≤ (m : Int) - 1 := by omega
        have hz2 : (m : Int) - 1 < (m : Int) := by omega
        have ht : ((m : Int) - 1).toNat = m - 1 := by omega
        obtain ⟨_, _, h3, h4, h5, h6⟩ := HC.out
        have hq := (trCells_at (ls := ls) (k := m - 1) (by rw [HN.out.2]; exact hlt)).1
        have c0 := (h4.cellAt ((m - 1) * 3) (by omega)).trans hq
        have f0 := h4.frozenAt ((m - 1) * 3)
        generalize (ls.getD (m - 1) zeroTri).1 = z at c0
        have HQ := Lib.hid hlt
        have hwr : wrap64 ((m : Int) - 1) = (m : Int) - 1 := (wrap_st7 (by omega) (by omega)).1
        clear hq hlt h3 h4 h5 h6
        go_wp2_with fail
        go_meet
        obtain ⟨_, _, h3, h4, h5, h6⟩ := HC.out
        refine ⟨ls.set (m - 1) (Go.bits .xor .i64 z 1, (ls.getD (m - 1) zeroTri).2.1, (ls.getD (m - 1) zeroTri).2.2), Lib.hid ⟨by rw [List.length_set]; exact HN.out.2, ?_, ?_, h5.setCell HG.out.1.1 _, fun k o h1 h2 h => heap_setOther (h6 k o h1 h2 h) h1 _⟩⟩
        · obtain ⟨cb, h2⟩ := own_block7 h4 rfl
          exact own_setBlock h3 (a := ⟨gt, (m - 1) * 3, none⟩) h2 (by decide) _
        · rw [← trCells_set0 _ (by rw [HN.out.2]; exact HQ.out)]
          exact own_setN h4 _ _
      · have h0i : ¬ (0 : Int) < (m : Int) := by omega
        go_wp2_with fail
        go_meet
        exact ⟨ls, Lib.hid ⟨HN.out.2, HC.out.2.2.1, HC.out.2.2.2.1, HC.out.2.2.2.2⟩⟩
    case rest =>
      obtain ⟨ls', HD⟩ := hcut
      obtain ⟨hbl, hbz, _⟩ := HC.out
      obtain ⟨hll, hbo, hto, hB, hk⟩ := HD.out
      clear HC HD
      subst hbl
      subst hll
      have hbi := owned_ints hbo
      have hti := tri_owned hto
      have hcw := owned_cap hbo
      have HH1 := Lib.hid (heights_tri ls' (some ⟨gt, 0, none⟩) cT s bs' (some ⟨gw, 0, none⟩) cW wc hti hbi hbz hn hcw hl)
      have HX := Lib.hid (⟨hbi, hti, hcw, hbz, hB, hk⟩ : _ ∧ _ ∧ _ ∧ _ ∧ _ ∧ _)
      clear hbi hti hcw hbz hB hk hbo hto
      go_wp2_with (go_at_call 16; refine stop_o ?_)
      unfold StopO
      refine HH1.out.mono ?_
      intro e W1 ho1
      obtain ⟨L, X1, c1, er, pl, hL, her, hpl, rfl, hown1, hb1⟩ := out_tri ho1
      have HE1 := Lib.hid (⟨hL, her, hpl⟩ : _ ∧ _ ∧ _)
      have HO1 := Lib.hid hown1
      have HB1 := Lib.hid hb1
      clear HH1 ho1 hL her hpl hown1 hb1
      have HT1 := Lib.hid (ownT_any ls' (some ⟨gt, 0, none⟩) cT W1 (tri_below HX.out.2.1 HB1.out) (fun h => by cases h) (by omega))
      go_wp2_with (go_at_call 17; refine stop_o ?_)
      unfold StopO
      refine HT1.out.mono ?_
      rintro e W2 ⟨X2, c2, rfl, hown2, hb2⟩
      have HO2 := Lib.hid (tri_owned hown2)
      have HB2 := Lib.hid (HB1.out.trans (hb2.mono HB1.out.size))
      have HO1b := Lib.hid (own_below HO1.out hb2)
      clear HT1 hown2 hb2 HO1 HB1
      have HT2 := Lib.hid (own7_any bs' (some ⟨gw, 0, none⟩) cW W2 (ints_below HB2.out HX.out.1) (fun h => by cases h) (by omega))
      go_wp2_with (go_at_call 18; refine stop_o ?_)
      unfold StopO
      refine HT2.out.mono ?_
      rintro e W3 ⟨X3, c3, rfl, hown3, hb3⟩
      have HB3 := Lib.hid (HB2.out.trans (hb3.mono HB2.out.size))
      have HO1 := Lib.hid (own_below HO1b.out hb3)
      have HH3 := Lib.hid (rheights_tri ls' X2 c2 s bs' X3 c3 W3 (tri_below HO2.out hb3) (owned_ints hown3) HX.out.2.2.2.1 hn (owned_cap hown3) hl)
      clear HT2 hown3 hb3 HO1b HB2 HO2
      go_wp2_with (go_at_call 33; refine stop_o ?_)
      unfold StopO
      refine HH3.out.mono ?_
      intro e W4 ho4
      obtain ⟨L', X4, c4, er', pl', hL, her, hpl, rfl, hown4, hb4⟩ := out_tri ho4
      obtain ⟨a1, a2, a3⟩ := HE1.out
      have hLn : L'.length ≤ 140737488355328 := by rw [hL]; have := hgTri_len bs' (heightsE (ls'.map triTy) s bs').1; omega
      have e1 : L' = L := by rw [hL, a1]
      have e2 : er' = er := by rw [her, a2]
      have e3 : pl' = pl := by rw [hpl, a3]
      clear hL her hpl a1 a2 a3 ho4 HH3
      subst e1 e2 e3
      have HS := Lib.hid (same7_eq L' X1 X4 c1 c4 W4 (tri_owned (own_below HO1.out hb4)) (tri_owned hown4) hLn)
      have HB4 := Lib.hid (HB3.out.trans (hb4.mono HB3.out.size))
      clear hown4 hb4 HB3 HO1
      go_wp2_with (go_at_call 26; refine stop_o ?_)
      unfold StopO
      refine HS.out.mono ?_
      rintro e W5 ⟨rfl, hb5⟩
      have HB5 := Lib.hid (HB4.out.trans (hb5.mono HB4.out.size))
      clear hb5 HS HB4
      go_wp2
      go_ret
      exact ⟨rfl, HX.out.2.2.2.2.1.trans (HB5.out.mono (Nat.le_trans hB0'.out HX.out.2.2.2.2.1.size)), fun k o h1 h2 h => kept_of HB5.out (HX.out.2.2.2.2.2 k o h1 h2 h)⟩
end Go.Proofs.YtfjmdffhfjnopaaDoor
