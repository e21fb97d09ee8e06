/- vouchref7.Heights: the walk of the document's answer. -/
import Derived.Test.YtfjmdffhfjnopaaDoorFlowF
import Derived.Test.YtfjmdffhfjnopaaDoorRvg
import Derived.Test.YtfjmdffhfjnopaaDoorRef7P
import Derived.Test.YtfjmdffhfjnopaaDoorFlowL
namespace Go.Proofs.YtfjmdffhfjnopaaDoor
open Go.RowKit Vouch Go.Vk Go.Sort
theorem infoIntS : (Tryd.prog.info? 43).map (fun i => (i.zero, i.size, i.bytes)) = some (some (.slice none 0 0), 1, 24) := by kernel_rfl
theorem wrap_big7 {a : Int} (h0 : 0 ≤ a) (h1 : a ≤ 1000000000000) : wrap64 a = a := by unfold wrap64; omega
theorem vj7 (j : Nat) : Value.int .i64 ((j : Int) + 1) = .int .i64 ((j + 1 : Nat) : Int) := congrArg _ (by omega)
theorem vjw7 {j : Nat} (h : j ≤ 1000000000) : Value.int .i64 (wrap64 ((j : Int) + 1)) = .int .i64 ((j + 1 : Nat) : Int) := congrArg _ ((wrap_big7 (by omega) (by omega)).trans (by omega))
theorem measw7 {a j : Nat} (h : j < a) (hb : j ≤ 1000000000) : a - (intOf (.int .i64 (wrap64 ((j : Int) + 1)))).toNat < a - (intOf (.int .i64 (j : Int))).toNat := by
  rw [vjw7 hb]
  simp only [intOf, Int.toNat_natCast]
  omega
theorem measj7 {a j : Nat} (h : j < a) : a - (intOf (.int .i64 ((j : Int) + 1))).toNat < a - (intOf (.int .i64 (j : Int))).toNat := by
  simp only [intOf]
  omega
theorem hgCells_snoc {l : List Ins} {hs : List (Int × Int)} {h : Int × Int} (hl : hs.length < l.length) : hgCells l (hs ++ [h]) = hgCells l hs ++ [.int .i64 (l.getD hs.length zeroI).at_, .int .i64 h.1, .int .i64 h.2] := by
  have := hg_snoc (l := l) (hs := hs ++ [h]) (k := hs.length) hl (by simp)
  rw [List.take_of_length_le (by simp), getD_last, List.take_left] at this
  exact this
theorem toN_leads {l : List Ins} {n : Nat} {i : Ins} (h : l.getD n zeroI = i) : toN l n = (if (opR i.code).ends then [] else [n + 1]) ++ (leadsI i).map (idxI l) := by unfold toN; rw [h]
theorem hg_at7 {l : List Ins} {hs : List (Int × Int)} {k : Nat} (hk : k < hs.length) (hl : hs.length ≤ l.length) : (hgCells l hs)[k * 3 + 1]? = some (.int .i64 (hs.getD k (0, 0)).1) ∧ (hgCells l hs)[k * 3 + 2]? = some (.int .i64 (hs.getD k (0, 0)).2) := by
  rw [hgCells_tri]
  have hlen : (hgTri l hs).length = hs.length := by unfold hgTri; simp; omega
  obtain ⟨_, h1, h2⟩ := trCells_at (ls := hgTri l hs) (k := k) (by omega)
  have a1 : l[k]? = some (l.getD k zeroI) := by
    have h0 : k < l.length := by omega
    simp [List.getD_eq_getElem?_getD, h0]
  have a2 : hs[k]? = some (hs.getD k (0, 0)) := by simp [List.getD_eq_getElem?_getD, hk]
  have e : (hgTri l hs).getD k zeroTri = ((l.getD k zeroI).at_, (hs.getD k (0, 0)).1, (hs.getD k (0, 0)).2) := by
    unfold hgTri
    rw [List.getD_eq_getElem?_getD, List.getElem?_map, (List.getElem?_zip_eq_some (z := (l.getD k zeroI, hs.getD k (0, 0)))).2 ⟨a1, a2⟩]
    rfl
  rw [e] at h1 h2
  exact ⟨h1, h2⟩
theorem heap_set3_1 {w : World} {g t : Nat} {a0 a1 a2 : Value} {fr : Nat × Nat} (hg : w.heap[g]? = some (.cells #[a0, a1, a2] t fr)) (v : Value) : (w.setCell ⟨g, 1, none⟩ v).heap[g]? = some (.cells #[a0, v, a2] t fr) := by
  rw [setCell_eq_setRow w g 1 _ t fr v hg]
  exact setRow_heap _ _ _ _ _ _ hg
theorem heap_set3_2 {w : World} {g t : Nat} {a0 a1 a2 : Value} {fr : Nat × Nat} (hg : w.heap[g]? = some (.cells #[a0, a1, a2] t fr)) (v : Value) : (w.setCell ⟨g, 2, none⟩ v).heap[g]? = some (.cells #[a0, a1, v] t fr) := by
  rw [setCell_eq_setRow w g 2 _ t fr v hg]
  exact setRow_heap _ _ _ _ _ _ hg
/-- The join so far. -/
def Jn (own : Ty) (gs : List (Int × Int)) (n j : Nat) (a b : Int) : Prop := (j = 0 ∧ (n = 0 → (a, b) = (own.inn, own.inn))) ∨ (0 < j ∧ joinH (gs.take j) = some (a, b) ∧ Bnd (a, b))
theorem jn_first {own : Ty} {gs : List (Int × Int)} {n : Nat} {g : Int × Int} (hj : 0 < gs.length) (hg : gs.getD 0 (0, 0) = g) (hb : Bnd g) : Jn own gs n (0 + 1) g.1 g.2 := .inr ⟨by omega, by rw [joinH_take hj, List.take_zero, hg]; rfl, hb⟩
theorem jn_next {own : Ty} {gs : List (Int × Int)} {n j : Nat} {a b a' b' : Int} {g : Int × Int} (h : Jn own gs n j a b) (hj0 : j ≠ 0) (hj : j < gs.length) (hg : gs.getD j (0, 0) = g) (hb : Bnd g) (ha' : a' = min a g.1) (hb' : b' = max b g.2) : Jn own gs n (j + 1) a' b' := by
  rcases h with ⟨h0, _⟩ | ⟨_, h1, h2⟩
  · exact absurd h0 hj0
  · refine .inr ⟨by omega, ?_, ?_⟩
    · rw [joinH_take hj, h1, hg, ha', hb']
      rfl
    · rw [ha', hb']
      exact bnd_join h2 hb
theorem jn_head {ts : List Ty} {own : Ty} {l : List Ins} {hs : List (Int × Int)} {n N : Nat} {a b : Int} (hn : n ≤ N) (ho : Bnd (own.inn, own.inn)) (hne : n ≠ 0 → comesJ l N n ≠ []) (h : Jn own ((comesJ l N n).map fun k => goH ts own (l.getD k zeroI) (hs.getD k (0, 0))) n (comesJ l N n).length a b) :
    headH ts own l hs n = some (a, b) ∧ Bnd (a, b) := by
  rw [headH_J hn]
  by_cases h0 : n = 0
  · subst h0
    have e : comesJ l N 0 = [] := List.eq_nil_iff_forall_not_mem.2 fun k hk => by have := (comesJ_mem hk).2; omega
    rw [e] at h
    rcases h with ⟨_, h1⟩ | ⟨h1, _⟩
    · rw [if_pos rfl, h1 rfl]; exact ⟨rfl, ho⟩
    · simp at h1
  · rw [if_neg h0]
    rcases h with ⟨h1, _⟩ | ⟨_, h1, h2⟩
    · exact absurd (List.length_eq_zero_iff.1 h1) (hne h0)
    · rw [List.take_of_length_le (by simp)] at h1
      exact ⟨h1, h2⟩
/-- The instructions and their numbers, where they lie. -/
structure RH7 (ts : List Ty) (bs : List Int) (xs : List El) (A : Option Addr) (B gl cl gx : Nat) (W : World) : Prop where
  own : W.ownsRow B 94 4 (.slice (some ⟨gl, 0, none⟩) xs.length cl) xs.length (insCells xs)
  row : W.rowIs gx 3 bs.length (fun t => .int .i64 (idxV (allI bs) t))
  parts : PartsAt W xs
  tys : TysAt W A ts
theorem rh7_below {ts : List Ty} {bs : List Int} {xs : List El} {A : Option Addr} {B gl cl gx : Nat} {W W' : World} (h : RH7 ts bs xs A B gl cl gx W) (hb : Below W.heap.size W W') : RH7 ts bs xs A B gl cl gx W' :=
  ⟨own_below h.own hb, row_below h.row hb, fun x hx => by obtain ⟨X, c, a1, a2⟩ := h.parts x hx; exact ⟨X, c, a1, ints_below hb a2⟩, tys_below h.tys hb⟩
theorem rh7_ins {ts : List Ty} {bs : List Int} {xs : List El} {A : Option Addr} {B gl cl gx k : Nat} {W : World} (h : RH7 ts bs xs A B gl cl gx W) (hx : xs.map Prod.fst = allI bs) (hz : ∀ z ∈ bs, 0 ≤ z ∧ z < 256) (hn : bs.length ≤ 1048576) (hk : k < xs.length) :
    ∃ i X c, (allI bs).getD k zeroI = i ∧ InsOK W i X ∧ standsI i = true ∧ k < (allI bs).length ∧ W.cell? ⟨gl, k * 4, none⟩ = some (.int .i64 i.at_) ∧ W.cell? ⟨gl, k * 4 + 1, none⟩ = some (.int .i64 i.code) ∧ W.cell? ⟨gl, k * 4 + 2, none⟩ = some (.slice X i.imm.length c) ∧ W.cell? ⟨gl, k * 4 + 3, none⟩ = some (.int .i64 i.next) := by
  obtain ⟨i, X, c, hik, hxk, hio, hst, hka, _⟩ := part_at hx h.parts hz hn hk
  obtain ⟨a1, a2, a3, a4⟩ := insCells_at hxk
  exact ⟨i, X, c, hik, hio, hst, hka, (h.own.cellAt (k * 4) (by omega)).trans a1, (h.own.cellAt (k * 4 + 1) (by omega)).trans a2, (h.own.cellAt (k * 4 + 2) (by omega)).trans a3, (h.own.cellAt (k * 4 + 3) (by omega)).trans a4⟩
theorem below_setOld {W : World} {B g : Nat} {w : World} (h : Below B w W) (hg : B ≤ g) (o : Nat) (v : Value) : Below B w (W.setCell ⟨g, o, none⟩ v) := h.setCell hg v
set_option maxHeartbeats 4000000 in
set_option maxRecDepth 100000 in
theorem rheights7_any (ts : List Ty) (A : Option Addr) (capT : Nat) (s : Int) (bs : List Int) (B : Option Addr) (capB : Nat) (w : World) (ht : TysAt w A ts) (hc : IntsAt w .u8 B bs) (hz : ∀ z ∈ bs, 0 ≤ z ∧ z < 256) (hn : bs.length ≤ 1048576) (hcap : bs.length ≤ capB) (htn : ts.length ≤ 1048576) :
    Calls Tryd.prog 33 #[.slice A ts.length capT, .int .i64 s, .slice B bs.length capB] w (HeightsOut ts s bs w) := by
  obtain ⟨i0, hi, hz0, hz1, hz2⟩ := info_parts infoInt
  have HT := Lib.hid ht
  have HZ := Lib.hid hz
  have HMY := Lib.hid (rmay7_any ts A capT s bs B capB w ht hc hz hn hcap htn)
  clear ht hz hc
  go_enter Tryd.func33, Tryd.ntmps33
  go_wp2_with (go_at_call 49; refine stop_o ?_)
  unfold StopO
  refine HMY.out.mono ?_
  rintro e W1 (⟨hm, rfl, hb⟩ | ⟨hm, xs, L, cl, hx, rfl, hown, hpa, hb⟩)
  · have HM := Lib.hid hm
    clear hm
    go_wp2
    refine bodyPost_ret (results_tmp3 rfl _ _ _) rfl ?_
    exact heights_no HM.out hb
  · obtain ⟨hs0, hs1, hts, hck, hnm⟩ := may_parts hm
    have hcp := check_parts hck
    have hsp := scan_parts hcp.1
    have hal : (allI bs).length = xs.length := by rw [← hx]; simp
    obtain ⟨sn, hsn⟩ : ∃ sn : Nat, s = sn := ⟨s.toNat, by omega⟩
    subst hsn
    obtain ⟨N, hN⟩ : ∃ N, N = xs.length := ⟨_, rfl⟩
    have hN0 : 0 < N := by rw [hN, ← hal]; exact hsp.1
    obtain ⟨gl, rfl⟩ := own_head hown (by omega)
    have hNl : N ≤ 1048576 := by
      obtain ⟨q, hq, _⟩ := allI_reads bs
      have h1 := reads_length hq
      have h2 := reads_pos hq
      omega
    have HH := Lib.hid (⟨hs0, hs1, hts, hcp, hnm, hsp, hal⟩ : _ ∧ _ ∧ _ ∧ _ ∧ _ ∧ _ ∧ _)
    have HX := Lib.hid hx
    have HOWN := Lib.hid hown
    have HPA := Lib.hid hpa
    have HB := Lib.hid hb
    have HIX := Lib.hid (rindex7_any bs xs _ (some ⟨gl, 0, none⟩) cl W1 hx hown hn)
    have HNE := Lib.hid hN
    have HM := Lib.hid hm
    clear hs0 hs1 hts hck hnm hcp hsp hal hx hown hpa hb hm
    rw [← hN] at HIX ⊢
    clear hN
    go_wp2_with (go_at_call 50; refine stop_o ?_)
    unfold StopO
    refine HIX.out.mono ?_
    rintro e W2 ⟨rfl, hrow, hb2⟩
    obtain ⟨gx, hgx⟩ : ∃ gx, W1.heap.size = gx := ⟨_, rfl⟩
    have HRH := Lib.hid (show RH7 ts bs xs A w.heap.size gl cl gx W2 from ⟨own_below HOWN.out hb2, hgx ▸ hrow, fun x hx => by obtain ⟨X, c, a1, a2⟩ := HPA.out x hx; exact ⟨X, c, a1, ints_below hb2 a2⟩, tys_below HT.out (HB.out.trans (hb2.mono HB.out.size))⟩)
    have HB2 := Lib.hid (HB.out.trans (hb2.mono HB.out.size))
    rw [hgx] at ⊢
    have hmk := run_make_row' (P := Tryd.prog) 98 43 (.slice none 0 0) 24 Tryd.underlying98 (by kernel_rfl) rfl .i64 .i64 N (by omega) (by omega)
    obtain ⟨gc, hgc⟩ : ∃ gc, W2.heap.size = gc := ⟨_, rfl⟩
    have HCS0 := Lib.hid (show CS W2 (W2.alloc (.cells (madeCells #[.slice none 0 0] N) 43)) gc 43 3 N (fun _ => .slice none 0 0) (fun m => natVs (comesJ (allI bs) 0 m)) from
      ⟨by rw [← madeNil, ← hgc]; exact heap_alloc_new W2 _, rowsAp_nil _ _ _ _, (Below.refl _ _).alloc (Nat.le_refl _) _⟩)
    clear HIX HOWN HPA hrow hgx HB hb2 HMY
    go_wp2
    have HNM := Lib.hid hmk
    clear hmk
    go_loopw [13] (fun vi wr => ∃ (k : Nat) (v : Nat → Value), vi = .int .i64 k ∧ k ≤ N ∧ Hid (CS W2 wr gc 43 3 N v (fun m => natVs (comesJ (allI bs) k m)))) (fun vi _ => N - (intOf vi).toNat)
    case atStart => exact ⟨0, _, rfl, Nat.zero_le _, HCS0⟩
    case round =>
      clear HCS0
      obtain ⟨k, v, rfl, hk, HCS⟩ := hrel
      by_cases hkn : k < N
      · as_aux_lemma =>
        have hki : (k : Int) < (N : Int) := by omega
        obtain ⟨i, X, c, hik, hio, hst, hka, c0, c1, c2, c3⟩ := rh7_ins (rh7_below HRH.out HCS.out.bel) HX.out HZ.out hn (by rw [← HNE.out]; exact hkn)
        have HIK := Lib.hid (⟨hik, hst, hka⟩ : _ ∧ _ ∧ _)
        have HIO := Lib.hid hio
        have HGC := Lib.hid hgc
        clear hik hio hst hka hgc
        go_wp2_with (go_at_call 51; refine stop_o ?_)
        unfold StopO
        refine (rends_any _ _).mono ?_
        rintro e W4 ⟨rfl, hb4⟩
        replace c0 := cell_later hb4 c0
        replace c1 := cell_later hb4 c1
        replace c2 := cell_later hb4 c2
        replace c3 := cell_later hb4 c3
        have HIO4 := Lib.hid (insok_below HIO.out hb4)
        have HCS4 := Lib.hid (cs_below HCS.out hb4)
        clear hb4 HIO HCS
        have HHE := Lib.hid (fun (he : (opR i.code).ends = false) => (by
          have := next_there HH.out.2.2.2.1.1 HIK.out.2.2 (by rw [HIK.out.1]; exact he)
          rw [HH.out.2.2.2.2.2.2, ← HNE.out] at this
          exact this : k + 1 < N))
        go_upto_if 60 with fail
        go_cut [60] from 48 to 103 (fun s60 wx => Hid (∃ v' : Nat → Value, CS W2 wx gc 43 3 N v' (fun m => natVs (comesP (allI bs) k (if (opR i.code).ends then [] else [k + 1]) m)) ∧ Below W4.heap.size W4 W4))
        case first =>
          cases hen : (opR i.code).ends with
          | true =>
            go_wp2_with fail
            go_meet
            exact Lib.hid ⟨v, by simpa [hen, comesP_nil] using HCS4.out, Below.refl _ _⟩
          | false =>
            have hk1 : k + 1 < N := HHE.out hen
            have hk1i : (k : Int) + 1 < (N : Int) := by omega
            have hwk : wrap64 ((k : Int) + 1) = (k : Int) + 1 := by simp only [wrap64]; omega
            have hnk : ((k : Int) + 1).toNat = k + 1 := by omega
            obtain ⟨p0, p1⟩ := cell_vals HCS4.out.blk hk1
            go_wp2_with (at_builtin; refine stop_o ?_)
            unfold StopO
            --APP1
            have HGC1 := Lib.hid HGC.out
            obtain ⟨x5, hx5⟩ : ∃ x5 : List Value, natVs (comesP (allI bs) k [] (k + 1)) = x5 := ⟨_, rfl⟩
            have hlen := comesP_length (toN_length HZ.out) k (k + 1) []
            have hcA : CS W2 (W4.alloc (.cells #[.int .i64 (k : Int)] 3)) gc 43 3 N v (fun m => natVs (comesP (allI bs) k [] m)) := cs_congr (cs_below HCS4.out ((Below.refl W4.heap.size W4).alloc (Nat.le_refl _) (.cells #[.int .i64 (k : Int)] 3))) (by funext m; rw [comesP_nil])
            have hsz : W2.heap.size ≤ W4.heap.size := HCS4.out.bel.size
            have hcow := hcA.rows.own (k + 1) hk1
            rw [hx5] at hcow hlen
            have hjl : ([] : List Nat).length = 0 := rfl
            refine wpList_append_own_keep _ rfl _ _ 43 rfl gc 3 i0 (.int .i64 0) 1 8 Tryd.underlying43 hi hz0 hz1 hz2 rfl (by decide) _ _ _ rfl hcow ⟨W4.heap.size, 0, none⟩ 1 1 [.int .i64 (k : Int)] rfl rfl ?c1 ?c2 ?c3 ?c4 ?c5 ?_
            case c1 => exact cells_fresh _ #[.int .i64 (k : Int)] _ _ rfl
            case c2 => intro u hu; simp at hu; subst hu; rfl
            case c3 => unfold maxLen; omega
            case c4 => omega
            case c5 => have h9 := HGC1.out; simp; omega
            intro v6 w6 hown6 hgrow6 hloc6 hcell6
            obtain ⟨Y6, c6, rfl⟩ := owns_shape hown6
            obtain ⟨hbk6, hcs6⟩ := cs_grown hcA (by rw [HGC1.out]; exact Nat.le_refl _) hk1 (by decide) (by simp) hown6 hgrow6 hloc6
            obtain ⟨p0', p1'⟩ := cell_vals hbk6 hk1
            have HCS6 := Lib.hid (show CS W2 (w6.setCell ⟨gc, k + 1, none⟩ (.slice Y6 (x5.length + 1) c6)) gc 43 3 N (upd v (k + 1) (.slice Y6 (x5.length + 1) c6)) (fun m => natVs (comesP (allI bs) k [k + 1] m)) from cs_congr hcs6 (by rw [← hx5]; exact (comesP_hit (js := []) (Nat.lt_succ_self k)).symm))
            clear hcA hcow hlen hown6 hgrow6 hloc6 hcell6 hbk6 hcs6 hx5 p0 p1
            go_wp2
            go_meet
            rw [hen]
            exact Lib.hid ⟨_, HCS6.out, Below.refl _ _⟩
        case rest =>
          obtain ⟨v5, hcs5, _⟩ := hcut.out
          clear hcut c0 c1 c2 c3
          obtain ⟨i', X5, c5, hik5, hio5, hst5, hka5, c0, c1, c2, c3⟩ := rh7_ins (rh7_below HRH.out hcs5.bel) HX.out HZ.out hn (by rw [← HNE.out]; exact hkn)
          obtain rfl : i = i' := HIK.out.1.symm.trans hik5
          have HLD := Lib.hid (rleads7_any i X5 c5 wc hio5.1 hio5.2.1 HIK.out.2.1 hio5.2.2.1)
          have HCSC := Lib.hid hcs5
          have hll := leadsI_len (i := i) hio5.2.1
          clear hik5 hio5 hst5 hka5 hcs5 HIO4 HCS4 HHE
          unfold insV at HLD
          go_wp2_with (go_at_call 52; refine stop_o ?_)
          unfold StopO
          refine HLD.out.mono ?_
          rintro e W5 ⟨v4, rfl, hown5, hb5⟩
          obtain ⟨L4, c4, rfl⟩ := owns_shape hown5
          have hap5 : ∀ m, m < N → ∀ b, (Value.slice L4 (leadsI i).length c4).ownBlock = some b → (v5 m).ownBlock ≠ some b := fun m hm b hb h => by
            have h1 := (hown5.lt b hb).1
            have h2 := own_block_lt (HCSC.out.rows.own m hm) h
            omega
          obtain ⟨ls, hls⟩ : ∃ ls, leadsI i = ls := ⟨_, rfl⟩
          rw [hls] at hll hown5 hap5 ⊢
          have HLS := Lib.hid hls
          obtain ⟨e0, he0⟩ : ∃ e0 : List Nat, (if (opR i.code).ends then [] else [k + 1]) = e0 := ⟨_, rfl⟩
          have HE0 := Lib.hid he0
          have hcs6 := cs_below HCSC.out hb5
          rw [he0] at hcs6
          have hsl : Below W2.heap.size W2 W5 := hcs6.bel
          obtain ⟨b5, hb5e⟩ : ∃ b5, b5 = wc.heap.size := ⟨_, rfl⟩
          rw [← hb5e] at hown5
          have HIN := Lib.hid (⟨hcs6, hown5, hap5⟩ : _ ∧ _ ∧ _)
          clear hls he0 hcs6 hown5 hap5 hsl hb5 HLD HCSC hb5e c0 c1 c2 c3
          go_wp2
          go_loopw [15] (fun vj wr => ∃ (j : Nat) (v : Nat → Value), vj = .int .i64 j ∧ j ≤ ls.length ∧ Hid (CS W2 wr gc 43 3 N v (fun m => natVs (comesP (allI bs) k (e0 ++ (ls.take j).map (idxI (allI bs))) m)) ∧ wr.ownsRow b5 3 1 (.slice L4 ls.length c4) ls.length (intVs ls) ∧ ∀ m, m < N → ∀ b, (Value.slice L4 ls.length c4).ownBlock = some b → (v m).ownBlock ≠ some b)) (fun vj _ => ls.length - (intOf vj).toNat)
          case atStart => exact ⟨0, v5, rfl, Nat.zero_le _, Lib.hid ⟨cs_congr HIN.out.1 (by funext m; simp), HIN.out.2⟩⟩
          case round =>
            clear HIN
            obtain ⟨j, v, rfl, hj, HJ⟩ := hrel
            by_cases hjl : j < ls.length
            · have hjt : (j : Int) < (ls.length : Int) := by omega
              obtain ⟨q4, rfl⟩ := own_head HJ.out.2.1 (by omega)
              have d0 := (own_cell HJ.out.2.1 (j := j) (v := .int .i64 (ls.getD j 0)) (by unfold intVs; rw [List.getElem?_map, List.getElem?_eq_getElem hjl, List.getD_eq_getElem?_getD, List.getElem?_eq_getElem hjl]; rfl)).1
              have htk : ls.take (j + 1) = ls.take j ++ [ls.getD j 0] := by
                rw [List.take_add_one, List.getElem?_eq_getElem hjl, List.getD_eq_getElem?_getD, List.getElem?_eq_getElem hjl]; rfl
              obtain ⟨t, htt⟩ : ∃ t, t = ls.getD j 0 := ⟨_, rfl⟩
              rw [← htt] at d0 htk
              have hg : goodTo bs.length (allI bs) t = true := HH.out.2.2.2.1.2 i (by rw [← HIK.out.1, List.getD_eq_getElem?_getD, List.getElem?_eq_getElem HIK.out.2.2]; exact List.getElem_mem _) t (by rw [HLS.out, htt, List.getD_eq_getElem?_getD, List.getElem?_eq_getElem hjl]; exact List.getElem_mem _)
              obtain ⟨hv, ht0, ht1⟩ := idxV_good hg
              obtain ⟨hqN, _⟩ := good_idx hg
              have r0 := (rh7_below HRH.out HJ.out.1.bel).row.cell (i := t.toNat) (by omega)
              rw [hv] at r0
              obtain ⟨q, hq⟩ : ∃ q, q = idxI (allI bs) t := ⟨_, rfl⟩
              rw [← hq] at r0 hqN
              rw [HH.out.2.2.2.2.2.2, ← HNE.out] at hqN
              have hqi : (q : Int) < (N : Int) := by omega
              have HTQ := Lib.hid (⟨htk, hq⟩ : _ ∧ _)
              obtain ⟨js, hjs⟩ : ∃ js : List Nat, e0 ++ (ls.take j).map (idxI (allI bs)) = js := ⟨_, rfl⟩
              have hjsl : js.length ≤ 1 + ls.length := by
                rw [← hjs, List.length_append, List.length_map, List.length_take, ← HE0.out]
                have : (if (opR i.code).ends = true then ([] : List Nat) else [k + 1]).length ≤ 1 := by split <;> simp
                omega
              rw [hjs] at HJ
              have hjs1 : e0 ++ (ls.take (j + 1)).map (idxI (allI bs)) = js ++ [q] := by rw [htk, List.map_append, ← List.append_assoc, hjs, hq]; rfl
              have HJS := Lib.hid hjs1
              clear htt hg hv htk hq hjs hjs1
              by_cases hkq : k < q
              · have hkqi : (k : Int) < (q : Int) := by omega
                obtain ⟨p0, p1⟩ := cell_vals HJ.out.1.blk hqN
                go_wp2_with (at_builtin; refine stop_o ?_)
                unfold StopO
                have hlen := comesP_length (toN_length HZ.out) k q js
                have hcA : CS W2 (wr.alloc (.cells #[.int .i64 (k : Int)] 3)) gc 43 3 N v (fun m => natVs (comesP (allI bs) k js m)) := cs_below HJ.out.1 ((Below.refl wr.heap.size wr).alloc (Nat.le_refl _) (.cells #[.int .i64 (k : Int)] 3))
                have hsz : W2.heap.size ≤ wr.heap.size := HJ.out.1.bel.size
                have hcow := hcA.rows.own q hqN
                obtain ⟨x5, hx5⟩ : ∃ x5 : List Value, natVs (comesP (allI bs) k js q) = x5 := ⟨_, rfl⟩
                rw [hx5] at hcow hlen
                refine wpList_append_own_keep _ rfl _ _ 43 rfl gc 3 i0 (.int .i64 0) 1 8 Tryd.underlying43 hi hz0 hz1 hz2 rfl (by decide) _ _ _ rfl hcow ⟨wr.heap.size, 0, none⟩ 1 1 [.int .i64 (k : Int)] rfl rfl ?d1 ?d2 ?d3 ?d4 ?d5 ?_
                case d1 => exact cells_fresh _ #[.int .i64 (k : Int)] _ _ rfl
                case d2 => intro u hu; simp at hu; subst hu; rfl
                case d3 => unfold maxLen; omega
                case d4 => omega
                case d5 => have h9 := HGC.out; simp; omega
                intro v6 w6 hown6 hgrow6 hloc6 hcell6
                obtain ⟨Y6, c6, rfl⟩ := owns_shape hown6
                obtain ⟨hbk6, hcs6⟩ := cs_grown hcA (by rw [HGC.out]; exact Nat.le_refl _) hqN (by decide) (by simp) hown6 hgrow6 hloc6
                obtain ⟨p0', p1'⟩ := cell_vals hbk6 hqN
                have hrow6 : (w6.setCell ⟨gc, q, none⟩ (.slice Y6 (x5.length + 1) c6)).ownsRow b5 3 1 (.slice (some ⟨q4, 0, none⟩) ls.length c4) ls.length (intVs ls) :=
                  own_setBlock (own_grownOther (HJ.out.2.1.alloc _) hgrow6 (fun b hb => HJ.out.2.2 q hqN b hb)) hbk6 (by decide) _
                have hap6 : ∀ m, m < N → ∀ b, (Value.slice (some ⟨q4, 0, none⟩) ls.length c4).ownBlock = some b → (upd v q (.slice Y6 (x5.length + 1) c6) m).ownBlock ≠ some b := fun m hm b hb h => by
                  unfold upd at h
                  by_cases e : m = q
                  · rw [if_pos e] at h
                    rcases hloc6 with h1 | h1
                    · rw [h1] at h; exact HJ.out.2.2 q hqN b hb h
                    · rw [h1] at h
                      cases h
                      have := own_block_lt HJ.out.2.1 hb
                      simp at this
                      omega
                  · rw [if_neg e] at h; exact HJ.out.2.2 m hm b hb h
                have HCS6 := Lib.hid (⟨cs_congr hcs6 (by rw [HJS.out, ← hx5]; exact (comesP_hit hkq).symm), hrow6, hap6⟩ : CS W2 (w6.setCell ⟨gc, q, none⟩ (.slice Y6 (x5.length + 1) c6)) gc 43 3 N (upd v q (.slice Y6 (x5.length + 1) c6)) (fun m => natVs (comesP (allI bs) k (e0 ++ (ls.take (j + 1)).map (idxI (allI bs))) m)) ∧ _ ∧ _)
                clear hcA hcow hlen hown6 hgrow6 hloc6 hcell6 hbk6 hcs6 hx5 p0 p1 hrow6 hap6 HJ
                go_wp2
                exact ⟨⟨j + 1, _, by go_num, by omega, HCS6⟩, by simp [intOf]; omega⟩
              · have hkqi : ¬ (k : Int) < (q : Int) := by omega
                have HCS6 := Lib.hid (⟨cs_congr HJ.out.1 (by rw [HJS.out]; exact (comesP_miss hkq).symm), HJ.out.2⟩ : CS W2 wr gc 43 3 N v (fun m => natVs (comesP (allI bs) k (e0 ++ (ls.take (j + 1)).map (idxI (allI bs))) m)) ∧ _ ∧ _)
                clear HJ
                go_wp2
                exact ⟨⟨j + 1, _, by go_num, by omega, HCS6⟩, by simp [intOf]; omega⟩
            · have hjt : ¬ (j : Int) < (ls.length : Int) := by omega
              obtain rfl : j = ls.length := by omega
              have HCS6 := Lib.hid (cs_congr HJ.out.1 (by
                funext m
                rw [List.take_of_length_le (Nat.le_refl _), ← comesP_end, toN_leads HIK.out.1, HE0.out, HLS.out]) : CS W2 wr gc 43 3 N v (fun m => natVs (comesJ (allI bs) (k + 1) m)))
              clear HJ
              go_wp2
              exact ⟨⟨k + 1, _, by go_num, by omega, HCS6⟩, by simp [intOf]; omega⟩
      · obtain rfl : N = k := by omega
        --PARTB
        obtain ⟨WL, hWL⟩ : ∃ W : World, W = wr := ⟨_, rfl⟩
        subst hWL
        obtain ⟨own, hown⟩ : ∃ own, own = ts.getD sn zeroT := ⟨_, rfl⟩
        have hownE : tyAt ts (sn : Int) = own := by rw [hown]; unfold tyAt; rfl
        have hsl : sn < ts.length := by have := HH.out.2.1; omega
        have hsl2 : (sn : Int) < (ts.length : Int) := by omega
        have hok : tyOK own = true := by rw [← hownE]; exact tyOK_at HH.out.2.2.1 _
        have hob := tyOK_iff hok
        have HOW := Lib.hid (⟨hown, hownE, hok⟩ : _ ∧ _ ∧ _)
        have HRHL := Lib.hid (rh7_below HRH.out HCS.out.bel)
        obtain ⟨l0, hl0, lz0, lz1, lz2⟩ := info_parts infoHeight
        have HWL := Lib.hid (HB2.out.trans (HCS.out.bel.mono HB2.out.size))
        have hrun0 : runH ts own (allI bs) (N - 0) [] = heightsE ts (sn : Int) bs := by
          unfold heightsE
          rw [if_pos HM.out, hownE, HH.out.2.2.2.2.2.2, ← HNE.out]
          rfl
        have HR0 := Lib.hid hrun0
        clear hown hownE hok hrun0 hkn
        go_wp2
        go_loopw [17, 18] (fun vo vi wx => ∃ (n : Nat) (hs : List (Int × Int)), vi = .int .i64 n ∧ n ≤ N ∧ Hid (hs.length = n ∧ (∀ k, k < n → Bnd (hs.getD k (0, 0)) ∧ Bnd (goH ts own ((allI bs).getD k zeroI) (hs.getD k (0, 0)))) ∧ runH ts own (allI bs) (N - n) hs = heightsE ts (sn : Int) bs ∧ wx.ownsRow WL.heap.size 38 3 vo n (hgCells (allI bs) hs) ∧ Below WL.heap.size WL wx)) (fun _ vi _ => N - (intOf vi).toNat)
        case atStart => exact ⟨0, [], rfl, Nat.zero_le _, Lib.hid ⟨rfl, (fun k hk => by omega), HR0.out, by rw [show hgCells (allI bs) [] = [] by simp [hgCells]]; exact World.ownsRow_nil _ _ _ _, Below.refl _ _⟩⟩
        case round =>
          clear HR0
          obtain ⟨n, hs, rfl, hnN, HR⟩ := hrel
          obtain ⟨WR, hWR⟩ : ∃ W : World, W = wr := ⟨_, rfl⟩
          subst hWR
          by_cases hlt : n < N
          · have hni : (n : Int) < (N : Int) := by omega
            obtain ⟨Lo, co, rfl⟩ := owns_shape HR.out.2.2.2.1
            obtain ⟨i, X, c, hik, hio, hst, hka, c0, c1, c2, c3⟩ := rh7_ins (rh7_below HRHL.out HR.out.2.2.2.2) HX.out HZ.out hn (by rw [← HNE.out]; exact hlt)
            have HI := Lib.hid (⟨hik, hst, hka⟩ : _ ∧ _ ∧ _)
            have HIO := Lib.hid hio
            have hcsw := cs_below HCS.out HR.out.2.2.2.2
            obtain ⟨p0, p1⟩ := cell_vals hcsw.blk hlt
            have hrn := hcsw.rows.own n hlt
            obtain ⟨Yn, cn, hvn⟩ := owns_shape hrn
            rw [natVs_length] at hvn
            obtain ⟨cm, hcm⟩ : ∃ cm, comesJ (allI bs) N n = cm := ⟨_, rfl⟩
            rw [hcm] at hvn
            rw [hvn] at p0
            have HCM := Lib.hid (⟨hcm, hvn⟩ : _ ∧ _)
            have hba := (Below.refl WR.heap.size WR).alloc (Nat.le_refl _) (.cells #[.int .i64 i.at_, .int .i64 0, .int .i64 0] 38)
            have hT0 := heap_alloc_new WR (.cells #[.int .i64 i.at_, .int .i64 0, .int .i64 0] 38)
            obtain ⟨T, hT⟩ : ∃ T, WR.heap.size = T := ⟨_, rfl⟩
            have HTE := Lib.hid hT
            clear hik hio hst hka hcsw hrn hcm hvn
            go_upto_if 117 with fail
            have hsz : WR.heap.size ≤ (WR.alloc (.cells #[.int .i64 i.at_, .int .i64 0, .int .i64 0] 38)).heap.size := hba.size
            rw [hT] at hT0
            generalize hWA : WR.alloc (.cells #[.int .i64 i.at_, .int .i64 0, .int .i64 0] 38) = WA at hba hT0 hsz ⊢
            clear hT hWA c0 c1 c2 c3 p0 p1
            go_cut [117] from 104 to 288 (fun s117 wx => ∃ a b : Int, Hid (wx.heap[T]? = some (.cells #[.int .i64 i.at_, .int .i64 a, .int .i64 b] 38 (0, 0)) ∧ Below WR.heap.size WR wx ∧ (n = 0 → (a, b) = (own.inn, own.inn)) ∧ (n ≠ 0 → cm ≠ [])))
            case first =>
              by_cases h0 : n = 0
              · as_aux_lemma =>
                have H0 := Lib.hid h0
                have g0 : ((n : Int) == 0) = true := by rw [h0]; rfl
                have g1 : (n : Int) = 0 := by rw [h0]; rfl
                obtain ⟨x, rfl, t0, t1, t2⟩ := (tys_below (tys_below HRHL.out.tys HR.out.2.2.2.2) hba) sn hsl
                rw [← HOW.out.1] at t0
                obtain ⟨z0, z1, z2, zf, zl⟩ := cells3 hT0
                clear h0 t1 t2
                go_wp2_with fail
                go_meet
                exact ⟨own.inn, own.inn, Lib.hid ⟨heap_set3_2 (heap_set3_1 hT0 _) _, (hba.setCell (by rw [HTE.out]; exact Nat.le_refl _) _).setCell (by rw [HTE.out]; exact Nat.le_refl _) _, fun _ => rfl, fun h => absurd H0.out h⟩⟩
              · as_aux_lemma =>
                have g0 : ((n : Int) == 0) = false := by rw [beq_eq_false_iff_ne]; omega
                have H0 := Lib.hid h0
                have hcsw := cs_below HCS.out (HR.out.2.2.2.2.trans (hba.mono HR.out.2.2.2.2.size))
                obtain ⟨p0, p1⟩ := cell_vals hcsw.blk hlt
                rw [HCM.out.2] at p0
                clear h0 hcsw
                by_cases hcm0 : cm = []
                · have hl0 : cm.length = 0 := by rw [hcm0]; rfl
                  have g1 : ((cm.length : Int) == 0) = true := by rw [hl0]; rfl
                  have hgl := (rh7_below HRHL.out (HR.out.2.2.2.2.trans (hba.mono HR.out.2.2.2.2.size)))
                  obtain ⟨i9, X9, c9, hik9, hio9, hst9, hka9, c0, c1, c2, c3⟩ := rh7_ins hgl HX.out HZ.out hn (by rw [← HNE.out]; exact hlt)
                  obtain rfl : i = i9 := HI.out.1.symm.trans hik9
                  have HE : Hid (heightsE ts (sn : Int) bs = ([], 73, i.at_)) := Lib.hid (by
                    obtain ⟨h1, _, h3, _⟩ := HR.out
                    rw [← h3, show N - n = (N - n - 1) + 1 by omega, runH_dead, h1, HI.out.1]
                    rw [h1, headH_J (Nat.le_of_lt hlt), if_neg H0.out, HCM.out.1, hcm0]
                    rfl)
                  have HBT := Lib.hid (HWL.out.trans ((HR.out.2.2.2.2.trans (hba.mono HR.out.2.2.2.2.size)).mono HWL.out.size))
                  clear hgl hik9 hio9 hst9 hka9 hcm0 c1 c2 c3
                  go_wp2_with fail
                  go_quiet (fail)
                  go_wp2_with fail
                  refine bodyPost_ret (results_tmp3 rfl _ _ _) rfl ?_
                  exact heights_err HE.out (below_drewN HBT.out _)
                · have HC0 := Lib.hid hcm0
                  have g1 : ((cm.length : Int) == 0) = false := by
                    rw [beq_eq_false_iff_ne]
                    have : cm.length ≠ 0 := fun h => hcm0 (List.length_eq_zero_iff.1 h)
                    omega
                  clear hcm0
                  go_wp2_with fail
                  go_meet
                  exact ⟨0, 0, Lib.hid ⟨hT0, hba, fun h => absurd h H0.out, fun _ => HC0.out⟩⟩
            case rest =>
              --REST
              obtain ⟨a, b, HC⟩ := hcut
              clear hT0 hba hsz
              obtain ⟨gs, hgs⟩ : ∃ gs : List (Int × Int), gs = cm.map fun k => goH ts own ((allI bs).getD k zeroI) (hs.getD k (0, 0)) := ⟨_, rfl⟩
              have hgl : gs.length = cm.length := by rw [hgs]; simp
              have HGS := Lib.hid (⟨hgs, hgl⟩ : _ ∧ _)
              have hcl : cm.length ≤ N * 257 := by rw [← HCM.out.1]; exact comesJ_length (toN_length HZ.out) N n
              have HCL := Lib.hid hcl
              clear hgs hgl hcl
              go_wp2
              go_loopw [20] (fun vj wx => ∃ (j : Nat) (a b : Int), vj = .int .i64 j ∧ j ≤ cm.length ∧ Hid (wx.heap[T]? = some (.cells #[.int .i64 i.at_, .int .i64 a, .int .i64 b] 38 (0, 0)) ∧ Below WR.heap.size WR wx ∧ Jn own gs n j a b)) (fun vj _ => cm.length - (intOf vj).toNat)
              case atStart => exact ⟨0, a, b, rfl, Nat.zero_le _, Lib.hid ⟨HC.out.1, HC.out.2.1, .inl ⟨rfl, HC.out.2.2.1⟩⟩⟩
              case round =>
                obtain ⟨j, a, b, rfl, hj, HJ⟩ := hrel
                have hbW : Below WL.heap.size WL wr := HR.out.2.2.2.2.trans (HJ.out.2.1.mono HR.out.2.2.2.2.size)
                have HBW := Lib.hid hbW
                clear hbW
                have hcsw := cs_below HCS.out HBW.out
                obtain ⟨p0, p1⟩ := cell_vals hcsw.blk hlt
                have hrn := hcsw.rows.own n hlt
                rw [natVs_length] at hrn
                rw [HCM.out.1, HCM.out.2] at hrn
                rw [HCM.out.2] at p0
                by_cases hjl : j < cm.length
                · have hjt : (j : Int) < (cm.length : Int) := by omega
                  obtain ⟨yq, hyq⟩ := own_head hrn (by omega)
                  subst hyq
                  have y0 := (own_cell hrn (natVs_at hjl)).1
                  obtain ⟨kk, hkk⟩ : ∃ kk, cm.getD j 0 = kk := ⟨_, rfl⟩
                  rw [hkk] at y0
                  have hkn : kk < n := by
                    have hm : kk ∈ comesJ (allI bs) N n := by
                      rw [HCM.out.1, ← hkk, List.getD_eq_getElem?_getD, List.getElem?_eq_getElem hjl]
                      exact List.getElem_mem _
                    exact (comesJ_mem hm).2
                  have hkni : (kk : Int) < (N : Int) := by omega
                  have hknn : (kk : Int) < (n : Int) := by omega
                  obtain ⟨i2, X2, c2', hik2, hio2, hst2, hka2, d0, d1, d2, d3⟩ := rh7_ins (rh7_below HRHL.out HBW.out) HX.out HZ.out hn (k := kk) (by rw [← HNE.out]; omega)
                  have hnm2 : NamesOK ts i2 := names_ok hio2.2.1 (HH.out.2.2.2.2.1 i2 (by rw [← hik2, List.getD_eq_getElem?_getD, List.getElem?_eq_getElem hka2]; exact List.getElem_mem _)) (named_nonneg hio2.2.1)
                  have HTU := Lib.hid (rturns7_any ts A capT sn i2 X2 c2' wr (tys_below HRHL.out.tys HBW.out) hio2 hst2 hnm2 hsl)
                  rw [← HOW.out.1] at HTU
                  have htb := turnsI_bounds HH.out.2.2.1 HOW.out.2.2 hio2.2.1
                  have hgj : gs.getD j (0, 0) = goH ts own i2 (hs.getD kk (0, 0)) := by
                    rw [HGS.out.1, List.getD_eq_getElem?_getD, List.getElem?_map, List.getElem?_eq_getElem hjl]
                    rw [List.getD_eq_getElem?_getD, List.getElem?_eq_getElem hjl] at hkk
                    simp only [Option.map_some, Option.getD_some] at hkk ⊢
                    rw [hkk, hik2]
                  have hbk := (HR.out.2.1 kk hkn)
                  rw [hik2] at hbk
                  have hoR := own_below HR.out.2.2.2.1 HJ.out.2.1
                  obtain ⟨lq, hlq⟩ := own_head hoR (by omega)
                  subst hlq
                  obtain ⟨hg1, hg2⟩ := hg_at7 (l := allI bs) (hs := hs) (k := kk) (by rw [HR.out.1]; exact hkn) (by rw [HR.out.1, HH.out.2.2.2.2.2.2, ← HNE.out]; omega)
                  have o1 := (hoR.cellAt (kk * 3 + 1) (by omega)).trans hg1
                  have o2 := (hoR.cellAt (kk * 3 + 2) (by omega)).trans hg2
                  have hgd : goH ts own i2 (hs.getD kk (0, 0)) = ((hs.getD kk (0, 0)).1 - (turnsI ts own i2).1 + (turnsI ts own i2).2, (hs.getD kk (0, 0)).2 - (turnsI ts own i2).1 + (turnsI ts own i2).2) := rfl
                  rw [hgd] at hgj hbk
                  generalize (turnsI ts own i2).1 = tin at HTU htb hgj hbk
                  generalize (turnsI ts own i2).2 = tout at HTU htb hgj hbk
                  generalize (hs.getD kk (0, 0)).1 = la at hgj hbk o1
                  generalize (hs.getD kk (0, 0)).2 = lb at hgj hbk o2
                  have hla : 0 ≤ (hs.getD kk (0, 0)).1 := (HR.out.2.1 kk hkn).1.1
                  have HBK := Lib.hid hbk.2
                  have hx1 : 0 ≤ la - tin + tout ∧ la - tin + tout ≤ 1023 := by have := hbk.2; unfold Bnd at this; dsimp only at this; omega
                  have hx2 : 0 ≤ lb - tin + tout ∧ lb - tin + tout ≤ 1023 := by have := hbk.2; unfold Bnd at this; dsimp only at this; omega
                  have hwb : (-10000000 ≤ la - tin ∧ la - tin ≤ 10000000) ∧ (-10000000 ≤ lb - tin ∧ lb - tin ≤ 10000000) ∧ (-10000000 ≤ la - tin + tout ∧ la - tin + tout ≤ 10000000) ∧ (-10000000 ≤ lb - tin + tout ∧ lb - tin + tout ≤ 10000000) := by omega
                  have HWX := Lib.hid (⟨wrap_both7 hwb.1.1 hwb.1.2, wrap_both7 hwb.2.1.1 hwb.2.1.2, wrap_both7 hwb.2.2.1.1 hwb.2.2.1.2, wrap_both7 hwb.2.2.2.1 hwb.2.2.2.2⟩ : wrap64 (la - tin) = la - tin ∧ wrap64 (lb - tin) = lb - tin ∧ wrap64 (la - tin + tout) = la - tin + tout ∧ wrap64 (lb - tin + tout) = lb - tin + tout)
                  clear hwb
                  have HJB := Lib.hid (show j ≤ 1000000000 by have := HCL.out; omega)
                  have HGJ := Lib.hid hgj
                  have hw0 : Below WR.heap.size WR wr := HJ.out.2.1
                  have HW0 := Lib.hid hw0
                  clear hcsw hrn hik2 hio2 hst2 hka2 hnm2 hgj hbk hoR hg1 hg2 hgd hla hkk hw0
                  unfold insV at HTU
                  go_wp2_with (go_at_call 53; refine stop_o ?_)
                  unfold StopO
                  refine HTU.out.mono ?_
                  rintro e W7 ⟨rfl, hb7⟩
                  have hT7 := kept_of hb7 HJ.out.1
                  have hB7 := HW0.out.trans (hb7.mono HW0.out.size)
                  replace o1 := cell_later hb7 o1
                  replace o2 := cell_later hb7 o2
                  obtain ⟨z0, z1, z2, zf, zl⟩ := cells3 hT7
                  have HM7 := Lib.hid (⟨hT7, hB7⟩ : _ ∧ _)
                  clear p0 p1 y0 d0 d1 d2 d3 HTU hb7 hT7 hB7 htb
                  by_cases hj0 : j = 0
                  · as_aux_lemma =>
                    have g0 : ((j : Int) == 0) = true := by rw [hj0]; rfl
                    have HJ0 := Lib.hid hj0
                    clear hj0
                    obtain ⟨hw1, hw2, hw3, hw4⟩ := HWX.out
                    go_wp2
                    exact ⟨⟨j + 1, (la - tin + tout), (lb - tin + tout), vjw7 HJB.out, hjl, Lib.hid ⟨heap_set3_2 (heap_set3_1 HM7.out.1 _) _, (HM7.out.2.setCell (by rw [HTE.out]; exact Nat.le_refl _) _).setCell (by rw [HTE.out]; exact Nat.le_refl _) _, (by have h0 := HJ0.out; subst h0; exact jn_first (by have := HGS.out.2; omega) HGJ.out HBK.out)⟩⟩, measw7 hjl HJB.out⟩
                  · as_aux_lemma =>
                    have g0 : ((j : Int) == 0) = false := by rw [beq_eq_false_iff_ne]; omega
                    have HJ0 := Lib.hid hj0
                    have HMIN := Lib.hid (⟨fun h => by omega, fun h => by omega, fun h => by omega, fun h => by omega⟩ : (la - tin + tout < a → la - tin + tout = min a (la - tin + tout)) ∧ (¬ (la - tin + tout < a) → a = min a (la - tin + tout)) ∧ (b < lb - tin + tout → lb - tin + tout = max b (lb - tin + tout)) ∧ (¬ (b < lb - tin + tout) → b = max b (lb - tin + tout)))
                    have hjg : j < gs.length := by have := HGS.out.2; omega
                    have HJG := Lib.hid hjg
                    clear hj0 hjg
                    by_cases h1 : la - tin + tout < a
                    · by_cases h2 : b < lb - tin + tout
                      · have HQ1 := Lib.hid h1
                        have HQ2 := Lib.hid h2
                        obtain ⟨hw1, hw2, hw3, hw4⟩ := HWX.out
                        go_wp2
                        exact ⟨⟨j + 1, (la - tin + tout), (lb - tin + tout), vjw7 HJB.out, hjl, Lib.hid ⟨heap_set3_2 (heap_set3_1 HM7.out.1 _) _, (HM7.out.2.setCell (by rw [HTE.out]; exact Nat.le_refl _) _).setCell (by rw [HTE.out]; exact Nat.le_refl _) _, jn_next HJ.out.2.2 HJ0.out HJG.out HGJ.out HBK.out (HMIN.out.1 HQ1.out) (HMIN.out.2.2.1 HQ2.out)⟩⟩, measw7 hjl HJB.out⟩
                      · have HQ1 := Lib.hid h1
                        have HQ2 := Lib.hid h2
                        obtain ⟨hw1, hw2, hw3, hw4⟩ := HWX.out
                        go_wp2
                        exact ⟨⟨j + 1, (la - tin + tout), b, vjw7 HJB.out, hjl, Lib.hid ⟨heap_set3_1 HM7.out.1 _, HM7.out.2.setCell (by rw [HTE.out]; exact Nat.le_refl _) _, jn_next HJ.out.2.2 HJ0.out HJG.out HGJ.out HBK.out (HMIN.out.1 HQ1.out) (HMIN.out.2.2.2 HQ2.out)⟩⟩, measw7 hjl HJB.out⟩
                    · by_cases h2 : b < lb - tin + tout
                      · have HQ1 := Lib.hid h1
                        have HQ2 := Lib.hid h2
                        obtain ⟨hw1, hw2, hw3, hw4⟩ := HWX.out
                        go_wp2
                        exact ⟨⟨j + 1, a, (lb - tin + tout), vjw7 HJB.out, hjl, Lib.hid ⟨heap_set3_2 HM7.out.1 _, HM7.out.2.setCell (by rw [HTE.out]; exact Nat.le_refl _) _, jn_next HJ.out.2.2 HJ0.out HJG.out HGJ.out HBK.out (HMIN.out.2.1 HQ1.out) (HMIN.out.2.2.1 HQ2.out)⟩⟩, measw7 hjl HJB.out⟩
                      · have HQ1 := Lib.hid h1
                        have HQ2 := Lib.hid h2
                        obtain ⟨hw1, hw2, hw3, hw4⟩ := HWX.out
                        go_wp2
                        exact ⟨⟨j + 1, a, b, vjw7 HJB.out, hjl, Lib.hid ⟨HM7.out.1, HM7.out.2, jn_next HJ.out.2.2 HJ0.out HJG.out HGJ.out HBK.out (HMIN.out.2.1 HQ1.out) (HMIN.out.2.2.2 HQ2.out)⟩⟩, measw7 hjl HJB.out⟩
                · --ENDJ
                  have hjt : ¬ (j : Int) < (cm.length : Int) := by omega
                  obtain rfl : j = cm.length := by omega
                  obtain ⟨WM, hWM⟩ : ∃ W : World, W = wr := ⟨_, rfl⟩
                  subst hWM
                  obtain ⟨hhd, hbd⟩ := jn_head (ts := ts) (own := own) (l := allI bs) (hs := hs) (n := n) (N := N) (a := a) (b := b) (Nat.le_of_lt hlt) (by unfold Bnd; dsimp only; omega) (fun h => by rw [HCM.out.1]; exact HC.out.2.2.2 h) (by rw [HCM.out.1, ← HGS.out.1]; exact HJ.out.2.2)
                  have hab : 0 ≤ a ∧ a ≤ b ∧ b ≤ 1023 := hbd
                  obtain ⟨i9, X9, c9, hik9, hio9, hst9, hka9, c0, c1, c2, c3⟩ := rh7_ins (rh7_below HRHL.out HBW.out) HX.out HZ.out hn (k := n) (by rw [← HNE.out]; exact hlt)
                  obtain rfl : i = i9 := HI.out.1.symm.trans hik9
                  have hnm : NamesOK ts i := names_ok hio9.2.1 (HH.out.2.2.2.2.1 i (by rw [← hik9, List.getD_eq_getElem?_getD, List.getElem?_eq_getElem hka9]; exact List.getElem_mem _)) (named_nonneg hio9.2.1)
                  have hz9 := hio9.2.1
                  have HWR := Lib.hid (fun w2 (hb : Below WM.heap.size WM w2) => rwrong7_any ts A capT sn i X9 c9 a b w2 (tys_below (tys_below HRHL.out.tys HBW.out) hb) (insok_below hio9 hb) hst9 hnm hsl HH.out.2.2.1 ⟨by omega, by omega, by omega, by omega⟩)
                  rw [← HOW.out.1] at HWR
                  obtain ⟨k0, hk0⟩ : ∃ k0, wrongI ts own i (a, b) = k0 := ⟨_, rfl⟩
                  rw [hk0] at HWR
                  have HHD := Lib.hid (⟨hhd, hbd, hnm, hz9, hk0⟩ : _ ∧ _ ∧ _ ∧ _ ∧ _)
                  have htb := turnsI_bounds HH.out.2.2.1 HOW.out.2.2 hz9
                  obtain ⟨z0, z1, z2, zf, zl⟩ := cells3 HJ.out.1
                  clear hcsw hrn hhd hbd hik9 hst9 hka9 hnm hz9 hk0 hio9
                  have u0 := fun d os => cell_regrown c0 d os
                  have u1 := fun d os => cell_regrown c1 d os
                  have u2 := fun d os => cell_regrown c2 d os
                  have u3 := fun d os => cell_regrown c3 d os
                  have u4 := fun d os => cell_regrown z1 d os
                  have u5 := fun d os => cell_regrown z2 d os
                  unfold insV at HWR
                  have uN := fun d os => calls_grown (w := WM) (fun w2 hb => HWR.out w2 hb) d os
                  go_wp2
                  refine wp_region_quiet_below (by kernel_rfl) (by kernel_rfl) ?_
                  repeat (refine wpQuiet_step (fun K hK => ?_); go_simp; first | (refine hK _ ?_; clear hK K) | (apply Exists.intro; refine ⟨fun _ => ?_, hK _ ?_⟩; with_reducible exact uN _ _; clear hK K))
                  refine wpQuiet_nil ?_
                  rintro _ ⟨pq, rfl⟩
                  have hb2 := below_regrown WM pq.d pq.os
                  generalize grow (redrawn WM pq.d) pq.os = W8 at hb2 ⊢
                  clear u0 u1 u2 u3 u4 u5 uN HWR
                  have HT8 := Lib.hid (⟨kept_of hb2 HJ.out.1, HJ.out.2.1.trans (hb2.mono HJ.out.2.1.size)⟩ : _ ∧ Below WR.heap.size WR W8)
                  replace c0 := cell_later hb2 c0
                  replace c1 := cell_later hb2 c1
                  replace c2 := cell_later hb2 c2
                  replace c3 := cell_later hb2 c3
                  clear z0 z1 z2 zf zl hb2
                  obtain ⟨z0, z1, z2, zf, zl⟩ := cells3 HT8.out.1
                  by_cases hk0 : k0 = 0
                  · as_aux_lemma =>
                    have g0 : (k0 != 0) = false := by rw [bne_eq_false_iff_eq]; exact hk0
                    have HK0 := Lib.hid hk0
                    clear hk0
                    have hsz8 : WR.heap.size ≤ W8.heap.size := HT8.out.2.size
                    have hown8 := own_below HR.out.2.2.2.1 HT8.out.2
                    have HO8 := Lib.hid hown8
                    have hsW : WL.heap.size ≤ WR.heap.size := HR.out.2.2.2.2.size
                    have hTsz : T < W8.heap.size := (Array.getElem?_eq_some_iff.1 HT8.out.1).1
                    have hTne : ∀ q, (Value.slice Lo n co).ownBlock = some q → T ≠ q := fun q hq => by
                      have := own_block_lt HR.out.2.2.2.1 hq
                      have := HTE.out
                      omega
                    have HTN := Lib.hid hTne
                    clear hown8 hTne
                    go_wp2_with (at_builtin; refine stop_o ?_)
                    unfold StopO
                    refine wpList_append_own _ rfl _ _ 26 rfl WL.heap.size 38 l0 (.agg #[.int .i64 0, .int .i64 0, .int .i64 0]) 3 24 Tryd.underlying26 hl0 lz0 lz1 lz2 rfl (by decide) _ _ _ rfl (HO8.out.alloc (.cells #[.int .i64 i.at_, .int .i64 a, .int .i64 b] 38)) ⟨W8.heap.size, 0, none⟩ 1 1 [.int .i64 i.at_, .int .i64 a, .int .i64 b] rfl rfl ?e1 ?e2 ?e3 ?e4 ?e5 ?_
                    case e1 => exact cells_fresh _ #[.int .i64 i.at_, .int .i64 a, .int .i64 b] _ _ rfl
                    case e2 => intro u hu; simp at hu; rcases hu with rfl | rfl | rfl <;> rfl
                    case e3 => unfold maxLen; omega
                    case e4 => omega
                    case e5 => simp; omega
                    intro v6 w6 hown6 hgrow6 _
                    obtain ⟨L6, c6, rfl⟩ := owns_shape hown6
                    have hB8 : Below WL.heap.size WL W8 := HR.out.2.2.2.2.trans (HT8.out.2.mono HR.out.2.2.2.2.size)
                    have hB6 : Below WL.heap.size WL w6 := bel_own (hB8.alloc hB8.size (.cells #[.int .i64 i.at_, .int .i64 a, .int .i64 b] 38)) (HO8.out.alloc (.cells #[.int .i64 i.at_, .int .i64 a, .int .i64 b] 38)) (Nat.le_refl _) hgrow6
                    have hT6 : w6.heap[T]? = some (.cells #[.int .i64 i.at_, .int .i64 a, .int .i64 b] 38 (0, 0)) := (hgrow6.block T (by simp; omega) (fun e => HTN.out T e.symm rfl)).trans (heap_alloc_before HT8.out.1 _)
                    have hown7 : w6.ownsRow WL.heap.size 38 3 (.slice L6 (n + 1) c6) (n + 1) (hgCells (allI bs) (hs ++ [(a, b)])) := by
                      rw [hgCells_snoc (by rw [HR.out.1, HH.out.2.2.2.2.2.2, ← HNE.out]; exact hlt), HR.out.1, HI.out.1]
                      exact hown6
                    have HN6 := Lib.hid (⟨hB6, hT6, hown7⟩ : _ ∧ _ ∧ _)
                    clear hown6 hgrow6 hB8 hB6 hT6 hown7 c0 c1 c2 c3 z0 z1 z2 zf zl
                    obtain ⟨i8, X8, c8, hik8, hio8, hst8, hka8, c0, c1, c2, c3⟩ := rh7_ins (rh7_below HRHL.out HN6.out.1) HX.out HZ.out hn (k := n) (by rw [← HNE.out]; exact hlt)
                    obtain rfl : i = i8 := HI.out.1.symm.trans hik8
                    have HTU := Lib.hid (rturns7_any ts A capT sn i X8 c8 w6 (tys_below HRHL.out.tys HN6.out.1) hio8 HI.out.2.1 HHD.out.2.2.1 hsl)
                    have HLD := Lib.hid (fun w2 (hb : Below w6.heap.size w6 w2) => rleads7_any i X8 c8 w2 (insok_below hio8 hb).1 hio8.2.1 HI.out.2.1 hio8.2.2.1)
                    have hll := leadsI_len (i := i) hio8.2.1
                    rw [← HOW.out.1] at HTU
                    have hbg : Bnd (goH ts own i (a, b)) := goH_bnd HH.out.2.2.1 HOW.out.2.2 hio8.2.1 HHD.out.2.1 (by rw [HHD.out.2.2.2.2]; exact HK0.out)
                    have HBG := Lib.hid hbg
                    have hgd : goH ts own i (a, b) = (a - (turnsI ts own i).1 + (turnsI ts own i).2, b - (turnsI ts own i).1 + (turnsI ts own i).2) := rfl
                    have HGD := Lib.hid hgd
                    rw [hgd] at hbg
                    generalize (turnsI ts own i).1 = tin at HTU htb hbg HGD
                    generalize (turnsI ts own i).2 = tout at HTU htb hbg HGD
                    have hx1 : 0 ≤ a - tin + tout ∧ a - tin + tout ≤ 1023 := by unfold Bnd at hbg; dsimp only at hbg; omega
                    have hx2 : 0 ≤ b - tin + tout ∧ b - tin + tout ≤ 1023 := by unfold Bnd at hbg; dsimp only at hbg; omega
                    have hwb : (-10000000 ≤ a - tin ∧ a - tin ≤ 10000000) ∧ (-10000000 ≤ b - tin ∧ b - tin ≤ 10000000) ∧ (-10000000 ≤ a - tin + tout ∧ a - tin + tout ≤ 10000000) ∧ (-10000000 ≤ b - tin + tout ∧ b - tin + tout ≤ 10000000) := by omega
                    have HWW := Lib.hid (⟨wrap_both7 hwb.1.1 hwb.1.2, wrap_both7 hwb.2.1.1 hwb.2.1.2, wrap_both7 hwb.2.2.1.1 hwb.2.2.1.2, wrap_both7 hwb.2.2.2.1 hwb.2.2.2.2⟩ : wrap64 (a - tin) = a - tin ∧ wrap64 (b - tin) = b - tin ∧ wrap64 (a - tin + tout) = a - tin + tout ∧ wrap64 (b - tin + tout) = b - tin + tout)
                    unfold insV at HTU HLD
                    clear hik8 hio8 hst8 hka8 hgd hbg hwb htb
                    go_wp2_with (go_at_call 53; refine stop_o ?_)
                    unfold StopO
                    refine HTU.out.mono ?_
                    rintro e W9 ⟨rfl, hb9⟩
                    replace c0 := cell_later hb9 c0
                    replace c1 := cell_later hb9 c1
                    replace c2 := cell_later hb9 c2
                    replace c3 := cell_later hb9 c3
                    have HLD9 := Lib.hid (HLD.out W9 hb9)
                    have HB9 := Lib.hid hb9
                    clear hb9 HTU HLD
                    go_wp2_with (go_at_call 52; refine stop_o ?_)
                    unfold StopO
                    refine HLD9.out.mono ?_
                    rintro e WX ⟨v4, rfl, hown5, hb5⟩
                    obtain ⟨L4, c4, rfl⟩ := owns_shape hown5
                    obtain ⟨ls, hls⟩ : ∃ ls, leadsI i = ls := ⟨_, rfl⟩
                    rw [hls] at hll hown5 ⊢
                    have HLS := Lib.hid hls
                    have hb6x : Below w6.heap.size w6 WX := HB9.out.trans (hb5.mono HB9.out.size)
                    have HX6 := Lib.hid (⟨hown5, HN6.out.1.trans (hb6x.mono HN6.out.1.size), kept_of hb6x HN6.out.2.1, own_below HN6.out.2.2 hb6x⟩ : _ ∧ Below WL.heap.size WL WX ∧ _ ∧ _)
                    clear hls hown5 hb5 hb6x HLD9 c0 c1 c2 c3
                    go_wp2
                    go_loopw [30] (fun vj wx => ∃ (j : Nat), vj = .int .i64 j ∧ j ≤ ls.length ∧ Hid ((∀ m, m < j → (decide (n < idxI (allI bs) (ls.getD m 0)) || (hs ++ [(a, b)]).getD (idxI (allI bs) (ls.getD m 0)) (0, 0) == goH ts own i (a, b)) = true) ∧ Below WX.heap.size WX wx)) (fun vj _ => ls.length - (intOf vj).toNat)
                    case atStart => exact ⟨0, rfl, Nat.zero_le _, Lib.hid ⟨(fun m hm => by omega), Below.refl _ _⟩⟩
                    case round =>
                      obtain ⟨j, rfl, hj, HJ⟩ := hrel
                      by_cases hjl : j < ls.length
                      · as_aux_lemma =>
                        --LJ
                        have hjt : (j : Int) < (ls.length : Int) := by omega
                        obtain ⟨q4, hq4⟩ := own_head HX6.out.1 (by omega)
                        subst hq4
                        have d0 := (own_cell (own_below HX6.out.1 HJ.out.2) (j := j) (v := .int .i64 (ls.getD j 0)) (by unfold intVs; rw [List.getElem?_map, List.getElem?_eq_getElem hjl, List.getD_eq_getElem?_getD, List.getElem?_eq_getElem hjl]; rfl)).1
                        obtain ⟨t, htt⟩ : ∃ t, t = ls.getD j 0 := ⟨_, rfl⟩
                        rw [← htt] at d0
                        have hg : goodTo bs.length (allI bs) t = true := HH.out.2.2.2.1.2 i (by rw [← HI.out.1, List.getD_eq_getElem?_getD, List.getElem?_eq_getElem HI.out.2.2]; exact List.getElem_mem _) t (by rw [HLS.out, htt, List.getD_eq_getElem?_getD, List.getElem?_eq_getElem hjl]; exact List.getElem_mem _)
                        obtain ⟨hv, ht0, ht1⟩ := idxV_good hg
                        obtain ⟨hqN, _⟩ := good_idx hg
                        have hbx := HX6.out.2.1.trans (HJ.out.2.mono HX6.out.2.1.size)
                        have r0 := (rh7_below HRHL.out hbx).row.cell (i := t.toNat) (by omega)
                        rw [hv] at r0
                        obtain ⟨q, hq⟩ : ∃ q, q = idxI (allI bs) t := ⟨_, rfl⟩
                        rw [← hq] at r0 hqN
                        rw [HH.out.2.2.2.2.2.2, ← HNE.out] at hqN
                        have HTQ := Lib.hid (show idxI (allI bs) (ls.getD j 0) = q by rw [hq, htt])
                        obtain ⟨z0, z1, z2, zf, zl⟩ := cells3 (kept_of HJ.out.2 HX6.out.2.2.1)
                        have HJB := Lib.hid (show j ≤ 1000000000 by omega)
                        have HNX := Lib.hid (fun (hc : (decide (n < q) || (hs ++ [(a, b)]).getD q (0, 0) == goH ts own i (a, b)) = true) => (fun m hm => by
                          by_cases e : m < j
                          · exact HJ.out.1 m e
                          · obtain rfl : m = j := by omega
                            rw [HTQ.out]
                            exact hc : ∀ m, m < j + 1 → (decide (n < idxI (allI bs) (ls.getD m 0)) || (hs ++ [(a, b)]).getD (idxI (allI bs) (ls.getD m 0)) (0, 0) == goH ts own i (a, b)) = true))
                        have HBX := Lib.hid hbx
                        clear hg hv htt hq hbx
                        by_cases hnq : n < q
                        · have k1 : ¬ (q : Int) ≤ (n : Int) := by omega
                          have k2 : decide ((q : Int) ≤ (n : Int)) = false := decide_eq_false k1
                          have k3 : ¬ q ≤ n := by omega
                          have k4 : decide (q ≤ n) = false := decide_eq_false k3
                          have HC1 := Lib.hid (show (decide (n < q) || (hs ++ [(a, b)]).getD q (0, 0) == goH ts own i (a, b)) = true by rw [decide_eq_true hnq]; rfl)
                          clear hnq
                          obtain ⟨hw1, hw2, hw3, hw4⟩ := HWW.out
                          go_wp2
                          go_quiet (fail)
                          go_wp2
                          exact ⟨⟨j + 1, vj7 j, hjl, Lib.hid ⟨HNX.out HC1.out, below_drewN HJ.out.2 _⟩⟩, measj7 hjl⟩
                        · have k1 : (q : Int) ≤ (n : Int) := by omega
                          have k2 : decide ((q : Int) ≤ (n : Int)) = true := decide_eq_true k1
                          have k3 : q ≤ n := by omega
                          have k4 : decide (q ≤ n) = true := decide_eq_true k3
                          have k5 : (q : Int) < (n : Int) + 1 := by omega
                          have k6 : (q : Int) < ((n + 1 : Nat) : Int) := by omega
                          obtain ⟨o6, ho6⟩ := own_head HX6.out.2.2.2 (by omega)
                          subst ho6
                          have hoR := own_below HX6.out.2.2.2 HJ.out.2
                          have hl1 : (hs ++ [(a, b)]).length = n + 1 := by simp [HR.out.1]
                          obtain ⟨hg1, hg2⟩ := hg_at7 (l := allI bs) (hs := hs ++ [(a, b)]) (k := q) (by omega) (by rw [hl1, HH.out.2.2.2.2.2.2, ← HNE.out]; omega)
                          have o1 := (hoR.cellAt (q * 3 + 1) (by omega)).trans hg1
                          have o2 := (hoR.cellAt (q * 3 + 2) (by omega)).trans hg2
                          have hcc : ∀ c, ((hs ++ [(a, b)]).getD q (0, 0) == goH ts own i (a, b)) = c → (decide (n < q) || (hs ++ [(a, b)]).getD q (0, 0) == goH ts own i (a, b)) = c := fun c h => by rw [decide_eq_false hnq, h]; rfl
                          rw [HGD.out] at hcc
                          obtain ⟨pa, hpa⟩ : ∃ pa, pa = (hs ++ [(a, b)]).getD q (0, 0) := ⟨_, rfl⟩
                          rw [← hpa] at o1 o2 hcc
                          obtain ⟨ga, gb⟩ := pa
                          dsimp only at o1 o2
                          have HCC := Lib.hid (⟨hcc, hpa⟩ : _ ∧ _)
                          clear hoR hl1 hg1 hg2 hcc hpa hnq
                          have HBAD := Lib.hid (fun (hc : ((ga, gb) == (a - tin + tout, b - tin + tout)) = false) => (by
                            obtain ⟨h1, _, h3, _⟩ := HR.out
                            rw [← h3, show N - n = (N - n - 1) + 1 by omega, runH_loop (by rw [h1]; exact HHD.out.1) (by rw [h1, HI.out.1, HHD.out.2.2.2.2]; exact HK0.out) (by rw [h1, back_form (G := goH ts own i (a, b)) HI.out.1 h1 rfl]; exact back_no (m := j) (by rw [HLS.out]; exact hjl) (by rw [HLS.out, HTQ.out, HGD.out]; have := HCC.out.1 false hc; rw [HCC.out.2] at this; exact this)), h1, HI.out.1] : heightsE ts (sn : Int) bs = ([], 72, i.at_)))
                          have HBT := Lib.hid (HWL.out.trans (HBX.out.mono HWL.out.size))
                          obtain ⟨i7, X7, c7, hik7, hio7, hst7, hka7, c0, c1, c2, c3⟩ := rh7_ins (rh7_below HRHL.out HBX.out) HX.out HZ.out hn (k := n) (by rw [← HNE.out]; exact hlt)
                          obtain rfl : i = i7 := HI.out.1.symm.trans hik7
                          clear hik7 hio7 hst7 hka7 c1 c2 c3
                          by_cases ha : ga = a - tin + tout
                          · by_cases hb : gb = b - tin + tout
                            · have g1 : (ga != a - tin + tout) = false := by rw [bne_eq_false_iff_eq]; exact ha
                              have g2 : (gb != b - tin + tout) = false := by rw [bne_eq_false_iff_eq]; exact hb
                              have HC1 := Lib.hid (show (decide (n < q) || (hs ++ [(a, b)]).getD q (0, 0) == goH ts own i (a, b)) = true by
                                have := HCC.out.1 true (by rw [ha, hb]; simp)
                                rw [HCC.out.2] at this
                                rw [HGD.out]
                                exact this)
                              clear ha hb
                              obtain ⟨hw1, hw2, hw3, hw4⟩ := HWW.out
                              go_wp2
                              go_quiet (fail)
                              go_wp2
                              exact ⟨⟨j + 1, vj7 j, hjl, Lib.hid ⟨HNX.out HC1.out, below_drewN HJ.out.2 _⟩⟩, measj7 hjl⟩
                            · have g1 : (ga != a - tin + tout) = false := by rw [bne_eq_false_iff_eq]; exact ha
                              have g2 : (gb != b - tin + tout) = true := by rw [bne_iff_ne]; exact hb
                              have HE := Lib.hid (HBAD.out (by rw [beq_eq_false_iff_ne]; intro h; injection h with _ h2; exact hb h2))
                              clear ha hb
                              obtain ⟨hw1, hw2, hw3, hw4⟩ := HWW.out
                              go_wp2
                              go_quiet (fail)
                              go_wp2
                              go_quiet (fail)
                              go_wp2
                              refine bodyPost_ret (results_tmp3 rfl _ _ _) rfl ?_
                              exact heights_err HE.out (below_drewN (below_drewN HBT.out _) _)
                          · have g1 : (ga != a - tin + tout) = true := by rw [bne_iff_ne]; exact ha
                            have HE := Lib.hid (HBAD.out (by rw [beq_eq_false_iff_ne]; intro h; injection h with h1 _; exact ha h1))
                            clear ha
                            obtain ⟨hw1, hw2, hw3, hw4⟩ := HWW.out
                            go_wp2
                            go_quiet (fail)
                            go_wp2
                            go_quiet (fail)
                            go_wp2
                            refine bodyPost_ret (results_tmp3 rfl _ _ _) rfl ?_
                            exact heights_err HE.out (below_drewN (below_drewN HBT.out _) _)
                      · as_aux_lemma =>
                        have hjt : ¬ (j : Int) < (ls.length : Int) := by omega
                        obtain rfl : j = ls.length := by omega
                        have HFIN : Hid ((hs ++ [(a, b)]).length = n + 1 ∧ (∀ k, k < n + 1 → Bnd ((hs ++ [(a, b)]).getD k (0, 0)) ∧ Bnd (goH ts own ((allI bs).getD k zeroI) ((hs ++ [(a, b)]).getD k (0, 0)))) ∧ runH ts own (allI bs) (N - (n + 1)) (hs ++ [(a, b)]) = heightsE ts (sn : Int) bs ∧ wr.ownsRow WL.heap.size 38 3 (.slice L6 (n + 1) c6) (n + 1) (hgCells (allI bs) (hs ++ [(a, b)])) ∧ Below WL.heap.size WL wr) := Lib.hid (by
                          obtain ⟨h1, h2, h3, _, _⟩ := HR.out
                          refine ⟨by simp [h1], fun k hk => ?_, ?_, own_below HX6.out.2.2.2 HJ.out.2, HX6.out.2.1.trans (HJ.out.2.mono HX6.out.2.1.size)⟩
                          · by_cases e : k < n
                            · rw [getD_app (by rw [h1]; exact e)]
                              exact h2 k e
                            · obtain rfl : k = n := by omega
                              rw [show (hs ++ [(a, b)]).getD k (0, 0) = (a, b) by rw [← h1]; exact getD_last, HI.out.1]
                              exact ⟨HHD.out.2.1, HBG.out⟩
                          · rw [← h3, show N - n = (N - (n + 1)) + 1 by omega, runH_step (by rw [h1]; exact HHD.out.1) (by rw [h1, HI.out.1, HHD.out.2.2.2.2]; exact HK0.out) (by rw [h1, back_form (G := goH ts own i (a, b)) HI.out.1 h1 rfl]; exact back_yes (fun m hm => by rw [HLS.out] at hm ⊢; exact HJ.out.1 m hm))])
                        clear HJ HX6
                        go_wp2
                        exact ⟨⟨n + 1, _, by go_num, by omega, HFIN⟩, by simp [intOf]; omega⟩
                  · as_aux_lemma =>
                    have g0 : (k0 != 0) = true := by rw [bne_iff_ne]; exact hk0
                    have HE : Hid (heightsE ts (sn : Int) bs = ([], k0, i.at_)) := Lib.hid (by
                      obtain ⟨h1, _, h3, _⟩ := HR.out
                      rw [← h3, show N - n = (N - n - 1) + 1 by omega, runH_wrong (by rw [h1]; exact HHD.out.1) (by rw [h1, HI.out.1, HHD.out.2.2.2.2]; exact hk0), h1, HI.out.1, HHD.out.2.2.2.2])
                    have HBT := Lib.hid (HWL.out.trans ((HR.out.2.2.2.2.trans (HT8.out.2.mono HR.out.2.2.2.2.size)).mono HWL.out.size))
                    clear hk0
                    go_wp2
                    go_quiet (fail)
                    go_wp2
                    refine bodyPost_ret (results_tmp3 rfl _ _ _) rfl ?_
                    exact heights_err HE.out (below_drewN HBT.out _)
          · obtain rfl : n = N := by omega
            have HE : Hid (heightsE ts (sn : Int) bs = (hs, 0, 0)) := Lib.hid (by rw [← HR.out.2.2.1, Nat.sub_self]; rfl)
            have HO := Lib.hid (own_lower HR.out.2.2.2.1 HWL.out.size)
            have HB := Lib.hid (HWL.out.trans (HR.out.2.2.2.2.mono HWL.out.size))
            have HL := Lib.hid HR.out.1
            clear HR
            go_wp2
            refine bodyPost_ret (results_tmp3 rfl _ _ _) rfl ?_
            unfold HeightsOut
            rw [HE.out]
            refine ⟨_, rfl, ?_, HB.out⟩
            dsimp only
            rw [HL.out]
            exact HO.out
end Go.Proofs.YtfjmdffhfjnopaaDoor
