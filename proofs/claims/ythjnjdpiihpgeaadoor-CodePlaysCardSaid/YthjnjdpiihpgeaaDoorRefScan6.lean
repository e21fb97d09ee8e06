/- vouchref6.Scan: the document's answer. -/
import Derived.Test.YthjnjdpiihpgeaaDoorRefAll6
import Derived.Deep.DeepCutAuto
namespace Go.Proofs.YthjnjdpiihpgeaaDoor
open Go.RowKit Vouch Go.Vk Go.Sort
/-- What vouchref6.Scan hands back. -/
def RScanOut (bs : List Int) (w : World) (e : Ending) (w' : World) : Prop := ∃ (xs ys : List El) (v : Value), AllOf bs xs ∧ e = .returned (.tuple #[v, .int .i64 (scanE bs (xs.map Prod.fst)).1, .int .i64 (scanE bs (xs.map Prod.fst)).2]) ∧
      w'.ownsRow w.heap.size 34 4 v ys.length (insCells ys) ∧ RowsAt w.heap.size ys w' ∧ ((scanE bs (xs.map Prod.fst)).1 = 0 ∧ ys = xs ∨ (scanE bs (xs.map Prod.fst)).1 ≠ 0 ∧ ys = []) ∧ Below w.heap.size w w'
theorem rscan_none {bs : List Int} {w : World} {e : Ending} {w' : World} (xs : List El) (h : AllOf bs xs) (E P : Int) (hs : scanE bs (xs.map Prod.fst) = (E, P)) (hE : E ≠ 0) (he : e = .returned (.tuple #[.slice none 0 0, .int .i64 E, .int .i64 P])) (hb : Below w.heap.size w w') : RScanOut bs w e w' :=
  ⟨xs, [], .slice none 0 0, h, by rw [hs]; exact he, World.ownsRow_nil _ _ _ _, (fun x hx => by cases hx), .inr ⟨by rw [hs]; exact hE, rfl⟩, hb⟩
theorem rscan_some {bs : List Int} {w : World} {e : Ending} {w' : World} (xs : List El) (v : Value) (h : AllOf bs xs) (hs : scanE bs (xs.map Prod.fst) = (0, 0)) (he : e = .returned (.tuple #[v, .int .i64 0, .int .i64 0])) (ho : w'.ownsRow w.heap.size 34 4 v xs.length (insCells xs)) (hr : RowsAt w.heap.size xs w') (hb : Below w.heap.size w w') : RScanOut bs w e w' :=
  ⟨xs, xs, v, h, by rw [hs]; exact he, ho, hr, .inl ⟨by rw [hs], rfl⟩, hb⟩
set_option maxHeartbeats 1000000 in
set_option maxRecDepth 100000 in
theorem refscan_any (bs : List Int) (A : Option Addr) (cap : Nat) (w : World) (hc : IntsAt w .u8 A bs) (hz : ∀ z ∈ bs, 0 ≤ z ∧ z < 256) (hn : bs.length ≤ 4294967296) :
    Calls Tryd.prog 34 #[.slice A bs.length cap] w (RScanOut bs w) := by
  have HO := Lib.hid (fun p w1 (hb : Below w.heap.size w w1) (hp : (Lit.int .i64 p).wf = true) => refone_any bs A cap p w1 (ints_below hb hc) hz hn hp)
  have HA := Lib.hid (refall_any bs A cap w hc hz hn)
  clear hc hz
  go_enter Tryd.func34, Tryd.ntmps34
  go_wp2_with (go_at_call 36; refine stop_o ?_)
  unfold StopO
  refine HA.out.mono ?_
  rintro e w1 ⟨xs, v, hall, rfl, hown, hrows, hB⟩
  have HALL := Lib.hid hall
  obtain ⟨p, hrd, hne⟩ := hall
  have hpp := reads_pos hrd
  have hp := reads_next hrd
  subst hp
  have hxl := reads_length hrd
  rw [List.length_map] at hxl
  have HNE := Lib.hid hne
  clear hne hrd
  rcases List.eq_nil_or_concat xs with rfl | ⟨ys, x, hxs⟩
  · obtain ⟨Y, cv, rfl⟩ := owns_shape hown
    by_cases hb0 : bs.length = 0
    · have hsc : scanE bs (([] : List El).map Prod.fst) = (62, 0) := by unfold scanE; rw [if_neg (by show ¬ ((0 : Int) < _); omega)]; rfl
      have HS := Lib.hid hsc
      clear hsc
      go_wp2
      refine bodyPost_ret_by (results_tmp3 rfl _ _ _) rfl (rscan_none [] HALL.out 62 0 HS.out (by decide) rfl hB)
    · have hsc : scanE bs (([] : List El).map Prod.fst) = ((readE bs 0).1, 0) := by unfold scanE; rw [if_pos (by show ((0 : Int) < _); omega)]; rfl
      have hne0 : (readE bs 0).1 ≠ 0 := HNE.out
      have HO1 := Lib.hid (HO.out 0 w1 hB (wf64 (by omega) (by omega)))
      have HS := Lib.hid hsc
      have HN0 := Lib.hid hne0
      generalize readE bs 0 = r at HO1 HS HN0
      obtain ⟨er, i⟩ := r
      unfold insV at HO1
      clear hsc hne0
      have hb1 : (0 : Int) < (bs.length : Int) := by omega
      have hb2 : 0 < bs.length := by omega
      have hb3 : ¬ (bs.length : Int) = 0 := by omega
      have hb6 : ((bs.length : Int) == 0) = false := beq_eq_false_iff_ne.2 (by omega)
      go_wp2_with (go_at_call 23; refine HO1.out.mono ?_; rintro e w4 ⟨v4, rfl, ho4, hb4⟩; obtain ⟨X, c, rfl⟩ := owns_shape ho4)
      refine bodyPost_ret_by (results_tmp3 rfl _ _ _) rfl (rscan_none [] HALL.out er 0 HS.out HN0.out rfl ((hB.trans (hb4.mono hB.size)).alloc (Nat.le_trans hB.size hb4.size) _))
  · rw [List.concat_eq_append] at hxs
    have hl : xs.length = ys.length + 1 := by rw [hxs]; simp
    have hnx : nextOf (xs.map Prod.fst) = x.1.next := by rw [hxs, List.map_append]; exact nextOf_snoc _ _
    have hla : lastOf6 (xs.map Prod.fst) = x.1.at_ := by rw [hxs, List.map_append]; exact lastOf6_snoc _ _
    rw [hnx] at hpp HNE
    have hcl : (insCells xs)[ys.length * 4]? = some (.int .i64 x.1.at_) ∧ (insCells xs)[ys.length * 4 + 1]? = some (.int .i64 x.1.code) ∧ (insCells xs)[ys.length * 4 + 2]? = some x.2 ∧ (insCells xs)[ys.length * 4 + 3]? = some (.int .i64 x.1.next) := insCells_at (by rw [hxs, List.getElem?_append_right (Nat.le_refl _), Nat.sub_self]; rfl)
    obtain ⟨g1, c1, h1⟩ := owns_shape hown
    subst h1
    obtain ⟨gq, rfl⟩ := own_head hown (by omega)
    obtain ⟨hr1, hr2, hr3, hr4⟩ := hcl
    have c0 := (hown.cellAt (ys.length * 4) (by omega)).trans hr1
    have c1' := (hown.cellAt (ys.length * 4 + 1) (by omega)).trans hr2
    have c2 := (hown.cellAt (ys.length * 4 + 2) (by omega)).trans hr3
    have c3 := (hown.cellAt (ys.length * 4 + 3) (by omega)).trans hr4
    have HOWN := Lib.hid hown
    have HROWS := Lib.hid hrows
    have HX := Lib.hid hxs
    obtain ⟨i, xv⟩ := x
    dsimp only at *
    have hxr : w1.ownsRow w.heap.size 5 1 xv i.imm.length (byteVs i.imm) := hrows (i, xv) (by rw [hxs]; simp)
    obtain ⟨X, cX, rfl⟩ := owns_shape hxr
    have hsc : ¬ (i.next < bs.length) → scanE bs (xs.map Prod.fst) = if (opR i.code).ends = false then (62, i.at_) else (0, 0) := fun h => by
      unfold scanE
      rw [hnx, if_neg h, if_neg (by rw [hxs]; simp), hla, show (((xs.map Prod.fst).getLast?.map Ins.code).getD 0) = i.code by rw [hxs]; simp]
    have hsn : i.next < bs.length → scanE bs (xs.map Prod.fst) = ((readE bs i.next).1, i.next) := fun h => by unfold scanE; rw [hnx, if_pos h]
    have HSC := Lib.hid hsc
    have HSN := Lib.hid hsn
    clear hrows hxr hsc hsn hnx hla hr1 hr2 hr3 hr4
    generalize hm : xs.length = m at *
    have HM := Lib.hid hm
    rw [show ys.length * 4 = (m - 1) * 4 by omega] at c0
    rw [show ys.length * 4 + 1 = (m - 1) * 4 + 1 by omega] at c1'
    rw [show ys.length * 4 + 2 = (m - 1) * 4 + 2 by omega] at c2
    rw [show ys.length * 4 + 3 = (m - 1) * 4 + 3 by omega] at c3
    have hwr : wrap64 ((m : Int) - 1) = (m : Int) - 1 := wrap_sub (by omega) (by omega)
    have ht : ((m : Int) - 1).toNat = m - 1 := by omega
    have hz1' : (0 : Int) ≤ (m : Int) - 1 := by omega
    have hz2' : (m : Int) - 1 < m := by omega
    have hz3' : ¬ (m : Int) = 0 := by omega
    have hz4' : ((m : Int) == 0) = false := by simp; omega
    have hz5' : (0 : Int) < m := by omega
    have hz6' : 0 < m := by omega
    clear hl hm hxs hown
    by_cases hlt : i.next < bs.length
    · have HO1 := Lib.hid (HO.out i.next w1 hB (wf64 (by omega) (by omega)))
      have HS := Lib.hid (HSN.out hlt)
      generalize readE bs i.next = r at HO1 HS HNE
      obtain ⟨er, i'⟩ := r
      unfold insV at HO1
      go_wp2_with (go_at_call 23; refine HO1.out.mono ?_; rintro e w4 ⟨v4, rfl, ho4, hb4⟩; obtain ⟨X', c', rfl⟩ := owns_shape ho4)
      refine bodyPost_ret_by (results_tmp3 rfl _ _ _) rfl (rscan_none xs HALL.out er i.next HS.out HNE.out rfl ((hB.trans (hb4.mono hB.size)).alloc (Nat.le_trans hB.size hb4.size) _))
    · have HS := Lib.hid (HSC.out hlt)
      have hbx := (Below.refl w1.heap.size w1).alloc (Nat.le_refl _) (.cells #[.int .i64 i.at_, .int .i64 i.code, .slice X i.imm.length cX, .int .i64 i.next] 34)
      have hgx := heap_alloc_new w1 (.cells #[.int .i64 i.at_, .int .i64 i.code, .slice X i.imm.length cX, .int .i64 i.next] 34)
      obtain ⟨p0, p1, p2, p3, pz, pl⟩ := cells4 hgx
      have hB2 := hB.trans (hbx.mono hB.size)
      cases hends : (opR i.code).ends with
      | false =>
        go_wp2_with (go_at_call 41; refine (rof_any _ _).mono ?_; unfold rowC; rw [hends]; rintro e w4 ⟨rfl, hb4⟩; have hb5 := hb4.alloc hb4.size (.cells #[.int .i64 (opR i.code).code, .string (opR i.code).name, .int .i64 (opR i.code).imm, .int .i64 (opR i.code).inn, .int .i64 (opR i.code).out, .int .i64 (opR i.code).gas, .bool false] 30); have k0 := cell_later hb5 p0)
        go_quiet (fail)
        go_wp2
        refine bodyPost_ret_by (results_tmp3 rfl _ _ _) rfl (rscan_none xs HALL.out 62 i.at_ (by rw [HS.out, if_pos hends]) (by decide) rfl (below_drewN (hB2.trans (hb5.mono hB2.size)) _))
      | true =>
        go_wp2_with (go_at_call 41; refine (rof_any _ _).mono ?_; unfold rowC; rw [hends]; rintro e w4 ⟨rfl, hb4⟩; have hb5 := hb4.alloc hb4.size (.cells #[.int .i64 (opR i.code).code, .string (opR i.code).name, .int .i64 (opR i.code).imm, .int .i64 (opR i.code).inn, .int .i64 (opR i.code).out, .int .i64 (opR i.code).gas, .bool true] 30))
        refine bodyPost_ret_by (results_tmp3 rfl _ _ _) rfl (rscan_some xs _ HALL.out (by rw [HS.out, if_neg (by rw [hends]; simp)]) rfl ?_ ?_ (hB2.trans (hb5.mono hB2.size)))
        · rw [HM.out]; exact own_below (own_below HOWN.out hbx) hb5
        · exact fun y hy => own_below (own_below (HROWS.out y hy) hbx) hb5
end Go.Proofs.YthjnjdpiihpgeaaDoor
