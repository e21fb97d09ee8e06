/- code.Check: does each jump lead to where an instruction begins? -/
import Derived.Test.YthjnjdpiihpgeaaDoorJumpsA
import Derived.Test.YthjnjdpiihpgeaaDoorRLeads6
import Derived.Test.YthjnjdpiihpgeaaDoorStarts
import Derived.Test.YthjnjdpiihpgeaaDoorWhole
import Derived.Test.YthjnjdpiihpgeaaDoorOwnSet
import Derived.Deep.DeepCutAuto
namespace Vouch
def goodTo (n : Nat) (l : List Ins) (t : Int) : Bool := decide (0 ≤ t) && decide (t < n) && startAt l t.toNat
def badI (n : Nat) (l : List Ins) (i : Ins) : Bool := (leadsI i).any fun t => !goodTo n l t
/-- Check's number and place, of a section whose instructions l are. -/
def checkE (bs : List Int) (l : List Ins) : Int × Int := if (scanE bs l).1 = 0 then (match l.find? (badI bs.length l) with | some i => (63, i.at_) | none => (0, 0)) else scanE bs l
theorem find_at {p : Ins → Bool} {l : List Ins} {k : Nat} {i : Ins} (hi : l[k]? = some i) (h : ∀ m, m < k → p (l.getD m zeroI) = false) (hp : p i = true) : l.find? p = some i := by
  obtain ⟨hk, rfl⟩ := List.getElem?_eq_some_iff.1 hi
  rw [List.find?_eq_some_iff_getElem]
  refine ⟨hp, k, hk, rfl, fun j hj => ?_⟩
  have := h j hj
  rw [List.getD_eq_getElem?_getD, List.getElem?_eq_getElem (by omega)] at this
  simpa using this
theorem find_none {p : Ins → Bool} {l : List Ins} (h : ∀ m, m < l.length → p (l.getD m zeroI) = false) : l.find? p = none := by
  rw [List.find?_eq_none]
  intro x hx
  obtain ⟨m, hm, rfl⟩ := List.mem_iff_getElem.1 hx
  have := h m hm
  rw [List.getD_eq_getElem?_getD, List.getElem?_eq_getElem hm] at this
  simpa using this
theorem bad_none {n : Nat} {l : List Ins} {i : Ins} (h : ∀ m, m < (leadsI i).length → goodTo n l ((leadsI i).getD m 0) = true) : badI n l i = false := by
  unfold badI
  rw [List.any_eq_false]
  intro x hx
  obtain ⟨m, hm, rfl⟩ := List.mem_iff_getElem.1 hx
  have := h m hm
  rw [List.getD_eq_getElem?_getD, List.getElem?_eq_getElem hm] at this
  simpa using this
theorem bad_some {n : Nat} {l : List Ins} {i : Ins} {m : Nat} (hm : m < (leadsI i).length) (h : goodTo n l ((leadsI i).getD m 0) = false) : badI n l i = true := by
  unfold badI
  rw [List.any_eq_true]
  refine ⟨(leadsI i).getD m 0, ?_, by rw [h]; rfl⟩
  rw [List.getD_eq_getElem?_getD, List.getElem?_eq_getElem hm]
  simp
theorem leadsI_len {i : Ins} (hz : ∀ z ∈ i.imm, 0 ≤ z ∧ z < 256) : (leadsI i).length ≤ 256 := by
  cases hs : standsI i with
  | false => unfold leadsI; rw [hs]; simp
  | true =>
    obtain ⟨fr, cnt, hL, hcnt, _⟩ := leads_form hz hs
    rw [hL, leadsN_length]
    exact hcnt
theorem check_bad {bs : List Int} {l : List Ins} {k m : Nat} {i : Ins} (hs : (scanE bs l).1 = 0) (hi : l[k]? = some i) (h : ∀ m, m < k → badI bs.length l (l.getD m zeroI) = false) (hm : m < (leadsI i).length) (hb : goodTo bs.length l ((leadsI i).getD m 0) = false) : checkE bs l = (63, i.at_) := by
  unfold checkE
  rw [if_pos hs, find_at hi h (bad_some hm hb)]
theorem check_good {bs : List Int} {l : List Ins} (hs : (scanE bs l).1 = 0) (h : ∀ m, m < l.length → badI bs.length l (l.getD m zeroI) = false) : checkE bs l = (0, 0) := by
  unfold checkE
  rw [if_pos hs, find_none h]
end Vouch
namespace Go.Proofs.YthjnjdpiihpgeaaDoor
open Go.RowKit Vouch Go.Vk Go.Sort
/-- What Check hands back. -/
def CheckOut (bs : List Int) (w : World) (e : Ending) (w' : World) : Prop := ∃ xs : List El, AllOf bs xs ∧ e = .returned (.tuple #[.int .i64 (checkE bs (xs.map Prod.fst)).1, .int .i64 (checkE bs (xs.map Prod.fst)).2]) ∧ Below w.heap.size w w'
theorem checkOut_mk {bs : List Int} {w : World} {e : Ending} {w' : World} (xs : List El) (h : AllOf bs xs) (he : e = .returned (.tuple #[.int .i64 (checkE bs (xs.map Prod.fst)).1, .int .i64 (checkE bs (xs.map Prod.fst)).2])) (hb : Below w.heap.size w w') : CheckOut bs w e w' := ⟨xs, h, he, hb⟩
theorem all_same {bs : List Int} {xs ys : List El} (h : AllOf bs xs) (h' : AllOf bs ys) : ys.map Prod.fst = xs.map Prod.fst := by
  obtain ⟨p, h1, h2⟩ := h
  obtain ⟨q, h3, h4⟩ := h'
  exact (reads_all h1 h2 h3 h4).1
set_option maxHeartbeats 1000000 in
set_option maxRecDepth 100000 in
theorem check_any (bs : List Int) (A : Option Addr) (cap : Nat) (w : World) (hc : IntsAt w .u8 A bs) (hz : ∀ z ∈ bs, 0 ≤ z ∧ z < 256) (hn : bs.length ≤ 4294967296) (hcap : bs.length ≤ cap) :
    Calls Tryd.prog 32 #[.slice A bs.length cap] w (CheckOut bs w) := by
  have HSC := Lib.hid (scan_any bs A cap w hc hz hn hcap)
  have HSS := Lib.hid (fun w1 (hb : Below w.heap.size w w1) => starts_any bs A cap w1 (ints_below hb hc) hz hn)
  have HZ := Lib.hid hz
  clear hc hz
  go_enter Tryd.func32, Tryd.ntmps32
  go_wp2_with (go_at_call 16; refine stop_o ?_)
  unfold StopO
  refine HSC.out.mono ?_
  rintro e w1 ⟨xs, ys, v, hall, rfl, hown, hrows, hris, hys, hb1⟩
  have HALL := Lib.hid hall
  rcases hys with ⟨h0, hxy⟩ | ⟨h0, hxy⟩
  · obtain rfl : xs = ys := hxy.symm
    rw [h0]
    have HSE := Lib.hid h0
    clear h0 hall
    go_wp2_with (go_at_call 25; refine stop_o ?_)
    unfold StopO
    refine (HSS.out w1 hb1).mono ?_
    rintro e w2 ⟨rfl, xs', hall', hrow, hb2⟩
    rw [all_same HALL.out hall'] at hrow
    have hB2 := hb1.trans (hb2.mono hb1.size)
    clear hall'
    have hlen : xs.length ≤ bs.length := by
      obtain ⟨p, hp, _⟩ := HALL.out
      have := reads_length hp
      simpa using this
    obtain ⟨Xl, cl, rfl⟩ := owns_shape hown
    have HOWN := Lib.hid (own_below hown hb2)
    have HROWS := Lib.hid (fun x hx => own_below (hrows x hx) hb2)
    clear hown hrows hris
    go_wp2
    go_loopw [26] (fun vk wr => ∃ k : Nat, vk = .int .i64 k ∧ k ≤ xs.length ∧ (∀ m, m < k → badI bs.length (xs.map Prod.fst) ((xs.map Prod.fst).getD m zeroI) = false) ∧ Below w2.heap.size w2 wr) (fun vk _ => xs.length - (intOf vk).toNat)
    case atStart => exact ⟨0, rfl, Nat.zero_le _, fun m h => absurd h (Nat.not_lt_zero _), Below.refl _ _⟩
    case round =>
      obtain ⟨k, rfl, hk, hgood, hBr⟩ := hrel
      have HG := Lib.hid hgood
      clear hgood
      by_cases hlt : k < xs.length
      · obtain ⟨⟨i, yv⟩, hy⟩ : ∃ y, xs[k]? = some y := ⟨_, List.getElem?_eq_getElem hlt⟩
        obtain ⟨hr1, hr2, hr3, hr4⟩ := insCells_at hy
        have hyr := HROWS.out _ (List.mem_of_getElem? hy)
        have hik : (xs.map Prod.fst)[k]? = some i := by rw [List.getElem?_map, hy]; rfl
        dsimp only at hr1 hr2 hr3 hr4
        replace hyr : w2.ownsRow w.heap.size 5 1 yv i.imm.length (byteVs i.imm) := hyr
        obtain ⟨X, c, rfl⟩ := owns_shape hyr
        obtain ⟨gl, rfl⟩ := own_head HOWN.out (by omega)
        obtain ⟨q, hq1, hq2⟩ : ∃ q, Reads bs ((xs.take k).map Prod.fst) q ∧ readE bs q = (0, i) := by
          obtain ⟨p, hp, _⟩ := HALL.out
          exact reads_at hp hy
        obtain ⟨hq0, hqn, hq5, hat, hnx, hil⟩ := read_next hq2
        have him := (read_parts hq2).2.2.1
        have hib : ∀ z ∈ i.imm, 0 ≤ z ∧ z < 256 := fun z h => by
          rw [him] at h
          exact HZ.out z (List.mem_of_mem_drop (List.mem_of_mem_take h))
        have c0 := cell_later hBr ((HOWN.out.cellAt (k * 4) (by omega)).trans hr1)
        have c1 := cell_later hBr ((HOWN.out.cellAt (k * 4 + 1) (by omega)).trans hr2)
        have c2 := cell_later hBr ((HOWN.out.cellAt (k * 4 + 2) (by omega)).trans hr3)
        have c3 := cell_later hBr ((HOWN.out.cellAt (k * 4 + 3) (by omega)).trans hr4)
        have HIK := Lib.hid hik
        have hnw : (Lit.int .i64 i.next).wf = true := wf64 (by omega) (by omega)
        have hLm := leadsI_len hib
        have HAT := Lib.hid hat
        have HNX := Lib.hid hnx
        have h1 : (k : Int) < (xs.length : Int) := by omega
        have hbx := (Below.refl wr.heap.size wr).alloc (Nat.le_refl _) (.cells #[.int .i64 i.at_, .int .i64 i.code, .slice X i.imm.length c, .int .i64 i.next] 34)
        have hgx := heap_alloc_new wr (.cells #[.int .i64 i.at_, .int .i64 i.code, .slice X i.imm.length c, .int .i64 i.next] 34)
        have hB3 := hBr.trans (hbx.mono hBr.size)
        have HL := Lib.hid (leads_any i X c _ (ints_below hB3 (owned_ints hyr)) hib (by omega) (owned_cap hyr) hnw)
        obtain ⟨p0, p1, p2, p3, pz, pl⟩ := cells4 hgx
        unfold insV at HL
        clear hr1 hr2 hr3 hr4 hq2 hq1 him hik hy hat hnx hib
        have hrow3 := row_below hrow hB3
        go_wp2_with (go_at_call 28; refine stop_o ?_)
        generalize wr.alloc (.cells #[.int .i64 i.at_, .int .i64 i.code, .slice X i.imm.length c, .int .i64 i.next] 34) = W3 at hbx hgx hB3 HL p0 p1 p2 p3 pz pl hrow3 ⊢
        unfold StopO
        refine HL.out.mono ?_
        rintro e w4 ⟨vl, rfl, hol, hb4⟩
        obtain ⟨Xt, ct, rfl⟩ := owns_shape hol
        have hrow4 := row_below hrow3 hb4
        have hg4 := kept_of hb4 hgx
        have hB4 := hB3.trans (hb4.mono hB3.size)
        have HLI := Lib.hid (owned_ints64 hol)
        clear p0 p1 p2 p3 pz pl hol c0 c1 c2 c3 hrow3 hgx
        go_wp2
        go_loopw [33] (fun vj wx => ∃ j : Nat, vj = .int .i64 j ∧ j ≤ (leadsI i).length ∧ (∀ m, m < j → goodTo bs.length (xs.map Prod.fst) ((leadsI i).getD m 0) = true) ∧ Below w4.heap.size w4 wx) (fun vj _ => (leadsI i).length - (intOf vj).toNat)
        case atStart => exact ⟨0, rfl, Nat.zero_le _, fun m h => absurd h (Nat.not_lt_zero _), Below.refl _ _⟩
        case round =>
          obtain ⟨j, rfl, hj, hgd, hBj⟩ := hrel
          have HGD := Lib.hid hgd
          clear hgd
          have hrow5 := row_below hrow4 hBj
          obtain ⟨p0, p1, p2, p3, pz, pl⟩ := cells4 (kept_of hBj hg4)
          by_cases hjl : j < (leadsI i).length
          · obtain ⟨y, rfl, hy⟩ := HLI.out j hjl
            have hy' := cell_later hBj hy
            have hj1 : (j : Int) < ((leadsI i).length : Int) := by omega
            have HBAD := Lib.hid (fun (h : goodTo bs.length (xs.map Prod.fst) ((leadsI i).getD j 0) = false) => check_bad HSE.out HIK.out HG.out hjl h)
            have HSN := Lib.hid (fun (h : goodTo bs.length (xs.map Prod.fst) ((leadsI i).getD j 0) = true) m (hm : m < j + 1) => if e : m < j then HGD.out m e else (by rw [show m = j by omega]; exact h))
            generalize (leadsI i).getD j 0 = t at hy' HBAD HSN
            clear hy
            have HROW := Lib.hid hrow5
            by_cases ht0 : t < 0
            · have hb := HBAD.out (by unfold goodTo; rw [decide_eq_false (by omega)]; rfl)
              have HB := Lib.hid hb
              clear hb
              go_wp2
              go_quiet (fail)
              go_wp2
              refine bodyPost_ret (results_tmp2 rfl _ _ _) rfl (checkOut_mk xs HALL.out (by rw [HB.out]; rfl) (below_drewN (hB2.trans ((hB4.trans (hBj.mono hB4.size)).mono hB2.size)) _))
            · by_cases ht1 : (bs.length : Int) ≤ t
              · have hb := HBAD.out (by unfold goodTo; rw [decide_eq_false (show ¬ t < (bs.length : Int) by omega)]; simp)
                have ht2 : ¬ t < (bs.length : Int) := by omega
                have HB := Lib.hid hb
                clear hb
                go_wp2
                go_quiet (fail)
                go_wp2
                refine bodyPost_ret (results_tmp2 rfl _ _ _) rfl (checkOut_mk xs HALL.out (by rw [HB.out]; rfl) (below_drewN (hB2.trans ((hB4.trans (hBj.mono hB4.size)).mono hB2.size)) _))
              · obtain ⟨q', hq'⟩ : ∃ q' : Nat, t = q' := ⟨t.toNat, by omega⟩
                subst hq'
                have hcq := HROW.out.cell (i := q') (by omega)
                cases hst : startAt (xs.map Prod.fst) q' with
                | true =>
                  have hs := HSN.out (by unfold goodTo; rw [decide_eq_true (by omega), decide_eq_true (by omega)]; simpa using hst)
                  rw [hst] at hcq
                  have HS := Lib.hid hs
                  clear hs hst
                  have ht3 : (q' : Int) < (bs.length : Int) := by omega
                  go_wp2
                  exact ⟨⟨j + 1, by go_num, by omega, HS.out, hBj⟩, by simp [intOf]; omega⟩
                | false =>
                  have hb := HBAD.out (by unfold goodTo; rw [decide_eq_true (by omega), decide_eq_true (by omega)]; simpa using hst)
                  rw [hst] at hcq
                  have ht3 : (q' : Int) < (bs.length : Int) := by omega
                  clear hst
                  have HB := Lib.hid hb
                  clear hb
                  go_wp2
                  go_quiet (fail)
                  go_wp2
                  refine bodyPost_ret (results_tmp2 rfl _ _ _) rfl (checkOut_mk xs HALL.out (by rw [HB.out]; rfl) (below_drewN (hB2.trans ((hB4.trans (hBj.mono hB4.size)).mono hB2.size)) _))
          · have hje : (leadsI i).length = j := by omega
            have hbn := bad_none (n := bs.length) (l := xs.map Prod.fst) (i := i) (fun m hm => HGD.out m (by omega))
            have hj1 : ¬ (j : Int) < ((leadsI i).length : Int) := by omega
            have HBN := Lib.hid (fun m (hm : m < k + 1) => (show badI bs.length (xs.map Prod.fst) ((xs.map Prod.fst).getD m zeroI) = false from if e : m < k then HG.out m e else (by rw [show m = k by omega, List.getD_eq_getElem?_getD, HIK.out]; exact hbn)))
            clear hbn hje
            go_wp2
            exact ⟨⟨k + 1, by go_num, by omega, HBN.out, hB4.trans (hBj.mono hB4.size)⟩, by simp [intOf]; omega⟩
      · have hk' : k = xs.length := by omega
        subst hk'
        have hck := check_good HSE.out (fun m hm => HG.out m (by simpa using hm))
        have HCK := Lib.hid hck
        have h1 : ¬ (xs.length : Int) < (xs.length : Int) := by omega
        clear hck
        go_wp2
        refine bodyPost_ret (results_tmp2 rfl _ _ _) rfl (checkOut_mk xs HALL.out (by rw [HCK.out]; rfl) (hB2.trans (hBr.mono hB2.size)))
  · subst hxy
    have hne : ((scanE bs (xs.map Prod.fst)).1 != 0) = true := by simpa using h0
    have hck : checkE bs (xs.map Prod.fst) = scanE bs (xs.map Prod.fst) := by unfold checkE; rw [if_neg h0]
    have HCK := Lib.hid hck
    generalize scanE bs (xs.map Prod.fst) = r at hne HCK ⊢
    clear h0 hck hall
    go_wp2
    refine bodyPost_ret (results_tmp2 rfl _ _ _) rfl (checkOut_mk xs HALL.out (by rw [HCK.out]; rfl) hb1)
end Go.Proofs.YthjnjdpiihpgeaaDoor
