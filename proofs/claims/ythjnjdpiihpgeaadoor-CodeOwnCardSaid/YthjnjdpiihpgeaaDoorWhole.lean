/- vouchlaw6.CodeWhole returns true. -/
import Derived.Test.YthjnjdpiihpgeaaDoorCut6
import Derived.Laws.BytesString
import Derived.Laws.IdiomStrings
import Derived.WalkSmall
import Derived.WalkSmall
import Derived.WalkSmall
import Derived.WalkSmall
import Derived.WalkSmall
namespace Vouch
def flatI (l : List Ins) : List Int := l.flatMap fun i => i.code :: i.imm
theorem flatI_snoc (l : List Ins) (i : Ins) : flatI (l ++ [i]) = flatI l ++ i.code :: i.imm := by simp [flatI]
theorem read_parts {bs : List Int} {p : Int} {i : Ins} (h2 : readE bs p = (0, i)) : i.code = bs.getD p.toNat 0 ∧ isOp i.code = true ∧ i.imm = (bs.drop (p.toNat + 1)).take i.imm.length ∧ ∃ n, immL (opR i.code) (bs.drop (p.toNat + 1)) = some n ∧ n = i.imm.length := by
  unfold readE at h2
  split at h2
  · cases h2
  · split at h2
    · cases h2
    · rename_i h1 ho
      split at h2
      · cases h2
      · rename_i n hn
        split at h2
        · cases h2
        · cases h2
          dsimp only
          have hl : ((bs.drop (p.toNat + 1)).take n).length = n := by rw [List.length_take, List.length_drop]; omega
          exact ⟨rfl, by simpa using ho, by rw [hl], n, hn, hl.symm⟩
theorem drop_getD {bs : List Int} {k : Nat} (h : k < bs.length) : bs.drop k = bs.getD k 0 :: bs.drop (k + 1) := by
  rw [List.drop_eq_getElem_cons h, List.getD_eq_getElem?_getD, List.getElem?_eq_getElem h]
  rfl
theorem flat_take {bs : List Int} {l : List Ins} {p : Int} (h : Reads bs l p) (hp : ∀ {l : List Ins} {p : Int} {i : Ins}, Reads bs l p → readE bs p = (0, i) → 0 ≤ p ∧ i.next = p + 1 + i.imm.length ∧ i.next ≤ bs.length) : flatI l = bs.take p.toNat := by
  induction h with
  | nil => rfl
  | snoc h1 h2 ih =>
    rename_i pre q i
    obtain ⟨h0, h3, h4⟩ := hp h1 h2
    obtain ⟨h5, _, h6, _⟩ := read_parts h2
    rw [flatI_snoc, ih, h5]
    have e : i.next.toNat = q.toNat + (1 + i.imm.length) := by omega
    rw [e, List.take_add, drop_getD (show q.toNat < bs.length by omega), Nat.add_comm 1, List.take_succ_cons, ← h6]
/-- Taken: the instructions are the section. -/
theorem scan_ok {bs : List Int} {l : List Ins} (h : (scanE bs l).1 = 0) (hne : nextOf l < bs.length → (readE bs (nextOf l)).1 ≠ 0) : (bs.length : Int) ≤ nextOf l ∧ l ≠ [] ∧ (opR ((l.getLast?.map Ins.code).getD 0)).ends = true := by
  unfold scanE at h
  split at h
  · exact absurd h (hne (by assumption))
  · split at h
    · simp at h
    · split at h
      · simp at h
      · rename_i h1 h2 h3
        exact ⟨by omega, h2, by simpa using h3⟩
end Vouch
namespace Go.Proofs.YthjnjdpiihpgeaaDoor
open Go.RowKit Vouch Go.Vk Go.Sort
def strOf (zs : List Int) : ByteArray := zs.foldl (fun r n => r.push (UInt8.ofNat n.toNat)) ByteArray.empty
theorem conv_str {w : World} {A : Option Addr} {zs : List Int} {n cap : Nat} (h : IntsAt w .u8 A zs) (hn : n = zs.length) : (convert 22 9 (.slice A n cap)).run Tryd.prog w = .ok (.string (strOf zs)) w := by
  subst hn
  rw [run_convert_bytes_string w _ _ 5 A zs.length cap Tryd.underlying22 Tryd.underlying5 Tryd.underlying9]
  cases A with
  | none =>
    have h0 : zs = [] := by
      cases zs with
      | nil => rfl
      | cons z zs => obtain ⟨x, hx, _⟩ := h 0 (by simp); cases hx
    subst h0
    simp [Conv.bytesToString, strOf, Sem.run_pure]
  | some a =>
    have hl := run_loadCells_list (P := Tryd.prog) w a (byteVs zs) (bytes_src h)
    rw [byteVs_length] at hl
    exact run_bytesToString w a zs.length cap zs hl
theorem reads_at {bs : List Int} {ys : List El} {p : Int} {k : Nat} {y : El} (h : Reads bs (ys.map Prod.fst) p) (hy : ys[k]? = some y) : ∃ q, Reads bs ((ys.take k).map Prod.fst) q ∧ readE bs q = (0, y.1) := by
  have e : ys.map Prod.fst = (ys.take k).map Prod.fst ++ y.1 :: (ys.drop (k + 1)).map Prod.fst := by
    have hk := (List.getElem?_eq_some_iff.1 hy).1
    conv => lhs; rw [← List.take_append_drop k ys]
    rw [List.map_append, List.drop_eq_getElem_cons hk, List.map_cons, (List.getElem?_eq_some_iff.1 hy).2]
  rw [e] at h
  exact reads_take _ h
theorem owned_ints {w : World} {B : Nat} {X : Option Addr} {c : Nat} {zs : List Int} (h : w.ownsRow B 5 1 (.slice X zs.length c) zs.length (byteVs zs)) : IntsAt w .u8 X zs := fun i hi => by
  obtain ⟨g, rfl⟩ := own_head h (by omega)
  refine ⟨_, rfl, ?_⟩
  rw [show (⟨g, 0, none⟩ : Addr).add i = ⟨g, i, none⟩ by unfold Addr.add; split <;> simp_all, h.cellAt i (by omega)]
  simp [byteVs, List.getD_eq_getElem?_getD, List.getElem?_eq_getElem hi]
theorem owned_cap {w : World} {B e size n c : Nat} {X : Option Addr} {xs : List Value} (h : w.ownsRow B e size (.slice X n c) n xs) : n ≤ c := by
  rcases h.2 with ⟨h1, h2⟩ | ⟨g, c', cur, h1, _, _, h4, _⟩
  · omega
  · cases h1
    exact h4
theorem byte_wf {n : Int} (h : (Lit.int .u8 n).wf = true) : 0 ≤ n ∧ n < 256 := by
  simp [Lit.wf, IntKind.min, IntKind.max, IntKind.signed, IntKind.bits] at h
  omega
theorem addr_zero (g j : Nat) : (⟨g, 0, none⟩ : Addr).add j = ⟨g, j, none⟩ := by unfold Addr.add; split <;> simp_all
theorem own_same_bytes {w : World} {B : Nat} {v : Value} {fk zs : List Int} {c : Int} (h : w.ownsRow B 5 1 v (fk.length + 1) (byteVs fk ++ [.int .u8 c])) (e : zs = fk ++ [c]) : w.ownsRow B 5 1 v zs.length (byteVs zs) := by
  subst e
  have e1 : byteVs (fk ++ [c]) = byteVs fk ++ [.int .u8 c] := by simp [byteVs]
  rw [e1, List.length_append]
  exact h
theorem own_more_bytes {w : World} {B : Nat} {v : Value} {fk im zs : List Int} {c : Int} (h : w.ownsRow B 5 1 v (fk.length + 1 + im.length) (byteVs fk ++ .int .u8 c :: byteVs im)) (e : zs = fk ++ c :: im) : w.ownsRow B 5 1 v zs.length (byteVs zs) := by
  subst e
  have e1 : byteVs (fk ++ c :: im) = byteVs fk ++ .int .u8 c :: byteVs im := by simp [byteVs]
  rw [e1, List.length_append, List.length_cons, show fk.length + (im.length + 1) = fk.length + 1 + im.length by omega]
  exact h
theorem insCells_at {ys : List El} {k : Nat} {y : El} (h : ys[k]? = some y) : (insCells ys)[k * 4]? = some (.int .i64 y.1.at_) ∧ (insCells ys)[k * 4 + 1]? = some (.int .i64 y.1.code) ∧ (insCells ys)[k * 4 + 2]? = some y.2 ∧ (insCells ys)[k * 4 + 3]? = some (.int .i64 y.1.next) := by
  induction ys generalizing k with
  | nil => simp at h
  | cons x ys ih =>
    have e : insCells (x :: ys) = [.int .i64 x.1.at_, .int .i64 x.1.code, x.2, .int .i64 x.1.next] ++ insCells ys := rfl
    rw [e]
    cases k with
    | zero =>
      simp at h
      subst h
      exact ⟨rfl, rfl, rfl, rfl⟩
    | succ k =>
      have h' := ih (by simpa using h)
      rw [show (k + 1) * 4 = k * 4 + 4 by omega]
      refine ⟨?_, ?_, ?_, ?_⟩
      · rw [List.getElem?_append_right (by simp), ← h'.1]; rfl
      · rw [List.getElem?_append_right (by simp), ← h'.2.1]; rfl
      · rw [List.getElem?_append_right (by simp), ← h'.2.2.1]; rfl
      · rw [List.getElem?_append_right (by simp), ← h'.2.2.2]; rfl
set_option maxHeartbeats 2000000 in
set_option maxRecDepth 100000 in
theorem whole_walk (A : Option Addr) (cap : Nat) (zs : List Int) (w : World) (hc : IntsAt w .u8 A zs) (hz : ∀ n ∈ zs, (Lit.int .u8 n).wf = true) (hcap : zs.length ≤ cap) (hnil : A = none → cap = 0) :
    Calls Tryd.prog 3 #[.slice A zs.length cap] w fun e w' => e = .returned (.bool true) ∧ Below w.heap.size w w' := by
  obtain ⟨i0, hi, hz0, hz1, hz2⟩ := info_parts infoByte
  have hz' : ∀ z ∈ zs.take 70000, 0 ≤ z ∧ z < 256 := fun z hz2 => byte_wf (hz z (List.mem_of_mem_take hz2))
  have hbl : (zs.take 70000).length ≤ 70000 := by rw [List.length_take]; omega
  have HCUT := Lib.hid (cut_any zs A cap w hc hcap hnil)
  clear hc hz
  generalize zs.take 70000 = bs at hz' hbl HCUT
  have HZ := Lib.hid hz'
  clear hz'
  go_enter Tryd.func3, Tryd.ntmps3
  go_wp2_with (go_at_call 15; refine HCUT.out.mono ?_; rintro e w1 ⟨v, rfl, hb, hB1⟩; obtain ⟨Xb, cb, rfl⟩ := owns_shape hb)
  have hib := owned_ints hb
  have hcb := owned_cap hb
  refine (scan_any bs Xb cb w1 hib HZ.out (by omega) hcb).mono ?_
  rintro e w2 ⟨xs, ys, v, ⟨p, hp, he⟩, rfl, hown, hrows, hris, hcase, hB2⟩
  obtain ⟨Xl, cl, rfl⟩ := owns_shape hown
  have hB := hB1.trans (hB2.mono hB1.size)
  rcases hcase with ⟨hs, rfl⟩ | ⟨hs, rfl⟩
  · obtain rfl := reads_next hp
    obtain ⟨hend, hnil2, hlast⟩ := scan_ok hs (fun _ => he)
    rw [hs]
    have hps := reads_pos hp
    have HSB := Lib.hid (show nextOf (ys.map Prod.fst) = bs.length by omega)
    generalize (scanE bs (ys.map Prod.fst)).2 = place
    clear hps hs hend
    have hn1 : 1 ≤ ys.length := by cases ys with | nil => exact absurd rfl hnil2 | cons => simp
    have hn0 : ((ys.length : Int) == 0) = false := beq_eq_false_iff_ne.2 (by omega)
    have hn2 : ys.length ≤ 70000 := by have := reads_length hp; simp at this; omega
    obtain ⟨gl, rfl⟩ := own_head hown hn1
    have HO := Lib.hid hown
    have HRW := Lib.hid hrows
    have HP := Lib.hid hp
    have HL := Lib.hid hlast
    clear hown hrows hris hp hlast hnil2 he
    go_wp2
    go_loopw [6, 7, 8] (fun va vp vi wr => ∃ k : Nat, vi = .int .i64 k ∧ k ≤ ys.length ∧ va = .int .i64 (nextOf ((ys.take k).map Prod.fst)) ∧ wr.ownsRow w2.heap.size 5 1 vp (flatI ((ys.take k).map Prod.fst)).length (byteVs (flatI ((ys.take k).map Prod.fst))) ∧ Below w2.heap.size w2 wr) (fun _ _ vi _ => ys.length - (intOf vi).toNat)
    case atStart => exact ⟨0, rfl, Nat.zero_le _, rfl, World.ownsRow_nil _ _ _ _, Below.refl _ _⟩
    case round =>
      obtain ⟨k, rfl, hk, rfl, hput, hBr⟩ := hrel
      by_cases hlt : k < ys.length
      · obtain ⟨y, hy⟩ : ∃ y, ys[k]? = some y := ⟨_, List.getElem?_eq_getElem hlt⟩
        obtain ⟨hr1, hr2, hr3, hr4⟩ := insCells_at hy
        have HYR := Lib.hid (HRW.out y (List.mem_of_getElem? hy))
        obtain ⟨q, hq1, hq2⟩ := reads_at HP.out hy
        obtain ⟨i, yv⟩ := y
        dsimp only at hr1 hr2 hr3 hr4 hq1 hq2
        have HYR := Lib.hid (show w2.ownsRow w1.heap.size 5 1 yv i.imm.length (byteVs i.imm) from HYR.out)
        obtain ⟨X, c, rfl⟩ := owns_shape HYR.out
        have hfl : (flatI ((ys.take k).map Prod.fst)).length ≤ 70000 := by rw [flat_take hq1 (fun _ h => by have := read_next h; exact ⟨this.1, this.2.2.2.2.1, this.2.2.1⟩), List.length_take]; omega
        generalize hfk : flatI ((ys.take k).map Prod.fst) = fk at hput hfl
        have HFK := Lib.hid hfk
        clear hfk
        obtain ⟨Xp, cp, rfl⟩ := owns_shape hput
        obtain ⟨hcd, hiso, him, nn, hnn1, hnn2⟩ := read_parts hq2
        obtain ⟨hq0, _, hq5, hat, hnx, _⟩ := read_next hq2
        have hcr : 0 ≤ i.code ∧ i.code < 256 := by rw [hcd]; exact HZ.out _ (by rw [List.getD_eq_getElem?_getD, List.getElem?_eq_getElem (by omega)]; simp)
        have hq1' := reads_next hq1
        rw [← hq1']
        have HQ := Lib.hid hq1'
        clear hq1'
        have c0 := (HO.out.cellAt (k * 4) (by omega)).trans hr1
        have c1 := (HO.out.cellAt (k * 4 + 1) (by omega)).trans hr2
        have c2 := (HO.out.cellAt (k * 4 + 2) (by omega)).trans hr3
        have c3 := (HO.out.cellAt (k * 4 + 3) (by omega)).trans hr4
        have HC0 := Lib.hid c0
        have HC1 := Lib.hid c1
        have HC2 := Lib.hid c2
        have HC3 := Lib.hid c3
        have d1 := cell_later hBr HC1.out
        have HPUT := Lib.hid hput
        have HNN := Lib.hid hnn1
        have HCD := Lib.hid hcd
        have HIM := Lib.hid him
        have HNX := Lib.hid hnx
        have HY := Lib.hid hy
        have HAT := Lib.hid hat
        clear hput hnn1 hcd him hnx hy hr1 hr2 hr3 hr4 c0 c1 c2 c3 hq2 hat
        go_wp2_with (go_at_call 18; refine (of_any _ _).mono ?_; rw [hiso]; unfold rowC; rintro e w3 ⟨rfl, hb3⟩)
        have hb4 : Below wr.heap.size wr (w3.alloc (.cells #[.int .i64 (opR i.code).code, .string (opR i.code).name, .int .i64 (opR i.code).imm, .int .i64 (opR i.code).inn, .int .i64 (opR i.code).out, .int .i64 (opR i.code).gas, .bool (opR i.code).ends] 30)) := hb3.alloc hb3.size _
        have hr4 : (w3.alloc (.cells #[.int .i64 (opR i.code).code, .string (opR i.code).name, .int .i64 (opR i.code).imm, .int .i64 (opR i.code).inn, .int .i64 (opR i.code).out, .int .i64 (opR i.code).gas, .bool (opR i.code).ends] 30)).heap[w3.heap.size]? = some (.cells #[.int .i64 (opR i.code).code, .string (opR i.code).name, .int .i64 (opR i.code).imm, .int .i64 (opR i.code).inn, .int .i64 (opR i.code).out, .int .i64 (opR i.code).gas, .bool (opR i.code).ends] 30) := heap_alloc_new _ _
        clear d1
        generalize w3.alloc (.cells #[.int .i64 (opR i.code).code, .string (opR i.code).name, .int .i64 (opR i.code).imm, .int .i64 (opR i.code).inn, .int .i64 (opR i.code).out, .int .i64 (opR i.code).gas, .bool (opR i.code).ends] 30) = W4 at hb4 hr4 ⊢
        have hB4 := hBr.trans (hb4.mono hBr.size)
        have d0 := cell_later hB4 HC0.out
        have d1 := cell_later hB4 HC1.out
        have d2 := cell_later hB4 HC2.out
        have d3 := cell_later hB4 HC3.out
        have hp4 := own_below HPUT.out hb4
        have hy4 := own_below HYR.out hB4
        have hat0 : (i.at_ != q) = false := by rw [HAT.out]; simp
        have him2 := imm_ok i.code hcr.1 hcr.2 hiso
        have hnn3 := HNN.out
        generalize hm : (opR i.code).imm = m at hr4 him2 ⊢
        have hmm : m = -1 ∨ m = i.imm.length := by
          unfold immL at hnn3
          rw [hm] at hnn3
          by_cases h : m = -1
          · exact .inl h
          · rw [if_neg h] at hnn3
            cases hnn3
            right
            omega
        obtain ⟨k0, k1, k2, k3, k4, k5, k6, kz, kl⟩ := cells7 hr4
        have hki : (k : Int) < (ys.length : Int) := by omega
        have hki0 : (0 : Int) ≤ (k : Int) := by omega
        rcases hmm with rfl | rfl
        · have hne : ((-1 : Int) != (i.imm.length : Int)) = true := by simp
          go_quiet (fail)
          have hb5 := below_drewN hb4 nq
          generalize W4.drewN nq = W5 at hb5 ⊢
          have hB5 := hBr.trans (hb5.mono hBr.size)
          have hp5 := own_below HPUT.out hb5
          clear d0 d1 d2 d3 k0 k1 k2 k3 k4 k5 k6 kz kl hr4
          have d1 := cell_later hB5 HC1.out
          go_wp2_with (at_builtin; refine wpList_append_own _ rfl _ _ 22 rfl w2.heap.size 5 i0 (.int .u8 0) 1 1 Tryd.underlying22 hi hz0 hz1 hz2 rfl (by decide) _ _ _ rfl (hp5.alloc _) ⟨W5.heap.size, 0, none⟩ 1 1 [.int .u8 i.code] rfl ?a0 ?a1 ?a2 ?a3 ?a4 ?a5 ?_)
          case a0 => rfl
          case a1 => exact cells_fresh W5 #[.int .u8 i.code] _ _ rfl
          case a2 => intro u hu; simp at hu; subst hu; rfl
          case a3 => unfold maxLen; omega
          case a4 => omega
          case a5 => have := hB5.size; simp; omega
          intro v6 w6 hown6 hgrow6 _
          have hB6 := bel_own (hB5.alloc hB5.size (.cells #[.int .u8 i.code] 5)) (hp5.alloc _) (Nat.le_refl _) hgrow6
          clear hgrow6 d1
          obtain ⟨X6, c6, rfl⟩ := owns_shape hown6
          have d2 := cell_later hB6 HC2.out
          have d3 := cell_later hB6 HC3.out
          have hts : (ys.take (k + 1)).map Prod.fst = (ys.take k).map Prod.fst ++ [i] := by rw [List.take_add_one, HY.out]; simp
          have hts2 : nextOf ((ys.take (k + 1)).map Prod.fst) = i.next := by rw [hts, nextOf_snoc]
          have hts3 : flatI ((ys.take (k + 1)).map Prod.fst) = fk ++ i.code :: i.imm := by rw [hts, flatI_snoc, HFK.out]
          clear hts
          have HT2 := Lib.hid hts2
          have HT3 := Lib.hid hts3
          clear hts2 hts3
          rcases HYR.out.2 with ⟨h0, _⟩ | ⟨gy, cy, cur, h0, hgy⟩
          · obtain ⟨rfl, hl0, rfl⟩ := Value.slice.inj h0
            rw [hl0] at d2
            go_wp2_with (at_builtin; refine wpList_append_own_none rfl _ _ 22 rfl w2.heap.size 5 i0 1 Tryd.underlying22 hi _ _ _ rfl hown6 rfl ?_)
            exact ⟨⟨k + 1, by go_num, by omega, by rw [HT2.out], own_same_bytes hown6 (by rw [HT3.out, List.eq_nil_of_length_eq_zero hl0]), hB6⟩, by simp [intOf]; omega⟩
          · obtain ⟨rfl, _, rfl⟩ := Value.slice.inj h0
            have hy6 := own_below HYR.out hB6
            go_wp2_with (at_builtin; refine wpList_append_own _ rfl _ _ 22 rfl w2.heap.size 5 i0 (.int .u8 0) 1 1 Tryd.underlying22 hi hz0 hz1 hz2 rfl (by decide) _ _ _ rfl hown6 ⟨gy, 0, none⟩ i.imm.length c (byteVs i.imm) rfl ?a0 ?a1 ?a2 ?a3 ?a4 ?a5 ?_)
            case a0 => rw [byteVs_length]
            case a1 => exact fun j u h => by have := bytes_src (owned_ints hy6) j u h; rwa [addr_zero] at this
            case a2 => exact bytes_one
            case a3 => unfold maxLen; omega
            case a4 => omega
            case a5 => exact hB6.size
            intro v7 w7 hown7 hgrow7 _
            have hB7 := bel_own hB6 hown6 (Nat.le_refl _) hgrow7
            clear hgrow7
            have d3' := cell_later hB7 HC3.out
            go_wp2
            exact ⟨⟨k + 1, by go_num, by omega, by rw [HT2.out], own_more_bytes hown7 HT3.out, hB7⟩, by simp [intOf]; omega⟩
        · have hne : ((i.imm.length : Int) != (i.imm.length : Int)) = false := by simp
          go_quiet (fail)
          have hb5 := below_drewN hb4 nq
          generalize W4.drewN nq = W5 at hb5 ⊢
          have hB5 := hBr.trans (hb5.mono hBr.size)
          have hp5 := own_below HPUT.out hb5
          clear d0 d1 d2 d3 k0 k1 k2 k3 k4 k5 k6 kz kl hr4
          have d1 := cell_later hB5 HC1.out
          go_wp2_with (at_builtin; refine wpList_append_own _ rfl _ _ 22 rfl w2.heap.size 5 i0 (.int .u8 0) 1 1 Tryd.underlying22 hi hz0 hz1 hz2 rfl (by decide) _ _ _ rfl (hp5.alloc _) ⟨W5.heap.size, 0, none⟩ 1 1 [.int .u8 i.code] rfl ?a0 ?a1 ?a2 ?a3 ?a4 ?a5 ?_)
          case a0 => rfl
          case a1 => exact cells_fresh W5 #[.int .u8 i.code] _ _ rfl
          case a2 => intro u hu; simp at hu; subst hu; rfl
          case a3 => unfold maxLen; omega
          case a4 => omega
          case a5 => have := hB5.size; simp; omega
          intro v6 w6 hown6 hgrow6 _
          have hB6 := bel_own (hB5.alloc hB5.size (.cells #[.int .u8 i.code] 5)) (hp5.alloc _) (Nat.le_refl _) hgrow6
          clear hgrow6 d1
          obtain ⟨X6, c6, rfl⟩ := owns_shape hown6
          have d2 := cell_later hB6 HC2.out
          have d3 := cell_later hB6 HC3.out
          have hts : (ys.take (k + 1)).map Prod.fst = (ys.take k).map Prod.fst ++ [i] := by rw [List.take_add_one, HY.out]; simp
          have hts2 : nextOf ((ys.take (k + 1)).map Prod.fst) = i.next := by rw [hts, nextOf_snoc]
          have hts3 : flatI ((ys.take (k + 1)).map Prod.fst) = fk ++ i.code :: i.imm := by rw [hts, flatI_snoc, HFK.out]
          clear hts
          have HT2 := Lib.hid hts2
          have HT3 := Lib.hid hts3
          clear hts2 hts3
          rcases HYR.out.2 with ⟨h0, _⟩ | ⟨gy, cy, cur, h0, hgy⟩
          · obtain ⟨rfl, hl0, rfl⟩ := Value.slice.inj h0
            rw [hl0] at d2
            go_wp2_with (at_builtin; refine wpList_append_own_none rfl _ _ 22 rfl w2.heap.size 5 i0 1 Tryd.underlying22 hi _ _ _ rfl hown6 rfl ?_)
            exact ⟨⟨k + 1, by go_num, by omega, by rw [HT2.out], own_same_bytes hown6 (by rw [HT3.out, List.eq_nil_of_length_eq_zero hl0]), hB6⟩, by simp [intOf]; omega⟩
          · obtain ⟨rfl, _, rfl⟩ := Value.slice.inj h0
            have hy6 := own_below HYR.out hB6
            go_wp2_with (at_builtin; refine wpList_append_own _ rfl _ _ 22 rfl w2.heap.size 5 i0 (.int .u8 0) 1 1 Tryd.underlying22 hi hz0 hz1 hz2 rfl (by decide) _ _ _ rfl hown6 ⟨gy, 0, none⟩ i.imm.length c (byteVs i.imm) rfl ?a0 ?a1 ?a2 ?a3 ?a4 ?a5 ?_)
            case a0 => rw [byteVs_length]
            case a1 => exact fun j u h => by have := bytes_src (owned_ints hy6) j u h; rwa [addr_zero] at this
            case a2 => exact bytes_one
            case a3 => unfold maxLen; omega
            case a4 => omega
            case a5 => exact hB6.size
            intro v7 w7 hown7 hgrow7 _
            have hB7 := bel_own hB6 hown6 (Nat.le_refl _) hgrow7
            clear hgrow7
            have d3' := cell_later hB7 HC3.out
            go_wp2
            exact ⟨⟨k + 1, by go_num, by omega, by rw [HT2.out], own_more_bytes hown7 HT3.out, hB7⟩, by simp [intOf]; omega⟩
      · obtain rfl : k = ys.length := by omega
        obtain ⟨y, hy⟩ : ∃ y, ys[ys.length - 1]? = some y := ⟨_, List.getElem?_eq_getElem (by omega)⟩
        obtain ⟨_, hr2, _, _⟩ := insCells_at hy
        have c1 := (HO.out.cellAt ((ys.length - 1) * 4 + 1) (by omega)).trans hr2
        have hends : (opR y.1.code).ends = true := by
          have := HL.out
          rw [List.getLast?_eq_getElem?, List.length_map, List.getElem?_map, hy] at this
          exact this
        rw [List.take_length] at hput ⊢
        have hfl : flatI (ys.map Prod.fst) = bs := by
          rw [flat_take HP.out (fun _ h => by have := read_next h; exact ⟨this.1, this.2.2.2.2.1, this.2.2.1⟩), HSB.out]
          simp
        rw [hfl] at hput
        rw [HSB.out]
        obtain ⟨Xp, cp, rfl⟩ := owns_shape hput
        have d1 := cell_later hBr c1
        have HB1 := Lib.hid hib
        have HPT := Lib.hid hput
        have hwr : wrap64 ((ys.length : Int) - 1) = (ys.length : Int) - 1 := wrap_sub (by omega) (by omega)
        have ht : ((ys.length : Int) - 1).toNat = ys.length - 1 := by omega
        have hz1' : (0 : Int) ≤ (ys.length : Int) - 1 := by omega
        have hz2' : (ys.length : Int) - 1 < ys.length := by omega
        have hnk : ¬ (ys.length : Int) < ys.length := by omega
        have hBw := hB.trans (hBr.mono hB.size)
        clear hput hib hr2 hy hfl c1 hn0
        go_wp2_with (first
          | (go_at_call 18; refine (of_any _ _).mono ?_; unfold rowC; rw [hends]; rintro e w3 ⟨rfl, hb3⟩; have hb4 := hb3.alloc hb3.size (.cells #[.int .i64 (opR y.1.code).code, .string (opR y.1.code).name, .int .i64 (opR y.1.code).imm, .int .i64 (opR y.1.code).inn, .int .i64 (opR y.1.code).out, .int .i64 (opR y.1.code).gas, .bool true] 30); have cv1 := conv_str (cap := cp) (owned_ints (own_below HPT.out hb4)) rfl; have cv2 := conv_str (cap := cb) (ints_below hb4 (ints_below hBr (ints_below hB2 HB1.out))) rfl)
          | (go_at_call 17; refine (awake6 _).mono ?_; rintro e w5 ⟨rfl, hb5⟩))
        go_ret
        exact ⟨rfl, hBw.trans (((hb3.alloc hb3.size _).trans (hb5.mono (Nat.le_trans hb3.size (by simp)))).mono hBw.size)⟩
  · have hne : ((scanE bs (xs.map Prod.fst)).1 != 0) = true := by simpa using hs
    generalize (scanE bs (xs.map Prod.fst)).1 = er at hs hne
    generalize (scanE bs (xs.map Prod.fst)).2 = place
    go_wp2_with (go_at_call 17; refine (awake6 _).mono ?_; rintro e w3 ⟨rfl, hb3⟩)
    go_ret
    exact ⟨rfl, hB.trans (hb3.mono hB.size)⟩
end Go.Proofs.YthjnjdpiihpgeaaDoor
