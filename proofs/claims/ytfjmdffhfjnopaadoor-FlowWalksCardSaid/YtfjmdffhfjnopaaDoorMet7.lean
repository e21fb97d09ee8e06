/- vouchlaw7.met, FlowMet: the walks. -/
import Derived.Test.YtfjmdffhfjnopaaDoorTurn7
namespace Vouch
open Go.Vk Go.Proofs.YtfjmdffhfjnopaaDoor
/-- Does an instruction lead to a place? -/
def comesB (i : Ins) (at_ : Int) : Bool := (!(opR i.code).ends && (i.next == at_)) || (leadsI i).any (· == at_)
theorem comes_of {bs : List Int} {k n : Nat} (hc : (checkE bs (allI bs)).1 = 0) (hk : k < (allI bs).length) (h : n ∈ toN (allI bs) k) : comesB ((allI bs).getD k zeroI) ((allI bs).getD n zeroI).at_ = true := by
  obtain ⟨h1, h2⟩ := toN_place hc hk
  unfold toN at h
  unfold comesB
  rcases List.mem_append.1 h with h | h
  · cases he : (opR ((allI bs).getD k zeroI).code).ends with
    | true =>
      rw [he] at h
      simp at h
    | false =>
      rw [he] at h
      have hn : n = k + 1 := by simpa using h
      subst hn
      have := (h1 he).2
      rw [Bool.or_eq_true]
      left
      rw [this]
      simp
  · obtain ⟨t, ht, rfl⟩ := List.mem_map.1 h
    have := (h2 t ht).2
    rw [Bool.or_eq_true]
    right
    rw [List.any_eq_true]
    exact ⟨t, ht, by rw [this]; simp⟩
end Vouch
namespace Go.Proofs.YtfjmdffhfjnopaaDoor
open Go.RowKit Vouch Go.Vk Go.Sort
/-- A section with its heights, laid in memory. -/
structure Laid7 (ls : List Tri) (A : Option Addr) (bs : List Int) (hs : List (Int × Int)) (xs : List El) (BI BH : Nat) (vi vh : Value) (w : World) : Prop where
  ty : TriAt w A ls
  ins : w.ownsRow BI 42 4 vi xs.length (insCells xs)
  rows : RowsAt BI xs w
  hgs : w.ownsRow BH 38 3 vh hs.length (trCells (hgTri (allI bs) hs))
theorem laid7_below {ls : List Tri} {A : Option Addr} {bs : List Int} {hs : List (Int × Int)} {xs : List El} {BI BH : Nat} {vi vh : Value} {w w' : World} (h : Laid7 ls A bs hs xs BI BH vi vh w) (hb : Below w.heap.size w w') : Laid7 ls A bs hs xs BI BH vi vh w' :=
  ⟨tri_below h.ty hb, own_below h.ins hb, fun x hx => own_below (h.rows x hx) hb, own_below h.hgs hb⟩
/-- What is known ahead, without a world. -/
structure Known7 (ls : List Tri) (s : Nat) (bs : List Int) (hs : List (Int × Int)) (xs : List El) : Prop where
  bytes : ∀ z ∈ bs, 0 ≤ z ∧ z < 256
  len : bs.length ≤ 1048576
  tl : ls.length ≤ 1048576
  sec : s < ls.length
  fst : xs.map Prod.fst = allI bs
  may : mayB (ls.map triTy) s bs = true
  judged : Judged (ls.map triTy) (triTy (ls.getD s zeroTri)) (allI bs) hs
theorem known_ins {ls : List Tri} {s : Nat} {bs : List Int} {hs : List (Int × Int)} {xs : List El} (h : Known7 ls s bs hs xs) {k : Nat} (hk : k < xs.length) : ∃ v, xs[k]? = some ((allI bs).getD k zeroI, v) ∧ k < (allI bs).length := by
  have hl : xs.length = (allI bs).length := by rw [← h.fst]; simp
  have hx : xs[k]? = some xs[k] := List.getElem?_eq_getElem hk
  have h1 : (allI bs)[k]? = some (xs[k]).1 := by rw [← h.fst, List.getElem?_map, hx]; rfl
  refine ⟨(xs[k]).2, ?_, by omega⟩
  rw [hx, List.getD_eq_getElem?_getD, h1]
  rfl
/-- The cells of one instruction. -/
theorem laid_ins {ls : List Tri} {A : Option Addr} {bs : List Int} {hs : List (Int × Int)} {xs : List El} {BI BH s : Nat} {I : Option Addr} {cI : Nat} {vh : Value} {w : World} (h : Laid7 ls A bs hs xs BI BH (.slice I xs.length cI) vh w) (hkn : Known7 ls s bs hs xs) {k : Nat} (hk : k < xs.length) :
    ∃ gI X c, I = some ⟨gI, 0, none⟩ ∧ w.cell? ⟨gI, k * 4, none⟩ = some (.int .i64 ((allI bs).getD k zeroI).at_) ∧ w.cell? ⟨gI, k * 4 + 1, none⟩ = some (.int .i64 ((allI bs).getD k zeroI).code) ∧ w.cell? ⟨gI, k * 4 + 2, none⟩ = some (.slice X ((allI bs).getD k zeroI).imm.length c) ∧ w.cell? ⟨gI, k * 4 + 3, none⟩ = some (.int .i64 ((allI bs).getD k zeroI).next) ∧
      InsOK w ((allI bs).getD k zeroI) X ∧ ((allI bs).getD k zeroI).imm.length ≤ c := by
  obtain ⟨v, hx, hkl⟩ := known_ins hkn hk
  obtain ⟨k1, k2, k3, k4, k5, _⟩ := ins_known hkn.bytes (by have := hkn.len; omega) hkl
  obtain ⟨x0, x1, x2, x3⟩ := insCells_at hx
  have mx := h.rows _ (List.mem_of_getElem? hx)
  dsimp only at x0 x1 x2 x3 mx
  obtain ⟨X, c, rfl⟩ := owns_shape mx
  obtain ⟨gI, rfl⟩ := own_head h.ins (by omega)
  have hl := hkn.len
  exact ⟨gI, X, c, rfl, (h.ins.cellAt (k * 4) (by omega)).trans x0, (h.ins.cellAt (k * 4 + 1) (by omega)).trans x1, (h.ins.cellAt (k * 4 + 2) (by omega)).trans x2, (h.ins.cellAt (k * 4 + 3) (by omega)).trans x3, ⟨owned_ints mx, k2, by omega, wf64 (by omega) (by omega)⟩, owned_cap mx⟩
/-- The cells of one height. -/
theorem laid_hgt {ls : List Tri} {A : Option Addr} {bs : List Int} {hs : List (Int × Int)} {xs : List El} {BI BH s : Nat} {vi : Value} {Xh : Option Addr} {ch : Nat} {w : World} (h : Laid7 ls A bs hs xs BI BH vi (.slice Xh hs.length ch) w) (hkn : Known7 ls s bs hs xs) {k : Nat} (hk : k < hs.length) :
    ∃ gH, Xh = some ⟨gH, 0, none⟩ ∧ w.cell? ⟨gH, k * 3, none⟩ = some (.int .i64 ((allI bs).getD k zeroI).at_) ∧ w.cell? ⟨gH, k * 3 + 1, none⟩ = some (.int .i64 (hs.getD k (0, 0)).1) ∧ w.cell? ⟨gH, k * 3 + 2, none⟩ = some (.int .i64 (hs.getD k (0, 0)).2) := by
  have hl := hkn.judged.len
  have hL : (hgTri (allI bs) hs).length = hs.length := hgTri_length hl
  obtain ⟨x0, x1, x2⟩ := trCells_at (ls := hgTri (allI bs) hs) (k := k) (by omega)
  rw [hgTri_at hl (by omega)] at x0 x1 x2
  obtain ⟨gH, rfl⟩ := own_head h.hgs (by omega)
  exact ⟨gH, rfl, (h.hgs.cellAt (k * 3) (by omega)).trans x0, (h.hgs.cellAt (k * 3 + 1) (by omega)).trans x1, (h.hgs.cellAt (k * 3 + 2) (by omega)).trans x2⟩
theorem known_names {ls : List Tri} {s : Nat} {bs : List Int} {hs : List (Int × Int)} {xs : List El} (h : Known7 ls s bs hs xs) {k : Nat} (hk : k < (allI bs).length) : NamesOK (ls.map triTy) ((allI bs).getD k zeroI) := by
  obtain ⟨_, k2, _⟩ := ins_known h.bytes (by have := h.len; omega) hk
  have hm : (allI bs).getD k zeroI ∈ allI bs := by rw [List.getD_eq_getElem?_getD, List.getElem?_eq_getElem hk]; exact List.getElem_mem hk
  exact names_ok k2 ((may_parts h.may).2.2.2.2 _ hm) (named_nonneg k2)
/-- The law's turns, asked of an instruction of the section. -/
theorem known_turns {ls : List Tri} {s : Nat} {bs : List Int} {hs : List (Int × Int)} {xs : List El} (h : Known7 ls s bs hs xs) {k : Nat} (hk : k < (allI bs).length) {A : Option Addr} {capT : Nat} {X : Option Addr} {c : Nat} {w : World} (ht : TriAt w A ls) (hi : InsOK w ((allI bs).getD k zeroI) X) :
    Calls Tryd.prog 20 #[.slice A ls.length capT, .int .i64 s, insV ((allI bs).getD k zeroI) (.slice X ((allI bs).getD k zeroI).imm.length c)] w fun e w' => e = .returned (.tuple #[.int .i64 (turnsI (ls.map triTy) (triTy (ls.getD s zeroTri)) ((allI bs).getD k zeroI)).1, .int .i64 (turnsI (ls.map triTy) (triTy (ls.getD s zeroTri)) ((allI bs).getD k zeroI)).2, .bool true]) ∧ Below w.heap.size w w' :=
  lturns_any ls A capT s _ X c w ht hi (known_names h hk) h.sec (ins_known h.bytes (by have := h.len; omega) hk).2.2.2.2.2.1
theorem known_bounds {ls : List Tri} {s : Nat} {bs : List Int} {hs : List (Int × Int)} {xs : List El} (h : Known7 ls s bs hs xs) {k : Nat} (hk : k < (allI bs).length) :
    0 ≤ (turnsI (ls.map triTy) (triTy (ls.getD s zeroTri)) ((allI bs).getD k zeroI)).1 ∧ (turnsI (ls.map triTy) (triTy (ls.getD s zeroTri)) ((allI bs).getD k zeroI)).1 ≤ 1000 ∧ 0 ≤ (turnsI (ls.map triTy) (triTy (ls.getD s zeroTri)) ((allI bs).getD k zeroI)).2 ∧ (turnsI (ls.map triTy) (triTy (ls.getD s zeroTri)) ((allI bs).getD k zeroI)).2 ≤ 1000 := by
  obtain ⟨_, k2, _⟩ := ins_known h.bytes (by have := h.len; omega) hk
  have hm := (may_parts h.may).2.2.1
  have ho := tyOK_at hm s
  rw [tyAt_tri h.sec] at ho
  exact turnsI_bounds hm ho k2
set_option maxHeartbeats 4000000 in
set_option maxRecDepth 100000 in
theorem met_any (ls : List Tri) (A : Option Addr) (capT s : Nat) (bs : List Int) (hs : List (Int × Int)) (xs : List El) (BI BH : Nat) (I : Option Addr) (cI : Nat) (Xh : Option Addr) (ch : Nat) (hkn : Known7 ls s bs hs xs) : ∀ (d i : Nat) (h : Int) (w : World), Laid7 ls A bs hs xs BI BH (.slice I xs.length cI) (.slice Xh hs.length ch) w → i < xs.length → (h = (hs.getD i (0, 0)).1 ∨ h = (hs.getD i (0, 0)).2) → d ≤ 300 →
    Calls Tryd.prog 24 #[.slice A ls.length capT, .int .i64 s, .slice I xs.length cI, .slice Xh hs.length ch, .int .i64 i, .int .i64 h, .int .i64 d] w fun e w' => e = .returned (.bool true) ∧ Below w.heap.size w w' := by
  have hxl : xs.length = (allI bs).length := by rw [← hkn.fst]; simp
  have hHl : hs.length = xs.length := by rw [hkn.judged.len, hxl]
  have hxm : xs.length ≤ 1048576 := by
    rw [hxl]
    obtain ⟨q, hq, _⟩ := allI_reads bs
    have := reads_length hq
    have := hkn.len
    omega
  have HKN := Lib.hid hkn
  have HXL := Lib.hid hxl
  have HHL := Lib.hid hHl
  clear hkn hxl hHl
  intro d
  induction d with
  | zero =>
    intro i h w hL hi hh hd
    by_cases hi0 : i = 0
    · subst hi0
      obtain ⟨x, rfl, x0, _, _⟩ := hL.ty s HKN.out.sec
      have hf := HKN.out.judged.first (by have := HXL.out; omega)
      have hval : h = (ls.getD s zeroTri).1 := by
        rw [hf] at hh
        rcases hh with hh | hh <;> exact hh
      subst hval
      have hsl : (s : Int) < (ls.length : Int) := by have := HKN.out.sec; omega
      have hsl2 := HKN.out.sec
      generalize (ls.getD s zeroTri).1 = t0 at x0
      clear hh hL hf
      go_enter Tryd.func24, Tryd.ntmps24
      go_wp2
      go_ret
      exact ⟨rfl, Below.refl _ _⟩
    · have hne : ((i : Int) == 0) = false := by rw [beq_eq_false_iff_ne]; omega
      clear hh hL
      go_enter Tryd.func24, Tryd.ntmps24
      go_wp2
      go_ret
      exact ⟨rfl, Below.refl _ _⟩
  | succ d ih =>
    intro i h w hL hi hh hd
    by_cases hi0 : i = 0
    · subst hi0
      obtain ⟨x, rfl, x0, _, _⟩ := hL.ty s HKN.out.sec
      have hf := HKN.out.judged.first (by have := HXL.out; omega)
      have hval : h = (ls.getD s zeroTri).1 := by
        rw [hf] at hh
        rcases hh with hh | hh <;> exact hh
      subst hval
      have hsl : (s : Int) < (ls.length : Int) := by have := HKN.out.sec; omega
      have hsl2 := HKN.out.sec
      generalize (ls.getD s zeroTri).1 = t0 at x0
      clear hh hL hf ih
      go_enter Tryd.func24, Tryd.ntmps24
      go_wp2
      go_ret
      exact ⟨rfl, Below.refl _ _⟩
    · have hne : ((i : Int) == 0) = false := by rw [beq_eq_false_iff_ne]; omega
      have hde : (((d + 1 : Nat) : Int) == 0) = false := by rw [beq_eq_false_iff_ne]; omega
      have hde2 : ((d : Int) + 1 == 0) = false := by rw [beq_eq_false_iff_ne]; omega
      have hbn := (HKN.out.judged.fine i (by have := HXL.out; omega)).2
      have hck := (may_parts HKN.out.may).2.2.2.1
      have hk0 : ∃ k0, k0 < i ∧ comesB ((allI bs).getD k0 zeroI) ((allI bs).getD i zeroI).at_ = true ∧ (h - (turnsI (ls.map triTy) (triTy (ls.getD s zeroTri)) ((allI bs).getD k0 zeroI)).2 + (turnsI (ls.map triTy) (triTy (ls.getD s zeroTri)) ((allI bs).getD k0 zeroI)).1 = (hs.getD k0 (0, 0)).1 ∨
          h - (turnsI (ls.map triTy) (triTy (ls.getD s zeroTri)) ((allI bs).getD k0 zeroI)).2 + (turnsI (ls.map triTy) (triTy (ls.getD s zeroTri)) ((allI bs).getD k0 zeroI)).1 = (hs.getD k0 (0, 0)).2) := by
        rcases hh with hh | hh
        · obtain ⟨k0, a1, a2, a3⟩ := HKN.out.judged.lows i (by omega) (by have := HXL.out; omega)
          refine ⟨k0, a1, comes_of hck (by have := HXL.out; omega) a2, .inl ?_⟩
          rw [hh, ← a3]
          unfold goH
          dsimp only
          omega
        · obtain ⟨k0, a1, a2, a3⟩ := HKN.out.judged.highs i (by omega) (by have := HXL.out; omega)
          refine ⟨k0, a1, comes_of hck (by have := HXL.out; omega) a2, .inr ?_⟩
          rw [hh, ← a3]
          unfold goH
          dsimp only
          omega
      have hh0 : 0 ≤ h ∧ h ≤ 1023 := by unfold Bnd at hbn; omega
      obtain ⟨k0, hk0i, hcm, hwh⟩ := hk0
      have HCW := Lib.hid (⟨hcm, hwh⟩ : _ ∧ _)
      have HL := Lib.hid (fun (w' : World) (hb : Below w.heap.size w w') => laid7_below hL hb)
      have HIH := Lib.hid ih
      clear hh hL hbn hck hcm hwh ih hde
      rw [show ((d + 1 : Nat) : Int) = (d : Int) + 1 from rfl]
      go_enter Tryd.func24, Tryd.ntmps24
      go_wp2
      go_loopw [15] (fun vk wr => ∃ k : Nat, vk = .int .i64 k ∧ k ≤ k0 ∧ Below w.heap.size w wr) (fun vk _ => i - (intOf vk).toNat)
      case atStart => exact ⟨0, rfl, Nat.zero_le _, Below.refl _ _⟩
      case round =>
        obtain ⟨k, rfl, hk, hB⟩ := hrel
        have q1 : (k : Int) < (i : Int) := by omega
        have hkx : k < xs.length := by omega
        have q2 : (k : Int) < (xs.length : Int) := by omega
        have q3 : (i : Int) < (xs.length : Int) := by omega
        have q4 : (k : Int) < (hs.length : Int) := by have := HHL.out; omega
        have q5 : k < hs.length := by have := HHL.out; omega
        have hkl : k < (allI bs).length := by have := HXL.out; omega
        have hLw := HL.out wr hB
        obtain ⟨gI, X, c, rfl, y0, y1, y2, y3, hok, hic⟩ := laid_ins hLw HKN.out hkx
        obtain ⟨gI2, X2, c2, e2, z0, -, -, -, -, -⟩ := laid_ins hLw HKN.out hi
        cases e2
        obtain ⟨gH, rfl, g0, g1, g2⟩ := laid_hgt hLw HKN.out (k := k) q5
        have HTU := Lib.hid (fun (w' : World) (hb : Below wr.heap.size wr w') => known_turns (capT := capT) (c := c) HKN.out hkl (tri_below hLw.ty hb) (insok_below hok hb))
        have hbd := known_bounds HKN.out hkl
        have HLE := Lib.hid (fun (w' : World) (hb : Below wr.heap.size wr w') => leads_any ((allI bs).getD k zeroI) X c w' (ints_below hb hok.1) hok.2.1 hok.2.2.1 hic hok.2.2.2)
        have HREC := Lib.hid (fun (h' : Int) (w' : World) (hb : Below w.heap.size w w') hh' => HIH.out k h' w' (HL.out w' hb) hkx hh' (by omega))
        have HNE := Lib.hid (fun (e : k = k0) => by have := HCW.out; rw [← e] at this; exact this)
        have hcl := leadsI_len hok.2.1
        clear hLw hok hic
        generalize hai : ((allI bs).getD i zeroI).at_ = ai at *
        generalize (hs.getD k (0, 0)).1 = lo at *
        generalize (hs.getD k (0, 0)).2 = hi_ at *
        generalize (turnsI (ls.map triTy) (triTy (ls.getD s zeroTri)) ((allI bs).getD k zeroI)).1 = tin at *
        generalize (turnsI (ls.map triTy) (triTy (ls.getD s zeroTri)) ((allI bs).getD k zeroI)).2 = tout at *
        generalize (allI bs).getD k zeroI = ins at *
        unfold insV at HTU HLE
        clear hai
        go_wp2_with (go_at_call 20; refine stop_o ?_)
        unfold StopO
        refine (HTU.out wr (Below.refl _ _)).mono ?_
        rintro e w2 ⟨rfl, hb2⟩
        replace y0 := cell_later hb2 y0
        replace y1 := cell_later hb2 y1
        replace y2 := cell_later hb2 y2
        replace y3 := cell_later hb2 y3
        replace z0 := cell_later hb2 z0
        replace g1 := cell_later hb2 g1
        replace g2 := cell_later hb2 g2
        have HB2 := Lib.hid hb2
        clear hb2 HTU g0
        have HC2 := Lib.hid (⟨y0, y1, y2, y3, z0, g1, g2⟩ : _ ∧ _ ∧ _ ∧ _ ∧ _ ∧ _ ∧ _)
        go_upto_region 9 with fail
        obtain ⟨c0, hc0⟩ : ∃ c0, c0 = (!(opR ins.code).ends && (ins.next == ai)) := ⟨_, rfl⟩
        have HC0 := Lib.hid hc0
        clear hc0
        go_cut [19] from 34 to 125 (fun s19 wx => s19 = .bool c0 ∧ Below w2.heap.size w2 wx)
        case first =>
          have u0 := fun p os => cell_regrown y0 p os
          have u1 := fun p os => cell_regrown y1 p os
          have u2 := fun p os => cell_regrown y2 p os
          have u3 := fun p os => cell_regrown y3 p os
          have v0 := fun p os => cell_regrown z0 p os
          have uE := fun p os => calls_grown (w := w2) (fun w1 _ => lends_any ins (.slice X ins.imm.length c) w1) p os
          unfold insV at uE
          clear y0 y1 y2 y3 z0 g1 g2
          cases hends : (opR ins.code).ends with
          | true =>
            rw [hends] at uE HC0
            clear hends
            go_wp2_with fail
            refine wp_region_quiet_below (by kernel_rfl) (by kernel_rfl) ?_
            repeat (go_big_quiet_step (with_reducible exact uE _ _))
            refine wpQuiet_nil ?_
            rintro _ ⟨pq, rfl⟩
            have hbx := below_regrown w2 pq.d pq.os
            generalize grow (redrawn w2 pq.d) pq.os = Wx at hbx ⊢
            go_wp2_with fail
            go_meet
            exact ⟨by rw [HC0.out]; rfl, hbx⟩
          | false =>
            rw [hends] at uE HC0
            clear hends
            go_wp2_with fail
            refine wp_region_quiet_below (by kernel_rfl) (by kernel_rfl) ?_
            repeat (go_big_quiet_step (with_reducible exact uE _ _))
            refine wpQuiet_nil ?_
            rintro _ ⟨pq, rfl⟩
            have hbx := below_regrown w2 pq.d pq.os
            generalize grow (redrawn w2 pq.d) pq.os = Wx at hbx ⊢
            go_wp2_with fail
            go_meet
            exact ⟨by rw [HC0.out]; rfl, hbx⟩
        case rest =>
          obtain ⟨rfl, hbx⟩ := hcut
          replace y0 := cell_later hbx y0
          replace y1 := cell_later hbx y1
          replace y2 := cell_later hbx y2
          replace y3 := cell_later hbx y3
          replace z0 := cell_later hbx z0
          replace g1 := cell_later hbx g1
          replace g2 := cell_later hbx g2
          have hb3 := HB2.out.trans (hbx.mono HB2.out.size)
          have HB3 := Lib.hid hb3
          clear HC2 HB2 hbx hb3
          go_wp2_with (go_at_call 21; refine stop_o ?_)
          unfold StopO
          refine (HLE.out wc HB3.out).mono ?_
          rintro e w4 ⟨vt, rfl, ot, hb4⟩
          replace z0 := cell_later hb4 z0
          replace g1 := cell_later hb4 g1
          replace g2 := cell_later hb4 g2
          have hB4 := hB.trans ((HB3.out.trans (hb4.mono HB3.out.size)).mono hB.size)
          obtain ⟨XT, cT, rfl⟩ := owns_shape ot
          have HO := Lib.hid (fun (w' : World) (hb : Below w4.heap.size w4 w') (j : Nat) (hj : j < (leadsI ins).length) => (by
            have h1 := own_below ot hb
            obtain ⟨g, rfl⟩ := own_head h1 (by omega)
            refine ⟨g, rfl, (h1.cellAt j (by omega)).trans ?_⟩
            unfold intVs
            rw [List.getElem?_map, List.getElem?_eq_getElem hj, List.getD_eq_getElem?_getD, List.getElem?_eq_getElem hj]
            rfl : ∃ g, XT = some ⟨g, 0, none⟩ ∧ w'.cell? ⟨g, j, none⟩ = some (.int .i64 ((leadsI ins).getD j 0))))
          have HZ := Lib.hid (⟨z0, g1, g2⟩ : _ ∧ _ ∧ _)
          clear hb4 ot y0 y1 y2 y3 HB3 HLE z0 g1 g2
          go_wp2
          go_loopw [19, 21] (fun vc vj wq => ∃ j : Nat, vj = .int .i64 j ∧ j ≤ (leadsI ins).length ∧ vc = .bool (c0 || ((leadsI ins).take j).any (· == ai)) ∧ Below w4.heap.size w4 wq) (fun _ vj _ => (leadsI ins).length - (intOf vj).toNat)
          case atStart => exact ⟨0, rfl, Nat.zero_le _, by simp, Below.refl _ _⟩
          case round =>
            obtain ⟨j, rfl, hj, rfl, hb5⟩ := hrel
            have z0 := cell_later hb5 HZ.out.1
            have g1 := cell_later hb5 HZ.out.2.1
            have g2 := cell_later hb5 HZ.out.2.2
            by_cases hlt : j < (leadsI ins).length
            · have r1 : (j : Int) < ((leadsI ins).length : Int) := by omega
              obtain ⟨g, rfl, tj⟩ := HO.out _ hb5 j hlt
              have htk : (leadsI ins).take (j + 1) = (leadsI ins).take j ++ [(leadsI ins).getD j 0] := by
                rw [List.take_add_one, List.getElem?_eq_getElem hlt, List.getD_eq_getElem?_getD, List.getElem?_eq_getElem hlt]
                rfl
              have hnext : (c0 || ((leadsI ins).take (j + 1)).any (· == ai)) = ((c0 || ((leadsI ins).take j).any (· == ai)) || ((leadsI ins).getD j 0 == ai)) := by
                rw [htk, List.any_append]
                simp [Bool.or_assoc]
              have HNX := Lib.hid hnext
              clear hnext htk g1 g2
              generalize (leadsI ins).getD j 0 = tv at tj HNX
              cases hcc : (c0 || ((leadsI ins).take j).any (· == ai)) with
              | true =>
                rw [hcc] at HNX
                clear hcc
                go_wp2
                go_quiet (fail)
                go_wp2
                exact ⟨⟨j + 1, by go_num, by omega, by rw [HNX.out]; rfl, below_drewN hb5 _⟩, by simp [intOf]; omega⟩
              | false =>
                rw [hcc] at HNX
                clear hcc
                go_wp2
                go_quiet (fail)
                go_wp2
                exact ⟨⟨j + 1, by go_num, by omega, by rw [HNX.out]; rfl, below_drewN hb5 _⟩, by simp [intOf]; omega⟩
            · have r1 : ¬ (j : Int) < ((leadsI ins).length : Int) := by omega
              obtain rfl : j = (leadsI ins).length := by omega
              rw [List.take_length]
              have hcb : (c0 || (leadsI ins).any (· == ai)) = comesB ins ai := by rw [HC0.out]; rfl
              rw [hcb]
              have hB5 := hB4.trans (hb5.mono hB4.size)
              have hw1 : wrap64 (h - tout) = h - tout := by simp only [wrap64]; omega
              have hw2 : wrap64 (h - tout + tin) = h - tout + tin := by simp only [wrap64]; omega
              have HGO : Hid (¬ (comesB ins ai = true ∧ (h - tout + tin = lo ∨ h - tout + tin = hi_)) → k + 1 ≤ k0) := Lib.hid fun hno => by
                by_cases e : k = k0
                · exact absurd (HNE.out e) hno
                · omega
              clear z0 HZ HO HC0 hcb HNE hb5 hB4
              cases hcc : comesB ins ai with
              | false =>
                have hk1 := HGO.out (fun h => by rw [hcc] at h; cases h.1)
                clear HGO hcc
                go_wp2
                exact ⟨⟨k + 1, by go_num, hk1, hB5⟩, by simp [intOf]; omega⟩
              | true =>
                by_cases e1 : h - tout + tin = lo
                · have HR := Lib.hid (HREC.out (h - tout + tin) _ hB5 (.inl e1))
                  have e1b : (h - tout + tin == lo) = true := by rw [beq_iff_eq]; exact e1
                  clear HGO hcc e1
                  go_wp2_with (go_at_call 24; refine stop_o ?_)
                  unfold StopO
                  refine HR.out.mono ?_
                  rintro e w9 ⟨rfl, hb9⟩
                  go_wp2
                  go_ret
                  exact ⟨rfl, hB5.trans (hb9.mono hB5.size)⟩
                · have e1b : (h - tout + tin == lo) = false := by rw [beq_eq_false_iff_ne]; exact e1
                  by_cases e2 : h - tout + tin = hi_
                  · have HR := Lib.hid (HREC.out (h - tout + tin) _ hB5 (.inr e2))
                    have e2b : (h - tout + tin == hi_) = true := by rw [beq_iff_eq]; exact e2
                    clear HGO hcc e1 e2
                    go_wp2_with (go_at_call 24; refine stop_o ?_)
                    unfold StopO
                    refine HR.out.mono ?_
                    rintro e w9 ⟨rfl, hb9⟩
                    go_wp2
                    go_ret
                    exact ⟨rfl, hB5.trans (hb9.mono hB5.size)⟩
                  · have e2b : (h - tout + tin == hi_) = false := by rw [beq_eq_false_iff_ne]; exact e2
                    have hk1 := HGO.out (fun h => h.2.elim e1 e2)
                    clear HGO hcc e1 e2
                    go_wp2
                    exact ⟨⟨k + 1, by go_num, hk1, hB5⟩, by simp [intOf]; omega⟩
end Go.Proofs.YtfjmdffhfjnopaaDoor
