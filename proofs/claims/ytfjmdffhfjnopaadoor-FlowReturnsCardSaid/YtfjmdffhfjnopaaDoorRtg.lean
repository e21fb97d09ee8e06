/- Texts in one: Returns7r, FReturns7, RetW7. -/
import Derived.Test.YtfjmdffhfjnopaaDoorRvg
import Derived.Test.YtfjmdffhfjnopaaDoorToldW7
import Derived.Deep.RegionHeld3
/- vouchref7.Returns: the document's answer. -/
namespace Vouch
open Go.Proofs.YtfjmdffhfjnopaaDoor
/-- Does this instruction return? -/
def retI (ts : List Ty) (i : Ins) : Bool := decide (i.code = 228) || (decide (i.code = 229) && (decide (namedN i < ts.length) && decide ((tyAt ts (namedN i)).out ≠ 128)))
def returnsB (ts : List Ty) (bs : List Int) : Bool := (allI bs).any (retI ts)
theorem returns_yes {ts : List Ty} {bs : List Int} {k : Nat} (hk : k < (allI bs).length) (h : retI ts ((allI bs).getD k zeroI) = true) : returnsB ts bs = true := by
  unfold returnsB
  rw [List.any_eq_true]
  exact ⟨_, by rw [List.getD_eq_getElem?_getD, List.getElem?_eq_getElem hk]; exact List.getElem_mem hk, h⟩
theorem returns_no {ts : List Ty} {bs : List Int} (h : ∀ k, k < (allI bs).length → retI ts ((allI bs).getD k zeroI) = false) : returnsB ts bs = false := by
  unfold returnsB
  rw [List.any_eq_false]
  intro i hi
  obtain ⟨k, hk, rfl⟩ := List.mem_iff_getElem.1 hi
  have := h k hk
  rw [List.getD_eq_getElem?_getD, List.getElem?_eq_getElem hk] at this
  simpa using this
end Vouch
namespace Go.Proofs.YtfjmdffhfjnopaaDoor
open Go.RowKit Vouch Go.Vk Go.Sort
set_option maxHeartbeats 2000000 in
set_option maxRecDepth 100000 in
theorem rreturns7_any (ts : List Ty) (A : Option Addr) (capT : Nat) (bs : List Int) (B : Option Addr) (capB : Nat) (w : World) (ht : TysAt w A ts) (hc : IntsAt w .u8 B bs) (hz : ∀ z ∈ bs, 0 ≤ z ∧ z < 256) (hn : bs.length ≤ 1048576) (hcap : bs.length ≤ capB) (htn : ts.length ≤ 1048576) :
    Calls Tryd.prog 31 #[.slice A ts.length capT, .slice B bs.length capB] w fun e w' => e = .returned (.bool (returnsB ts bs)) ∧ Below w.heap.size w w' := by
  have HT := Lib.hid ht
  have HZ := Lib.hid hz
  have HRD := Lib.hid (rread7_any bs B capB w hc hz hn hcap)
  clear ht hz hc
  go_enter Tryd.func31, Tryd.ntmps31
  go_wp2_with (go_at_call 47; refine stop_o ?_)
  unfold StopO
  refine HRD.out.mono ?_
  rintro e W2 ⟨xs, v, hx, rfl, hown, hpa, hb2⟩
  obtain ⟨L, cl, rfl⟩ := owns_shape hown
  have hxl : xs.length ≤ bs.length := by
    obtain ⟨q, hq, _⟩ := allI_reads bs
    have := reads_length hq
    rw [← hx, List.length_map] at this
    have := reads_pos hq
    omega
  have HB2 := Lib.hid hb2
  have HX := Lib.hid hx
  have HOWN := Lib.hid hown
  have HPA := Lib.hid (show PartsAt W2 xs from fun x hx => by obtain ⟨X, c, a1, a2⟩ := hpa x hx; exact ⟨X, c, a1, ints_below hb2 a2⟩)
  clear HRD hpa hb2 hx hown
  generalize wholeB bs = wh
  go_wp2
  go_loopw [7] (fun vi wr => ∃ k : Nat, vi = .int .i64 k ∧ k ≤ xs.length ∧ (∀ j, j < k → retI ts ((allI bs).getD j zeroI) = false) ∧ Below W2.heap.size W2 wr) (fun vi _ => xs.length - (intOf vi).toNat)
  case atStart => exact ⟨0, rfl, by omega, fun j hj => by omega, Below.refl _ _⟩
  case round =>
    obtain ⟨k, rfl, hk, hok, hB⟩ := hrel
    have HOK := Lib.hid hok
    clear hok
    by_cases hkl : k < xs.length
    · have hki : (k : Int) < (xs.length : Int) := by omega
      obtain ⟨i, X, c, hik, hxk, hio, hst, hka, _⟩ := part_at HX.out HPA.out HZ.out hn hkl
      have HIO := Lib.hid (insok_below hio hB)
      have HIK := Lib.hid (⟨hik, hst, hka⟩ : _ ∧ _ ∧ _)
      have hcl := insCells_at hxk
      obtain ⟨gl, rfl⟩ := own_head HOWN.out (by omega)
      have hownr := own_below HOWN.out hB
      have c0 := (hownr.cellAt (k * 4) (by omega)).trans hcl.1
      have c1 := (hownr.cellAt (k * 4 + 1) (by omega)).trans hcl.2.1
      have c2 := (hownr.cellAt (k * 4 + 2) (by omega)).trans hcl.2.2.1
      have c3 := (hownr.cellAt (k * 4 + 3) (by omega)).trans hcl.2.2.2
      dsimp only at c0 c1 c2 c3
      have HBR := Lib.hid hB
      clear hik hxk hio hst hka hcl hownr hB
      have HYES := Lib.hid (fun (h : retI ts i = true) => returns_yes (ts := ts) HIK.out.2.2 (by rw [HIK.out.1]; exact h))
      have HNO := Lib.hid (fun (h : retI ts i = false) => (fun j hj => by
        rcases (show j < k ∨ j = k by omega) with h' | rfl
        · exact HOK.out j h'
        · rw [HIK.out.1]; exact h : ∀ j, j < k + 1 → retI ts ((allI bs).getD j zeroI) = false))
      by_cases h228 : i.code = 228
      · have e1 : (i.code == 228) = true := by rw [beq_iff_eq]; exact h228
        have HR := Lib.hid (HYES.out (by unfold retI; rw [decide_eq_true h228]; rfl))
        clear h228
        go_wp2
        exact bodyPost_ret (results_tmp rfl _ _ _) rfl ⟨by rw [HR.out]; rfl, HB2.out.trans (HBR.out.mono HB2.out.size)⟩
      · have e1 : (i.code == 228) = false := by rw [beq_eq_false_iff_ne]; exact h228
        by_cases h229 : i.code = 229
        · have e2 : (i.code == 229) = true := by rw [beq_iff_eq]; exact h229
          have HNM := Lib.hid (names7_any i X c wr wr (Below.refl _ _) HIO.out HIK.out.2.1 (.inr h229))
          have hn0 := named_nonneg HIO.out.2.1
          obtain ⟨nn, hnn⟩ : ∃ nn : Nat, namedN i = nn := ⟨(namedN i).toNat, by omega⟩
          rw [hnn] at HNM
          have hret : retI ts i = (decide ((nn : Int) < ts.length) && decide ((tyAt ts (nn : Int)).out ≠ 128)) := by
            unfold retI
            rw [decide_eq_false h228, decide_eq_true h229, hnn]
            simp
          have HRT := Lib.hid hret
          clear hnn hn0 hret h228 h229
          unfold insV at HNM
          go_wp2_with (go_at_call 48; refine stop_o ?_)
          unfold StopO
          refine HNM.out.mono ?_
          rintro e W5 ⟨rfl, hb5⟩
          have HB5 := Lib.hid (HBR.out.trans (hb5.mono HBR.out.size))
          clear HNM hb5 c0 c1 c2 c3
          by_cases hnl : nn < ts.length
          · have hnl2 : (nn : Int) < (ts.length : Int) := by omega
            obtain ⟨x', rfl, t0, t1, t2⟩ := HT.out nn hnl
            replace t1 := cell_later (HB2.out.trans (HB5.out.mono HB2.out.size)) t1
            have hty : tyAt ts (nn : Int) = ts.getD nn zeroT := by unfold tyAt; rfl
            obtain ⟨ty, htyd⟩ : ∃ ty, ty = ts.getD nn zeroT := ⟨_, rfl⟩
            rw [← htyd] at t1 hty
            have HTY := Lib.hid (⟨hty, hnl2⟩ : _ ∧ _)
            clear t0 t2 hty htyd
            by_cases h8 : ty.out = 128
            · have g1 : (ty.out != 128) = false := by rw [bne_eq_false_iff_eq]; exact h8
              have HN := Lib.hid (HNO.out (by rw [HRT.out, HTY.out.1, h8]; simp))
              clear h8
              go_wp2
              exact ⟨⟨k + 1, by go_num, by omega, HN.out, HB5.out⟩, by simp [intOf]; omega⟩
            · have g1 : (ty.out != 128) = true := by rw [bne_iff_ne]; exact h8
              have HR := Lib.hid (HYES.out (by rw [HRT.out, HTY.out.1, decide_eq_true HTY.out.2, decide_eq_true h8]; rfl))
              clear h8
              go_wp2
              exact bodyPost_ret (results_tmp rfl _ _ _) rfl ⟨by rw [HR.out]; rfl, HB2.out.trans (HB5.out.mono HB2.out.size)⟩
          · have hnl3 : ¬ (nn : Int) < (ts.length : Int) := by omega
            have HN := Lib.hid (HNO.out (by rw [HRT.out, decide_eq_false hnl3]; rfl))
            clear hnl
            go_wp2
            exact ⟨⟨k + 1, by go_num, by omega, HN.out, HB5.out⟩, by simp [intOf]; omega⟩
        · have e2 : (i.code == 229) = false := by rw [beq_eq_false_iff_ne]; exact h229
          have HN := Lib.hid (HNO.out (by unfold retI; rw [decide_eq_false h228, decide_eq_false h229]; rfl))
          clear h228 h229
          go_wp2
          exact ⟨⟨k + 1, by go_num, by omega, HN.out, HBR.out⟩, by simp [intOf]; omega⟩
    · obtain rfl : xs.length = k := by omega
      have hall : (allI bs).length = xs.length := by rw [← HX.out]; simp
      have HR := Lib.hid (returns_no (ts := ts) (bs := bs) (fun k hk => HOK.out k (by omega)))
      have HBR := Lib.hid hB
      have hki : ¬ (xs.length : Int) < (xs.length : Int) := by omega
      clear hB hall
      go_wp2
      exact bodyPost_ret (results_tmp rfl _ _ _) rfl ⟨by rw [HR.out]; rfl, HB2.out.trans (HBR.out.mono HB2.out.size)⟩
end Go.Proofs.YtfjmdffhfjnopaaDoor
/- flow.Returns: has a section's code a way to return. -/
namespace Vouch
open Go.Proofs.YtfjmdffhfjnopaaDoor
theorem mem_allI {bs : List Int} {l : List Ins} {p : Int} (h : Reads bs l p) : ∃ r, allI bs = l ++ r := by
  obtain ⟨q, h1, h2⟩ := reads_allGo h (bs.length + 1) (by omega)
  obtain ⟨q', h3, h4⟩ := allI_reads bs
  exact ⟨_, (reads_all h1 h2 h3 h4).1⟩
theorem returns_in {ts : List Ty} {bs : List Int} {l : List Ins} {i : Ins} {p : Int} (h : Reads bs l p) (hi : readE bs p = (0, i)) (hr : retI ts i = true) : returnsB ts bs = true := by
  obtain ⟨r, hr2⟩ := mem_allI (Reads.snoc h hi)
  unfold returnsB
  rw [List.any_eq_true]
  exact ⟨i, by rw [hr2]; simp, hr⟩
theorem returns_all {ts : List Ty} {bs : List Int} {xs : List El} (h : AllOf bs xs) (hn : ∀ x ∈ xs, retI ts x.1 = false) : returnsB ts bs = false := by
  unfold returnsB
  rw [← allOf_allI h, List.any_eq_false]
  intro i hi
  obtain ⟨x, hx, rfl⟩ := List.mem_map.1 hi
  simpa using hn x hx
end Vouch
namespace Go.Proofs.YtfjmdffhfjnopaaDoor
open Go.RowKit Vouch Go.Vk Go.Sort
attribute [local go_sem] Oper.semAt_some
def RInv (ts : List Ty) (bs : List Int) (w : World) (B0 Bh g b2 b4 : Nat) (A : Option Addr) (capT : Nat) (pre : List El) (W : World) : Prop :=
  W.heap[b2]? = some (.cells #[.slice A ts.length capT] 22 (0, 0)) ∧ W.heap[b4]? = some (.cells #[.bool false] 4 (0, 0)) ∧ HeldAt bs Bh g W ∧ Below w.heap.size w W ∧ B0 ≤ W.heap.size ∧ (∀ x ∈ pre, retI ts x.1 = false) ∧ ∃ p, Reads bs (pre.map Prod.fst) p
def RStop (ts : List Ty) (bs : List Int) (w : World) (b4 : Nat) (c : Code) (_ : List El) (W : World) : Prop :=
  c = .ret ∧ returnsB ts bs = true ∧ W.heap[b4]? = some (.cells #[.bool true] 4 (0, 0)) ∧ Below w.heap.size w W
theorem fret_end {W : World} {g : Nat} {b : Bool} {tmps : Array Value} (h4 : tmps.getD 4 undef = .pointer (some ⟨g, 0, none⟩)) (hA : W.heap[g]? = some (.cells #[.bool b] 4 (0, 0))) :
    (results Tryd.f30 tmps).run Tryd.prog W = .ok (.bool b) W := by
  have hc : W.cell? ⟨g, 0, none⟩ = some (.bool b) := by simp [World.cell?, hA]
  have h4' : tmps[4]?.getD undef = .pointer (some ⟨g, 0, none⟩) := by simpa using h4
  simp [results, h4', asAddr, loadVar, go_sem, hc]
theorem rinv_kept {ts : List Ty} {bs : List Int} {w : World} {B0 Bh g b2 b4 : Nat} {A : Option Addr} {capT : Nat} (hB : w.heap.size ≤ B0) : OwnFrom B0 (RInv ts bs w B0 Bh g b2 b4 A capT) := by
  intro pre W W' row ⟨h1, h2, ⟨q, q1, q2, q3, q4⟩, h7, h8, h9, h10⟩ hg hr
  exact ⟨blk_stays h1 hg hr, blk_stays h2 hg hr, ⟨q, q1, q2, blk_stays q3 hg hr, blk_stays q4 hg hr⟩, bel_stays h7 hB hg hr, Nat.le_trans h8 hg.size, h9, h10⟩
theorem rstop_kept {ts : List Ty} {bs : List Int} {w : World} {B0 b4 : Nat} (hB : w.heap.size ≤ B0) (c : Code) : OwnFrom B0 (RStop ts bs w b4 c) := by
  intro pre W W' row ⟨h1, h2, h3, h4⟩ hg hr
  exact ⟨h1, h2, blk_stays h3 hg hr, bel_stays h4 hB hg hr⟩
set_option maxHeartbeats 2000000 in
set_option maxRecDepth 100000 in
theorem freturns_any (ts : List Ty) (A : Option Addr) (capT : Nat) (bs : List Int) (B : Option Addr) (capB : Nat) (w : World) (ht : TysAt w A ts) (hc : IntsAt w .u8 B bs) (hz : ∀ z ∈ bs, 0 ≤ z ∧ z < 256) (hn : bs.length ≤ 1048576) (hcap : bs.length ≤ capB) (htn : ts.length ≤ 1048576) :
    Calls Tryd.prog 30 #[.slice A ts.length capT, .slice B bs.length capB] w fun e w' => e = .returned (.bool (returnsB ts bs)) ∧ Below w.heap.size w w' := by
  have HT := Lib.hid ht
  have HZ := Lib.hid hz
  have HC := Lib.hid hc
  clear ht hz hc
  refine (callsIn_wide (n := 8)).1 ?_
  refine callsIn_of_wp_marks Tryd.func30 rfl trivial ?_ rfl
  simp only [Tryd.ntmps30, List.size_toArray, List.length_cons, List.length_nil, Nat.reduceAdd, Nat.reduceSub, Array.replicate_succ, Array.replicate_zero, List.push_toArray, List.append_toArray, List.nil_append, List.cons_append]
  refine wpIn_wide.2 ?_
  go_wp2_with (go_at_call 41; refine stop_o ?_)
  unfold StopO
  have hq2 := heap_alloc_before (heap_alloc_new w (.cells #[.slice A ts.length capT] 22)) (.cells #[.bool false] 4)
  have hq4 := heap_alloc_at (w.alloc (.cells #[.slice A ts.length capT] 22)) (.cells #[.bool false] 4) (w.heap.size + 1) (by simp)
  have hb0 : Below w.heap.size w ((w.alloc (.cells #[.slice A ts.length capT] 22)).alloc (.cells #[.bool false] 4)) := ((Below.refl _ _).alloc (Nat.le_refl _) _).alloc (by simp) _
  have hsz0 : ((w.alloc (.cells #[.slice A ts.length capT] 22)).alloc (.cells #[.bool false] 4)).heap.size = w.heap.size + 2 := by simp
  generalize (w.alloc (.cells #[.slice A ts.length capT] 22)).alloc (.cells #[.bool false] 4) = W3 at hq2 hq4 hb0 hsz0 ⊢
  obtain ⟨b2, hb2⟩ : ∃ b2, w.heap.size = b2 := ⟨_, rfl⟩
  rw [hb2] at hq2 hq4 hsz0
  refine (codeall_any bs B capB W3 (ints_below hb0 HC.out) (by omega)).mono ?_
  rintro e W4 ⟨g, rfl, hheld, hb4⟩
  have HX4 := Lib.hid (⟨kept_of hb4 hq2, kept_of hb4 hq4, hb0.trans (hb4.mono hb0.size), hheld⟩ : W4.heap[b2]? = _ ∧ W4.heap[b2 + 1]? = _ ∧ Below w.heap.size w W4 ∧ HeldAt bs W3.heap.size g W4)
  have hs4 : b2 + 2 ≤ W4.heap.size := by have := hb4.size; omega
  have hwB0 : w.heap.size ≤ W4.heap.size := by omega
  clear hq2 hq4 hb0 hsz0 hheld hb4
  have HB2 := Lib.hid hb2
  go_wp2
  clear hb2
  refine (wpIn_wide (n := 8)).1 ?_
  refine wpIn_rangeF rfl (by omega) (gf := 59) (lb := #[.pointer (some ⟨g, 0, none⟩)]) rfl trivial (enters_of Tryd.func59 (by kernel_rfl) rfl) (all1_seq bs HZ.out (by omega) g W3.heap.size 4 W4) (Below.refl _ _) (fun _ => rfl)
    (RInv ts bs w W4.heap.size W3.heap.size g b2 (b2 + 1) A capT) (RStop ts bs w (b2 + 1)) (rinv_kept hwB0) (rstop_kept hwB0)
    ⟨HX4.out.1, HX4.out.2.1, HX4.out.2.2.2, HX4.out.2.2.1, Nat.le_refl _, (fun x hx => by cases hx), ⟨0, .nil⟩⟩
    (fun pre W h => h.2.2.1)
    (fun pre y r a' W => (a'.tmps.size = 34 ∧ a'.defers = []) ∧ ∃ Bx X c, b2 + 1 < Bx ∧ b2 + 1 < r ∧ Bx ≠ r ∧ W4.heap.size ≤ Bx ∧ W4.heap.size ≤ r ∧ y.2 = .slice X y.1.imm.length c ∧ W.heap[Bx]? = some (.cells #[.int .i64 y.1.at_, .int .i64 y.1.code, .slice X y.1.imm.length c, .int .i64 y.1.next] 42 (0, 0)) ∧
      W.ownsRow W4.heap.size 5 1 (.slice X y.1.imm.length c) y.1.imm.length (byteVs y.1.imm) ∧ (∃ p, Reads bs (pre.map Prod.fst) p ∧ readE bs p = (0, y.1)) ∧ a'.tmps.getD 2 undef = .pointer (some ⟨b2, 0, none⟩) ∧ a'.tmps.getD 4 undef = .pointer (some ⟨b2 + 1, 0, none⟩) ∧ a'.tmps.getD 5 undef = .pointer (some ⟨Bx, 0, none⟩))
    (fun pre x r a' _ W W' row hs hg hr => by
      obtain ⟨h0, Bx, X, c, h1, h2, h3, h4, h5, h6, h7, h8, h11⟩ := hs
      exact ⟨h0, Bx, X, c, h1, h2, h3, h4, h5, h6, blk_stays h7 hg hr, own_stays h8 hg hr, h11⟩) ?assign ?body ?done ?stop
  case assign =>
    rintro l pre ⟨i, v⟩ W o K hi ⟨hr, hown, hris⟩ ho hK
    change W.ownsRow W4.heap.size 5 1 v i.imm.length (byteVs i.imm) at hown
    obtain ⟨X, c, rfl⟩ := owns_shape hown
    unfold elV insV
    gi_wp2
    have hsz2 : ((W.alloc o).alloc (.cells #[.int .i64 i.at_, .int .i64 i.code, .slice X i.imm.length c, .int .i64 i.next] 42)).heap[W.heap.size]? = some o := (Below.heap_alloc _ _ _ (by simp)).trans (heap_alloc_new _ _)
    have hg2 : W.grownBy ((W.alloc o).alloc (.cells #[.int .i64 i.at_, .int .i64 i.code, .slice X i.imm.length c, .int .i64 i.next] 42)) none := grownBy_below (((Below.refl _ W).alloc (Nat.le_refl _) _).alloc (by simp) _)
    have hi2 := rinv_kept hwB0 pre _ _ none hi hg2 (fun r e => by cases e)
    have ho2 := own_stays (B := 0) hown hg2 (fun r e => by cases e)
    have hWs := hi.2.2.2.2.1
    exact hK _ _ ((KeepsOthers.alloc _ _).from _) hi2 ⟨⟨rfl, rfl⟩, W.heap.size + 1, X, c, by omega, by omega, by omega, by omega, by omega, rfl, heap_alloc_at _ _ _ (by simp), ho2, hr, rfl, rfl, rfl⟩ hsz2
  case body =>
    rintro l pre ⟨i, v⟩ r o ⟨tm, ds⟩ W hl hlr hinv ⟨⟨hsz, hds⟩, Bx, X, c, hBx, hr, hne, hBx4, hr4, hv, hx, hown, ⟨p, hp1, hp2⟩, f2, f4, f5⟩ hro ho
    dsimp only at hsz hds hv hx hown hp2 f2 f4 f5
    subst hv hds
    obtain ⟨u, hu, ha⟩ := frame_open (a := { tmps := tm, defers := [] }) hsz
    dsimp only at hu ha
    rw [hu] at f2 f4 f5
    have ha2 : tm = #[u 0, u 1, u 2, u 3, u 4, u 5, u 6, u 7, u 8, u 9, u 10, u 11, u 12, u 13, u 14, u 15, u 16, u 17, u 18, u 19, u 20, u 21, u 22, u 23, u 24, u 25, u 26, u 27, u 28, u 29, u 30, u 31, u 32, u 33] := (Act.mk.inj ha).1
    rw [f2, f4, f5] at ha2
    subst ha2
    clear hu ha f2 f4 f5 hsz
    obtain ⟨e1, e2, e3, e4, e5, e6, e7⟩ := hinv
    obtain ⟨p0, p1⟩ := cell_of1 e1
    obtain ⟨k0, k1⟩ := cell_of1 e2
    obtain ⟨q0, q1, q2, q3, qz, ql⟩ := cells4 hx
    have hnx := read_next hp2
    have hbyt := read_bytes HZ.out hp2
    have HIN := Lib.hid (⟨⟨e1, e2, e3, e4, e5, e6, e7⟩, hown, hp1, hp2, hro, hx⟩ : RInv ts bs w W4.heap.size W3.heap.size g b2 (b2 + 1) A capT pre W ∧ _ ∧ _ ∧ _ ∧ _ ∧ _)
    have HNM := Lib.hid (named_any i X c W (owned_ints hown) hbyt (by have := hnx.2.2.2.2.2; omega) (wf64 (by omega) (by omega)))
    have hn0 := named_nonneg hbyt
    have HSN := Lib.hid (show ∃ q, Reads bs ((pre ++ [((i, .slice X i.imm.length c) : El)]).map Prod.fst) q by rw [List.map_append]; exact ⟨_, .snoc hp1 hp2⟩)
    have HNX := Lib.hid (fun W' (hb : Below W.heap.size W W') (hret : retI ts i = false) => (by
      obtain ⟨⟨e1, e2, e3, e4, e5, e6, e7⟩, hown, hp1, hp2, hro, hx⟩ := HIN.out
      have hk := rinv_kept hwB0 pre W W' none ⟨e1, e2, e3, e4, e5, e6, e7⟩ (grownBy_below hb) (fun r e => by cases e)
      refine ⟨KeepsFrom.of_grownBy (grownBy_below hb) (fun _ h => by cases h), ⟨hk.1, hk.2.1, hk.2.2.1, hk.2.2.2.1, hk.2.2.2.2.1, fun x hx => ?_, HSN.out⟩, kept_of hb hro⟩
      rcases List.mem_append.1 hx with h | h
      · exact e6 x h
      · rw [List.mem_singleton.1 h]; exact hret : KeepsFrom W4.heap.size W W' ∧ RInv ts bs w W4.heap.size W3.heap.size g b2 (b2 + 1) A capT (pre ++ [((i, .slice X i.imm.length c) : El)]) W' ∧ W'.heap[r]? = some o))
    have HST := Lib.hid (fun W' (hb : Below W.heap.size W W') (hret : retI ts i = true) => (by
      obtain ⟨⟨e1, e2, e3, e4, e5, e6, e7⟩, hown, hp1, hp2, hro, hx⟩ := HIN.out
      exact ⟨(KeepsFrom.of_grownBy (grownBy_below hb) (fun _ h => by cases h)).trans ((KeepsOthers.setCell _ _ _).from _), rfl, returns_in hp1 hp2 hret, heap_set1 (kept_of hb e2) _, (e4.trans (hb.mono e4.size)).setCell (by have := HB2.out; dsimp only; omega) _⟩ : KeepsFrom W4.heap.size W (W'.setCell ⟨b2 + 1, 0, none⟩ (.bool true)) ∧ RStop ts bs w (b2 + 1) .ret (pre ++ [((i, .slice X i.imm.length c) : El)]) (W'.setCell ⟨b2 + 1, 0, none⟩ (.bool true))))
    have HTW := Lib.hid (fun W' (hb : Below W.heap.size W W') => tys_below HT.out (HIN.out.1.2.2.2.1.trans (hb.mono HIN.out.1.2.2.2.1.size)))
    have HP1 := Lib.hid (⟨HIN.out.1.1, HIN.out.1.2.1⟩ : _ ∧ _)
    clear e1 e2 e3 e4 e5 e6 e7 hown hp1 hp2 hro hx hnx hbyt
    unfold insV at HNM
    by_cases h228 : i.code = 228
    · have g1 : (i.code == 228) = true := by rw [beq_iff_eq]; exact h228
      have HRT := Lib.hid (show retI ts i = true by unfold retI; rw [decide_eq_true h228]; rfl)
      clear h228
      gi_wp2
      exact HST.out W (Below.refl _ _) HRT.out
    · have g1 : (i.code == 228) = false := by rw [beq_eq_false_iff_ne]; exact h228
      by_cases h229 : i.code = 229
      · have g2 : (i.code != 229) = false := by rw [bne_eq_false_iff_eq]; exact h229
        obtain ⟨nn, hnn⟩ : ∃ nn : Nat, namedN i = nn := ⟨(namedN i).toNat, by omega⟩
        rw [hnn] at HNM
        have hret : retI ts i = (decide ((nn : Int) < ts.length) && decide ((tyAt ts (nn : Int)).out ≠ 128)) := by
          unfold retI
          rw [decide_eq_false h228, decide_eq_true h229, hnn]
          simp
        have HRT := Lib.hid hret
        clear hnn hn0 hret h228 h229
        gi_wp2_with (refine ⟨trivial, ?_⟩; gi_at_call 25; refine (CallsIn.inRound l (callsIn_wide.2 HNM.out)).mono ?_; rintro e W5 ⟨rfl, hb5⟩; obtain ⟨s0, s1⟩ := cell_of1 (kept_of hb5 HP1.out.1); obtain ⟨m0, m1⟩ := cell_of1 (kept_of hb5 HP1.out.2); refine stop_o ?_)
        unfold StopO
        clear p0 p1 k0 k1 q0 q1 q2 q3 qz ql HNM
        by_cases hnl : nn < ts.length
        · have hnl2 : (nn : Int) < (ts.length : Int) := by omega
          obtain ⟨x', rfl, t0, t1, t2⟩ := HTW.out W5 hb5 nn hnl
          have hty : tyAt ts (nn : Int) = ts.getD nn zeroT := by unfold tyAt; rfl
          obtain ⟨ty, htyd⟩ : ∃ ty, ty = ts.getD nn zeroT := ⟨_, rfl⟩
          rw [← htyd] at t1 hty
          have HTY := Lib.hid (⟨hty, hnl2⟩ : _ ∧ _)
          clear t0 t2 hty htyd
          by_cases h8 : ty.out = 128
          · have g3 : (ty.out != 128) = false := by rw [bne_eq_false_iff_eq]; exact h8
            have HR := Lib.hid (show retI ts i = false by rw [HRT.out, HTY.out.1, h8]; simp)
            clear h8
            gi_wp2
            exact HNX.out W5 hb5 HR.out
          · have g3 : (ty.out != 128) = true := by rw [bne_iff_ne]; exact h8
            have HR := Lib.hid (show retI ts i = true by rw [HRT.out, HTY.out.1, decide_eq_true HTY.out.2, decide_eq_true h8]; rfl)
            clear h8
            gi_wp2
            exact HST.out W5 hb5 HR.out
        · have hnl3 : ¬ (nn : Int) < (ts.length : Int) := by omega
          have HR := Lib.hid (show retI ts i = false by rw [HRT.out, decide_eq_false hnl3]; rfl)
          clear hnl
          gi_wp2
          exact HNX.out W5 hb5 HR.out
      · have g2 : (i.code != 229) = true := by rw [bne_iff_ne]; exact h229
        have HR := Lib.hid (show retI ts i = false by unfold retI; rw [decide_eq_false h228, decide_eq_false h229]; rfl)
        clear h228 h229
        gi_wp2
        exact HNX.out W (Below.refl _ _) HR.out
  case done =>
    rintro D xs W hD hall ⟨e1, e2, e3, e4, e5, e6, e7⟩ hK
    obtain ⟨k0, k1⟩ := cell_of1 e2
    have hr := returns_all hall e6
    have HR := Lib.hid hr
    have HE := Lib.hid (⟨e2, e4, hK⟩ : _ ∧ _ ∧ _)
    have hDb : D ≠ b2 + 1 := by omega
    have HDB := Lib.hid (⟨hDb, hD⟩ : _ ∧ _)
    clear e1 e2 e3 e4 e5 e6 e7 hr hK hall
    go_wp2
    have hKD := heap_setOther (a := ⟨b2 + 1, 0, none⟩) HE.out.2.2 HDB.out.1 (.bool false)
    refine leaves_def1 (B := w.heap.size) D _ (by have := HB2.out; have := HDB.out.2; omega) hKD fun W' hbW hkW => ?_
    refine ⟨_, fret_end rfl (hkW (b2 + 1) _ (fun e => HDB.out.1 e.symm) (heap_set1 HE.out.1 (.bool false))), by rw [HR.out], (HE.out.2.1.setCell (by have := HB2.out; dsimp only; omega) _).trans hbW⟩
  case stop =>
    rintro D c pre W hD hpre ⟨rfl, hr, h3, h4⟩ hK
    have HE := Lib.hid (⟨hr, h3, h4, hK⟩ : _ ∧ _ ∧ _ ∧ _)
    have HDB := Lib.hid (show D ≠ b2 + 1 ∧ W4.heap.size ≤ D from ⟨by omega, hD⟩)
    clear hr h3 h4 hK
    refine wpIn_wide.2 ?_
    go_wp2
    refine leaves_def1 (B := w.heap.size) D _ (by have := HB2.out; have := HDB.out.2; omega) HE.out.2.2.2 fun W' hbW hkW => ?_
    refine ⟨_, fret_end rfl (hkW (b2 + 1) _ (fun e => HDB.out.1 e.symm) HE.out.2.1), by rw [HE.out.1], HE.out.2.2.1.trans hbW⟩
end Go.Proofs.YtfjmdffhfjnopaaDoor
/- vouchlaw7.FlowReturns: the walk. -/
namespace Go.Vk
theorem trCells_set1 : ∀ {ls : List Tri} {k : Nat} (z : Int), k < ls.length → (trCells ls).set (k * 3 + 1) (.int .i64 z) = trCells (ls.set k ((ls.getD k zeroTri).1, z, (ls.getD k zeroTri).2.2))
  | [], _, _, h => by simp at h
  | t :: r, 0, z, _ => by simp [trCells]
  | t :: r, k + 1, z, h => by
    rw [trCells_cons, show (k + 1) * 3 + 1 = k * 3 + 1 + 3 by omega, List.set_cons_succ, List.set_cons_succ, List.set_cons_succ, trCells_set1 z (by simpa using h)]
    simp [trCells_cons]
end Go.Vk
namespace Go.Proofs.YtfjmdffhfjnopaaDoor
open Go.RowKit Vouch Go.Vk Go.Sort
theorem freturns_tri (ls : List Tri) (A : Option Addr) (capT : Nat) (bs : List Int) (B : Option Addr) (capB : Nat) (w : World) (ht : TriAt w A ls) (hc : IntsAt w .u8 B bs) (hz : ∀ z ∈ bs, 0 ≤ z ∧ z < 256) (hn : bs.length ≤ 1048576) (hcap : bs.length ≤ capB) (htn : ls.length ≤ 1048576) :
    Calls Tryd.prog 30 #[.slice A ls.length capT, .slice B bs.length capB] w fun e w' => e = .returned (.bool (returnsB (ls.map triTy) bs)) ∧ Below w.heap.size w w' := by
  have h := freturns_any (ls.map triTy) A capT bs B capB w (tys_tri ht) hc hz hn hcap (by simpa using htn)
  rw [List.length_map] at h
  exact h
theorem rreturns_tri (ls : List Tri) (A : Option Addr) (capT : Nat) (bs : List Int) (B : Option Addr) (capB : Nat) (w : World) (ht : TriAt w A ls) (hc : IntsAt w .u8 B bs) (hz : ∀ z ∈ bs, 0 ≤ z ∧ z < 256) (hn : bs.length ≤ 1048576) (hcap : bs.length ≤ capB) (htn : ls.length ≤ 1048576) :
    Calls Tryd.prog 31 #[.slice A ls.length capT, .slice B bs.length capB] w fun e w' => e = .returned (.bool (returnsB (ls.map triTy) bs)) ∧ Below w.heap.size w w' := by
  have h := rreturns7_any (ls.map triTy) A capT bs B capB w (tys_tri ht) hc hz hn hcap (by simpa using htn)
  rw [List.length_map] at h
  exact h
theorem returns_lit : returnsB [] [228] = true := by decide +kernel
set_option maxHeartbeats 2000000 in
set_option maxRecDepth 100000 in
theorem returns_walk (A : Option Addr) (cA : Nat) (ls : List Tri) (B : Option Addr) (cB : Nat) (bs : List Int) (w : World) (ha : TriAt w A ls) (h0 : A = none → cA = 0) (hln : ls.length ≤ 140737488351232)
    (hb : IntsAt w .u8 B bs) (hzw : ∀ n ∈ bs, (Lit.int .u8 n).wf = true) (hcB : bs.length ≤ cB) (h1 : B = none → cB = 0) (hbn : bs.length ≤ 140737488351232) :
    Calls Tryd.prog 12 #[.slice A ls.length cA, .slice B bs.length cB] w fun e w' => e = .returned (.bool true) ∧ Below w.heap.size w w' := by
  have hwr : wrap64 ((ls.length : Int) + (bs.length : Int)) = (ls.length : Int) + (bs.length : Int) := by simp only [wrap64]; omega
  have hz : ∀ z ∈ bs, 0 ≤ z ∧ z < 256 := fun z h => byte_wf (hzw z h)
  clear hzw
  by_cases big : 1048576 < ls.length + bs.length
  · have h1 : (1048576 : Int) < (ls.length : Int) + (bs.length : Int) := by omega
    clear ha h0 hb hz big
    go_enter Tryd.func12, Tryd.ntmps12
    go_wp2
    go_ret
    exact ⟨rfl, Below.refl _ _⟩
  have hbig : ¬ (1048576 : Int) < (ls.length : Int) + (bs.length : Int) := by omega
  have hl : ls.length ≤ 1048576 := by omega
  have hn : bs.length ≤ 1048576 := by omega
  clear big
  obtain ⟨t0, ht0, tz0, tz1, tz2⟩ := info_parts infoType
  obtain ⟨b0, hbi, bz0, bz1, bz2⟩ := info_parts infoByte
  have HA := Lib.hid ha
  have HB := Lib.hid hb
  have HZ := Lib.hid hz
  have HZ0 := Lib.hid (⟨h0, h1⟩ : _ ∧ _)
  have HT1 := Lib.hid (ownT_any ls A cA w ha h0 (by omega))
  clear ha hb hz h0 h1
  go_enter Tryd.func12, Tryd.ntmps12
  go_wp2_with (go_at_call 17; refine stop_o ?_)
  unfold StopO
  refine HT1.out.mono ?_
  rintro e W1 ⟨X1, c1, rfl, hown1, hb1⟩
  have HO1 := Lib.hid (hown1.alloc (.cells #[.int .i64 (-7), .int .i64 0, .int .i64 0, .int .i64 (-8), .int .i64 0, .int .i64 0] 35))
  have hB1 := hb1.alloc hb1.size (.cells #[.int .i64 (-7), .int .i64 0, .int .i64 0, .int .i64 (-8), .int .i64 0, .int .i64 0] 35)
  clear hown1 HT1
  go_wp2_with (at_builtin; refine wpList_append_own _ rfl _ _ 22 rfl w.heap.size 35 t0 (.agg #[.int .i64 0, .int .i64 0, .int .i64 0]) 3 24 Tryd.underlying22 ht0 tz0 tz1 tz2 rfl (by decide) _ _ _ rfl HO1.out ⟨W1.heap.size, 0, none⟩ 2 2 (trCells marksT) rfl rfl ?b1 ?b2 ?b3 ?b4 ?b5 ?_)
  case b1 => exact cells_fresh W1 #[.int .i64 (-7), .int .i64 0, .int .i64 0, .int .i64 (-8), .int .i64 0, .int .i64 0] _ _ rfl
  case b2 => exact trCells_one
  case b3 => unfold maxLen; omega
  case b4 => omega
  case b5 => exact hB1.size
  intro v2 W2 hown2 hgrow2 _
  have hB2 := bel_own hB1 HO1.out (Nat.le_refl _) hgrow2
  rw [← trCells_append] at hown2
  clear hgrow2 HO1 hB1 hb1
  obtain ⟨XT, cT, rfl⟩ := owns_shape hown2
  obtain ⟨gt, rfl⟩ := own_head hown2 (by omega)
  have HO2 := Lib.hid hown2
  have HB2 := Lib.hid hB2
  have HT2 := Lib.hid (own7_any bs B cB W2 (ints_below hB2 HB.out) HZ0.out.2 (by omega))
  clear hown2 hB2
  go_wp2_with (go_at_call 18; refine stop_o ?_)
  unfold StopO
  refine HT2.out.mono ?_
  rintro e W3 ⟨X3, c3, rfl, hown3, hb3⟩
  have HO3 := Lib.hid (hown3.alloc (.cells #[.int .u8 201, .int .u8 202, .int .u8 203, .int .u8 204] 5))
  have hB3 := hb3.alloc hb3.size (.cells #[.int .u8 201, .int .u8 202, .int .u8 203, .int .u8 204] 5)
  clear hown3 HT2
  go_wp2_with (at_builtin; refine wpList_append_own _ rfl _ _ 23 rfl W2.heap.size 5 b0 (.int .u8 0) 1 1 Tryd.underlying23 hbi bz0 bz1 bz2 rfl (by decide) _ _ _ rfl HO3.out ⟨W3.heap.size, 0, none⟩ 4 4 (byteVs marksB) rfl rfl ?d1 ?d2 ?d3 ?d4 ?d5 ?_)
  case d1 => exact cells_fresh W3 #[.int .u8 201, .int .u8 202, .int .u8 203, .int .u8 204] _ _ rfl
  case d2 => exact bytes_one
  case d3 => unfold maxLen; omega
  case d4 => omega
  case d5 => exact hB3.size
  intro v4 W4 hown4 hgrow4 _
  have hB4 := bel_own hB3 HO3.out (Nat.le_refl _) hgrow4
  clear hgrow4 HO3 hB3 hb3
  obtain ⟨XW, cW, rfl⟩ := owns_shape hown4
  obtain ⟨gw, rfl⟩ := own_head hown4 (by omega)
  have hown5 : W4.ownsRow W2.heap.size 5 1 (.slice (some ⟨gw, 0, none⟩) (bs.length + 4) cW) (bs.length + 4) (byteVs (bs ++ marksB)) := by
    unfold byteVs at hown4 ⊢
    rw [List.map_append]
    exact hown4
  have hct := owned_cap HO2.out
  have hcw := owned_cap hown4
  have HB4 := Lib.hid (HB2.out.trans (hB4.mono HB2.out.size))
  have HOT := Lib.hid (own_below HO2.out hB4)
  have HOW := Lib.hid hown5
  have HSZ := Lib.hid (⟨HB2.out.size, hB4.size⟩ : _ ∧ _)
  clear hown4 hown5 hB4 HO2 HB2
  have htt : W4.ownsRow w.heap.size 35 3 (.slice (some ⟨gt, 0, none⟩) ls.length cT) ls.length (trCells ls) := by
    have := own_cutN HOT.out ls.length (by omega)
    rw [trCells_append, ← trCells_length, List.take_left] at this
    exact this
  have hww : W4.ownsRow w.heap.size 5 1 (.slice (some ⟨gw, 0, none⟩) bs.length cW) bs.length (byteVs bs) := by
    have := own_lower (own_cutN HOW.out bs.length (by omega)) HSZ.out.1
    unfold byteVs at this ⊢
    rw [List.map_append, Nat.mul_one, List.take_left' (by simp)] at this
    exact this
  have HG := Lib.hid (⟨own_block_lt htt rfl, own_block_lt hww rfl⟩ : gt < W4.heap.size ∧ gw < W4.heap.size) 
  have HFR := Lib.hid (fun w2 (hb : Below W4.heap.size W4 w2) => freturns_tri ls (some ⟨gt, 0, none⟩) cT bs (some ⟨gw, 0, none⟩) cW w2 (tri_below (tri_owned htt) hb) (ints_below hb (owned_ints hww)) HZ.out hn (owned_cap hww) hl)
  have HRR := Lib.hid (fun w2 (hb : Below W4.heap.size W4 w2) => rreturns_tri ls A cA bs B cB w2 (tri_below HA.out (HB4.out.trans (hb.mono HB4.out.size))) (ints_below (HB4.out.trans (hb.mono HB4.out.size)) HB.out) HZ.out hn hcB hl)
  have HST := Lib.hid (fun w2 (hb4 : Below W4.heap.size W4 w2) => (by
    have h1 := tri_owned (ls := ls ++ marksT) (c := cT) (X := some ⟨gt, 0, none⟩) (by rw [List.length_append]; exact own_below HOT.out hb4)
    have h2 := owned_ints (zs := bs ++ marksB) (c := cW) (X := some ⟨gw, 0, none⟩) (by rw [List.length_append]; exact own_below HOW.out hb4)
    exact stay_any ls bs (some ⟨gt, 0, none⟩) A (some ⟨gw, 0, none⟩) B cT cA cW cB w2 h1 (tri_below HA.out (HB4.out.trans (hb4.mono HB4.out.size))) h2 (ints_below (HB4.out.trans (hb4.mono HB4.out.size)) HB.out) hl hn))
  have HNL := Lib.hid (fun (w2 : World) (g : Nat) (h : w2.heap[g]? = some (.cells (byteVs [228]).toArray 5 (0, 0))) => (by
    have := freturns_tri [] none 0 [228] (some ⟨g, 0, none⟩) 1 w2 (fun i hi => by simp at hi) (ints_lit h) (by decide) (by decide) (by decide) (by decide)
    rw [show returnsB (([] : List Tri).map triTy) [228] = true from returns_lit] at this
    exact this))
  have HTT := Lib.hid (⟨htt, hww⟩ : _ ∧ _)
  clear htt hww
  have k1 : (ls.length : Int) ≤ (cT : Int) := by omega
  have k2 : (bs.length : Int) ≤ (cW : Int) := by omega
  have k3 : (0 : Int) ≤ (ls.length : Int) := by omega
  have k4 : (0 : Int) ≤ (bs.length : Int) := by omega
  obtain ⟨rv, hrv⟩ : ∃ rv, returnsB (ls.map triTy) bs = rv := ⟨_, rfl⟩
  rw [hrv] at HFR HRR
  clear hrv
  have e1 : (rv != rv) = false := by simp
  have a0 := fun d os => calls_grown (w := W4) (fun w2 _ => able_any w2) d os
  have a1 := fun d os => calls_grown (w := W4) (fun w2 hb => HFR.out w2 hb) d os
  have a2 := fun d os => calls_grown (w := W4) (fun w2 hb => HRR.out w2 hb) d os
  have a3 := fun d os => calls_grown (w := W4) (fun w2 hb => HST.out w2 hb) d os
  go_wp2
  go_region_held3 (fun _ => True) (trivial)
    (first
      | (go_at_call 14; refine (able_any _).mono ?_; rintro e wA ⟨rfl, hbA⟩)
      | (go_at_call 32; refine (HST.out _ hbD).mono ?_; rintro e wE ⟨rfl, hbE⟩)
      | (go_at_call 31; refine (HRR.out _ hbC).mono ?_; rintro e wD ⟨rfl, hbD0⟩; have hbD := hbC.trans (hbD0.mono hbC.size))
      | (go_at_call 30; refine (HFR.out _ hbB).mono ?_; rintro e wC ⟨rfl, hbC0⟩; have hbC := hbB.trans (hbC0.mono hbB.size))
      | (go_at_call 30; refine (HNL.out _ _ (heap_alloc_new _ _)).mono ?_; rintro e wB ⟨rfl, hbB0⟩; have hbB : Below W4.heap.size W4 wB := ((((Below.refl _ _).drew.trans hbA).alloc ((Below.refl _ _).drew.trans hbA).size _)).trans (hbB0.mono ((((Below.refl _ _).drew.trans hbA).alloc ((Below.refl _ _).drew.trans hbA).size _)).size)))
  have hbF : Below W4.heap.size W4 wE := hbD.trans (hbE.mono hbD.size)
  have HF := Lib.hid (⟨HB4.out.trans (hbF.mono HB4.out.size), own_below HTT.out.1 hbF, own_below HTT.out.2 hbF⟩ : Below w.heap.size w wE ∧ _ ∧ _)
  clear hbA hbB0 hbB hbC0 hbC hbD0 hbD hbE hbF a0 a1 a2 a3 HFR HRR HST HNL HTT k1 k2 k3 k4
  generalize hnn : bs.length = n at *
  generalize hmm : ls.length = m at *
  have HN := Lib.hid (⟨hnn, hmm⟩ : _ ∧ _)
  clear hnn hmm
  have hne : gt ≠ gw := by
    obtain ⟨ca, h1⟩ := own_block7 HF.out.2.1 rfl
    obtain ⟨cb, h2⟩ := own_block7 HF.out.2.2 rfl
    exact apart_of h1 h2 (by decide)
  have HNE := Lib.hid hne
  clear hne
  have hc4 : ((n + 4 : Nat) : Int) = (n : Int) + 4 := by omega
  have hc2 : ((m + 2 : Nat) : Int) = (m : Int) + 2 := by omega
  go_upto_if 55 with fail
  go_cut [55] from 56 to 67 (fun s55 wx => ∃ bs' : List Int, Hid (bs'.length = n ∧ (∀ z ∈ bs', 0 ≤ z ∧ z < 256) ∧ wx.ownsRow w.heap.size 5 1 (.slice (some ⟨gw, 0, none⟩) n cW) n (byteVs bs') ∧ wx.ownsRow w.heap.size 35 3 (.slice (some ⟨gt, 0, none⟩) m cT) m (trCells ls) ∧ Below w.heap.size w wx))
  case first =>
    by_cases h0 : 0 < n
    · have h0i : (0 : Int) < (n : Int) := by omega
      have hd : ((n : Int) / 2) = ((n / 2 : Nat) : Int) := by omega
      have hlt : n / 2 < n := by omega
      obtain ⟨q, hq⟩ : ∃ q, n / 2 = q := ⟨_, rfl⟩
      rw [hq] at hd hlt
      have hlt2 : (q : Int) < (n : Int) + 4 := by omega
      have hlt3 : q < n + 4 := by omega
      obtain ⟨z, hz⟩ : ∃ z, bs[q]? = some z := ⟨_, List.getElem?_eq_getElem (by have := HN.out.1; omega)⟩
      obtain ⟨hc1, hc2'⟩ := own_cell HF.out.2.2 (j := q) (v := .int .u8 z) (by unfold byteVs; rw [List.getElem?_map, hz]; rfl)
      have HQ := Lib.hid (⟨hq, hz, hlt⟩ : _ ∧ _ ∧ _)
      clear hq hz
      go_wp2_with fail
      go_meet
      refine ⟨bs.set q (Go.bits .xor .u8 z 1), Lib.hid ⟨by rw [List.length_set]; exact HN.out.1, fun x hx => ?_, ?_, ?_, HF.out.1.setCell (HF.out.2.2.lt gw rfl).1 _⟩⟩
      · rcases List.mem_or_eq_of_mem_set hx with h | rfl
        · exact HZ.out x h
        · have := bits_lo_u8 .xor z 1
          have := bits_hi_u8 .xor z 1
          omega
      · have := own_set HF.out.2.2 q (.int .u8 (Go.bits .xor .u8 z 1))
        unfold byteVs at this ⊢
        rw [List.map_set]
        exact this
      · obtain ⟨cb, h2⟩ := own_block7 HF.out.2.2 rfl
        exact own_setBlock HF.out.2.1 (a := ⟨gw, q, none⟩) h2 (by decide) _
    · have h0i : ¬ (0 : Int) < (n : Int) := by omega
      go_wp2_with fail
      go_meet
      exact ⟨bs, Lib.hid ⟨HN.out.1, HZ.out, HF.out.2.2, HF.out.2.1, HF.out.1⟩⟩
  case rest =>
    obtain ⟨bs', HC⟩ := hcut
    go_upto_if 70 with fail
    go_cut [70] from 71 to 84 (fun s70 wx => ∃ ls' : List Tri, Hid (ls'.length = m ∧ wx.ownsRow w.heap.size 5 1 (.slice (some ⟨gw, 0, none⟩) n cW) n (byteVs bs') ∧ wx.ownsRow w.heap.size 35 3 (.slice (some ⟨gt, 0, none⟩) m cT) m (trCells ls') ∧ Below w.heap.size w wx))
    case first =>
      by_cases h0 : 0 < m
      · have h0i : (0 : Int) < (m : Int) := by omega
        have hlt : m - 1 < m := by omega
        have hz1 : (0 : Int) ≤ (m : Int) - 1 := by omega
        have hz2 : (m : Int) - 1 < (m : Int) + 2 := by omega
        have ht : ((m : Int) - 1).toNat = m - 1 := by omega
        obtain ⟨_, _, h3, h4, h5⟩ := HC.out
        have hq := (trCells_at (ls := ls) (k := m - 1) (by rw [HN.out.2]; exact hlt)).2.1
        have c1 := (h4.cellAt ((m - 1) * 3 + 1) (by omega)).trans hq
        have f1 := h4.frozenAt ((m - 1) * 3 + 1)
        generalize (ls.getD (m - 1) zeroTri).2.1 = z at c1
        have HQ := Lib.hid hlt
        have hwr2 : wrap64 ((m : Int) - 1) = (m : Int) - 1 := (wrap_st7 (by omega) (by omega)).1
        clear hq hlt h3 h4 h5
        go_wp2_with fail
        go_meet
        obtain ⟨_, _, h3, h4, h5⟩ := HC.out
        refine ⟨ls.set (m - 1) ((ls.getD (m - 1) zeroTri).1, Go.bits .xor .i64 z 128, (ls.getD (m - 1) zeroTri).2.2), Lib.hid ⟨by rw [List.length_set]; exact HN.out.2, ?_, ?_, h5.setCell (h4.lt gt rfl).1 _⟩⟩
        · obtain ⟨cb, h2⟩ := own_block7 h4 rfl
          exact own_setBlock h3 (a := ⟨gt, (m - 1) * 3 + 1, none⟩) h2 (by decide) _
        · rw [← trCells_set1 _ (by rw [HN.out.2]; exact HQ.out)]
          exact own_setN h4 _ _
      · have h0i : ¬ (0 : Int) < (m : Int) := by omega
        go_wp2_with fail
        go_meet
        exact ⟨ls, Lib.hid ⟨HN.out.2, HC.out.2.2.1, HC.out.2.2.2⟩⟩
    case rest =>
      obtain ⟨ls', HD⟩ := hcut
      obtain ⟨hbl, hbz, _⟩ := HC.out
      obtain ⟨hll, hbo, hto, hB⟩ := HD.out
      clear HC HD HF
      have hcw' := owned_cap hbo
      have hct' := owned_cap hto
      subst hbl
      subst hll
      have hbi := owned_ints hbo
      have hti := tri_owned hto
      have HX := Lib.hid (⟨hbi, hti, hcw', hct', hbz, hB⟩ : _ ∧ _ ∧ _ ∧ _ ∧ _ ∧ _)
      have HFR := Lib.hid (fun w2 (hb : Below wc.heap.size wc w2) => freturns_tri ls' (some ⟨gt, 0, none⟩) cT bs' (some ⟨gw, 0, none⟩) cW w2 (tri_below hti hb) (ints_below hb hbi) hbz hn hcw' hl)
      have HTR := Lib.hid (fun w2 (hb : Below wc.heap.size wc w2) => ownT_any ls' (some ⟨gt, 0, none⟩) cT w2 (tri_below hti hb) (fun h => by cases h) (by omega))
      have HOR := Lib.hid (fun w2 (hb : Below wc.heap.size wc w2) => own7_any bs' (some ⟨gw, 0, none⟩) cW w2 (ints_below hb hbi) (fun h => by cases h) (by omega))
      have HRR := Lib.hid (fun (w2 : World) (X Y : Option Addr) (c d : Nat) (ht : TriAt w2 X ls') (hc : IntsAt w2 .u8 Y bs') (hd : bs'.length ≤ d) => rreturns_tri ls' X c bs' Y d w2 ht hc hbz hn hd hl)
      obtain ⟨rv2, hrv2⟩ : ∃ rv, returnsB (ls'.map triTy) bs' = rv := ⟨_, rfl⟩
      rw [hrv2] at HFR HRR
      have k1 : (ls'.length : Int) ≤ (cT : Int) := by omega
      have k2 : (bs'.length : Int) ≤ (cW : Int) := by omega
      have k3 : (0 : Int) ≤ (ls'.length : Int) := by omega
      have k4 : (0 : Int) ≤ (bs'.length : Int) := by omega
      have e2 : (rv2 == rv2) = true := by simp
      clear hrv2 hbi hti hbo hto hbz hB e1
      go_wp2
      go_region_held3 (fun _ => True) (trivial)
        (first
          | (go_at_call 31; refine (HRR.out _ _ _ _ _ (tri_below (tri_owned hoB) hbC0) (owned_ints hoC) (owned_cap hoC)).mono ?_; rintro e wD ⟨rfl, hbD0⟩; have hbD := hbC.trans (hbD0.mono hbC.size))
          | (go_at_call 18; refine (HOR.out _ hbB).mono ?_; rintro e wC ⟨XC, cC, rfl, hoC, hbC0⟩; have hbC := hbB.trans (hbC0.mono hbB.size))
          | (go_at_call 17; refine (HTR.out _ hbA).mono ?_; rintro e wB ⟨XB, cB', rfl, hoB, hbB0⟩; have hbB := hbA.trans (hbB0.mono hbA.size))
          | (go_at_call 30; refine (HFR.out _ ((Below.refl _ _).drew)).mono ?_; rintro e wA ⟨rfl, hbA0⟩; have hbA : Below wc.heap.size wc wA := ((Below.refl _ _).drew).trans hbA0))
      have HFIN := Lib.hid (HX.out.2.2.2.2.2.trans (hbD.mono HX.out.2.2.2.2.2.size))
      clear hbA0 hbA hbB0 hbB hbC0 hbC hbD0 hbD hoB hoC
      go_wp2
      go_ret
      exact ⟨rfl, HFIN.out⟩
end Go.Proofs.YtfjmdffhfjnopaaDoor
