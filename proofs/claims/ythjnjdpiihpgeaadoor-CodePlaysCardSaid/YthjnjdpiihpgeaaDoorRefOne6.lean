/- vouchref6.One: the document's answer. -/
import Derived.Test.YthjnjdpiihpgeaaDoorRefF
import Derived.Test.YthjnjdpiihpgeaaDoorStay6
import Derived.Deep.RegionHeld3
namespace Go.Proofs.YthjnjdpiihpgeaaDoor
open Go.RowKit Vouch Go.Vk Go.Sort
def StopR (p : Prop) : Prop := p
theorem stop_r {p : Prop} (h : StopR p) : p := h
theorem cell_set4 {w : World} {a : Addr} {g : Nat} {v v0 v1 v2 v3 : Value} (h : w.cell? a = some v) (hne : a.block ≠ g) : ((((w.setCell ⟨g, 0, none⟩ v0).setCell ⟨g, 1, none⟩ v1).setCell ⟨g, 2, none⟩ v2).setCell ⟨g, 3, none⟩ v3).cell? a = some v :=
  (World.cell?_of_block (w := w) ((Below.heap_setCell _ _ _ _ hne).trans ((Below.heap_setCell _ _ _ _ hne).trans ((Below.heap_setCell _ _ _ _ hne).trans (Below.heap_setCell _ _ _ _ hne))))).trans h
theorem part_next (bs : List Int) (A : Option Addr) (cap p n : Nat) (w : World) (hc : IntsAt w .u8 A bs) (hn : bs.length ≤ 4294967296) (hl : p + 1 + n ≤ bs.length) :
    Calls Tryd.prog 42 #[.slice A bs.length cap, .int .i64 ((p : Int) + 1), .int .i64 ((p : Int) + 1 + n)] w fun e w' => ∃ v, e = .returned v ∧ w'.ownsRow w.heap.size 5 1 v n (byteVs ((bs.drop (p + 1)).take n)) ∧ Below w.heap.size w w' := by
  have := part_any bs A cap (p + 1) n w hc hn hl
  rwa [show ((p + 1 : Nat) : Int) = (p : Int) + 1 by omega] at this
set_option maxHeartbeats 1000000 in
set_option maxRecDepth 100000 in
theorem refone_any (bs : List Int) (A : Option Addr) (cap : Nat) (at_ : Int) (w : World) (hc : IntsAt w .u8 A bs) (hz : ∀ z ∈ bs, 0 ≤ z ∧ z < 256) (hn : bs.length ≤ 4294967296) (hw : (Lit.int .i64 at_).wf = true) :
    Calls Tryd.prog 23 #[.slice A bs.length cap, .int .i64 at_] w fun e w' => ∃ v, e = .returned (.tuple #[insV (readE bs at_).2 v, .int .i64 (readE bs at_).1]) ∧ w'.ownsRow w.heap.size 5 1 v (readE bs at_).2.imm.length (byteVs (readE bs at_).2.imm) ∧ Below w.heap.size w w' := by
  have HC := Lib.hid hc
  have HZ := Lib.hid hz
  clear hc hz
  by_cases h0 : at_ < 0
  · rw [readE_neg (.inl h0)]
    go_enter Tryd.func23, Tryd.ntmps23
    go_wp2
    exact bodyPost_ret_by (results_row_tmp (cs := #[.int .i64 0, .int .i64 0, .slice none 0 0, .int .i64 0]) rfl _ _ w.heap.size _ _ _ rfl (heap_alloc_new _ _) Tryd.underlying34 rfl (by kernel_rfl)) rfl ⟨_, rfl, World.ownsRow_nil _ _ _ _, (Below.refl _ _).alloc (Nat.le_refl _) _⟩
  by_cases h1 : (bs.length : Int) ≤ at_
  · rw [readE_neg (.inr h1)]
    go_enter Tryd.func23, Tryd.ntmps23
    go_wp2
    exact bodyPost_ret_by (results_row_tmp (cs := #[.int .i64 0, .int .i64 0, .slice none 0 0, .int .i64 0]) rfl _ _ w.heap.size _ _ _ rfl (heap_alloc_new _ _) Tryd.underlying34 rfl (by kernel_rfl)) rfl ⟨_, rfl, World.ownsRow_nil _ _ _ _, (Below.refl _ _).alloc (Nat.le_refl _) _⟩
  obtain ⟨p, rfl⟩ : ∃ p : Nat, at_ = p := ⟨at_.toNat, by omega⟩
  have hp : p < bs.length := by omega
  obtain ⟨y, rfl, hx⟩ := HC.out p hp
  have hzb := HZ.out (bs.getD p 0) (by rw [List.getD_eq_getElem?_getD, List.getElem?_eq_getElem (by omega)]; simp)
  cases hop : isOp (bs.getD p 0) with
  | false =>
    rw [readE_no hp hop]
    generalize bs.getD p 0 = c at hx hzb hop
    have hxa := cell_later ((Below.refl _ _).alloc (Nat.le_refl _) (.cells #[.int .i64 0, .int .i64 0, .slice none 0 0, .int .i64 0] 34)) hx
    go_enter Tryd.func23, Tryd.ntmps23
    go_wp2_with (go_at_call 41; refine (rof_any _ _).mono ?_; rw [hop]; unfold rowC; rintro e w1 ⟨rfl, hb⟩; have hg := (Below.heap_alloc w1 (.cells (rowC (opR c)) 30) _ (by have := (Array.getElem?_eq_some_iff.1 (kept_new hb)).1; exact this)).trans (kept_new hb); unfold rowC at hg; obtain ⟨q0, q1, q2, q3, qz, ql⟩ := cells4 hg)
    rw [set4_eq hg]
    have hB1 : Below w.heap.size w w1 := ((Below.refl _ _).alloc (Nat.le_refl _) _).trans (hb.mono (by simp))
    exact bodyPost_ret_by (results_row_tmp (cs := #[.int .i64 0, .int .i64 0, .slice none 0 0, .int .i64 0]) rfl _ _ w.heap.size _ _ _ rfl (setRow_heap _ _ _ _ _ _ hg) Tryd.underlying34 rfl (by kernel_rfl)) rfl ⟨_, rfl, World.ownsRow_nil _ _ _ _, below_setRow (hB1.alloc hB1.size _) (Nat.le_refl _) _⟩
  | true =>
    have him := imm_ok _ hzb.1 hzb.2 hop
    have hzd : ∀ z ∈ bs.drop (p + 1), 0 ≤ z ∧ z < 256 := fun z hz => HZ.out z (List.mem_of_mem_drop hz)
    have HN := Lib.hid (readE_none hp hop)
    have HS := Lib.hid (fun n => @readE_short bs p n hp hop)
    have HO := Lib.hid (fun n => @readE_ok bs p n hp hop)
    generalize bs.getD p 0 = c at hx hzb hop him HN HS HO
    have hxa := cell_later ((Below.refl _ _).alloc (Nat.le_refl _) (.cells #[.int .i64 0, .int .i64 0, .slice none 0 0, .int .i64 0] 34)) hx
    go_enter Tryd.func23, Tryd.ntmps23
    go_wp2_with (go_at_call 41; refine stop_r ?_)
    unfold StopR
    refine (rof_any _ _).mono ?_
    rw [hop]
    unfold rowC
    rintro e w1 ⟨rfl, hb⟩
    have hg1 := kept_new hb
    have hB1 : Below w.heap.size w w1 := ((Below.refl _ _).alloc (Nat.le_refl _) _).trans (hb.mono (by simp))
    have hB2 := hB1.alloc hB1.size (.cells #[.int .i64 (opR c).code, .string (opR c).name, .int .i64 (opR c).imm, .int .i64 (opR c).inn, .int .i64 (opR c).out, .int .i64 (opR c).gas, .bool (opR c).ends] 30)
    have hg := (Below.heap_alloc w1 (.cells #[.int .i64 (opR c).code, .string (opR c).name, .int .i64 (opR c).imm, .int .i64 (opR c).inn, .int .i64 (opR c).out, .int .i64 (opR c).gas, .bool (opR c).ends] 30) _ (Array.getElem?_eq_some_iff.1 hg1).1).trans hg1
    have hr := heap_alloc_new w1 (.cells #[.int .i64 (opR c).code, .string (opR c).name, .int .i64 (opR c).imm, .int .i64 (opR c).inn, .int .i64 (opR c).out, .int .i64 (opR c).gas, .bool (opR c).ends] 30)
    obtain ⟨q0, q1, q2, q3, qz, ql⟩ := cells4 hg
    by_cases hm : (opR c).imm = -1
    · rw [hm] at hB2 hg hr q0 q1 q2 q3 qz ql ⊢
      obtain ⟨k0, k1, k2, k3, k4, k5, k6, kz, kl⟩ := cells7 hr
      by_cases hla : bs.length ≤ p + 1
      · have HR := Lib.hid (HN.out (by unfold immL; rw [if_pos hm, if_pos (by rw [List.length_drop]; omega)]))
        have hge : (bs.length : Int) ≤ (p : Int) + 1 := by omega
        go_wp2
        rw [set4_eq hg, HR.out]
        exact bodyPost_ret_by (results_row_tmp (cs := #[.int .i64 0, .int .i64 0, .slice none 0 0, .int .i64 0]) rfl _ _ w.heap.size _ _ _ rfl (setRow_heap _ _ _ _ _ _ hg) Tryd.underlying34 rfl (by kernel_rfl)) rfl ⟨_, rfl, World.ownsRow_nil _ _ _ _, below_setRow hB2 (Nat.le_refl _) _⟩
      · obtain ⟨y', hy', hx'⟩ := HC.out (p + 1) (by omega)
        cases hy'
        have hzr := HZ.out (bs.getD (p + 1) 0) (by rw [List.getD_eq_getElem?_getD, List.getElem?_eq_getElem (by omega)]; simp)
        have e0 : (bs.drop (p + 1)).getD 0 0 = bs.getD (p + 1) 0 := by simp [List.getD_eq_getElem?_getD]
        obtain ⟨m, hmm⟩ : ∃ m : Nat, 3 + 2 * bs.getD (p + 1) 0 = m := ⟨(3 + 2 * bs.getD (p + 1) 0).toNat, by omega⟩
        have him2 : immL (opR c) (bs.drop (p + 1)) = some m := by unfold immL; rw [if_pos hm, if_neg (by rw [List.length_drop]; omega), e0]; congr 1; omega
        generalize bs.getD (p + 1) 0 = z at hx' hzr hmm
        have hxb := cell_later hB2 hx'
        rw [show y.add (p + 1) = ⟨y.block, y.off + (p + 1), none⟩ by unfold Addr.add; rw [if_neg (by omega)]] at hxb
        have hge : ¬ (bs.length : Int) ≤ (p : Int) + 1 := by omega
        have hge2 : (p : Int) + 1 < (bs.length : Int) := by omega
        have hto : ((p : Int) + 1).toNat = p + 1 := by omega
        have hm6 : m ≤ 600 := by omega
        clear e0
        · have h_ := trivial
          by_cases hsh : bs.length < p + 1 + m
          · have HR := Lib.hid (HS.out m him2 hsh)
            have hgt : (bs.length : Int) < (p : Int) + 1 + m := by omega
            go_wp2
            rw [set4_eq hg, HR.out]
            exact bodyPost_ret_by (results_row_tmp (cs := #[.int .i64 0, .int .i64 0, .slice none 0 0, .int .i64 0]) rfl _ _ w.heap.size _ _ _ rfl (setRow_heap _ _ _ _ _ _ hg) Tryd.underlying34 rfl (by kernel_rfl)) rfl ⟨_, rfl, World.ownsRow_nil _ _ _ _, below_setRow hB2 (Nat.le_refl _) _⟩
          · have HR := Lib.hid (HO.out m him2 (by omega))
            have hgt : ¬ (bs.length : Int) < (p : Int) + 1 + m := by omega
            go_wp2
            have hld := cell_later hB2 hx
            have hyb : (y.add p).block ≠ w.heap.size := by have := block_lt_of_cell hx; omega
            generalize hW1 : w1.alloc (.cells #[.int .i64 (opR c).code, .string (opR c).name, .int .i64 (-1), .int .i64 (opR c).inn, .int .i64 (opR c).out, .int .i64 (opR c).gas, .bool (opR c).ends] 30) = W1 at hB2 hg hr hld ⊢
            clear q0 q1 q2 q3 qz ql k0 k1 k2 k3 k4 k5 k6 kz kl
            have HPT := Lib.hid (fun w4 (h4 : Below w.heap.size w w4) => part_next bs (some y) cap p m w4 (ints_below h4 HC.out) hn (by omega))
            have hwc : IntKind.i64.wrap c = c := by rw [IntKind.wrap_i64]; omega
            have hwa : IntKind.i64.wrap ((p : Int) + 1) = (p : Int) + 1 := by rw [IntKind.wrap_i64]; omega
            have hwb : IntKind.i64.wrap ((p : Int) + 1 + m) = (p : Int) + 1 + m := by rw [IntKind.wrap_i64]; omega
            go_region_held3 (fun w' => w'.cell? (y.add p) = some (.int .u8 c)) (first | exact hld | exact cell_later hb5 hld | exact cell_set4 (cell_later hb5 hld) hyb)
              (first | (go_at_call 42; refine (HPT.out _ hB2.drew).mono ?_; rintro e w5 ⟨v, rfl, ho5, hb5⟩; obtain ⟨X5, c5, rfl⟩ := owns_shape ho5; have hg5 := kept_of hb5 (show W1.drew.heap[w.heap.size]? = _ from hg); obtain ⟨q0, q1, q2, q3, qz, ql⟩ := cells4 hg5))
            go_wp2
            rw [set4_eq hg5, HR.out]
            have hl5 : w.heap.size < W1.heap.size := (Array.getElem?_eq_some_iff.1 hg).1
            have hd5 : W1.heap.size ≤ W1.drew.heap.size := Nat.le_refl _
            have hlen : ((bs.drop (p + 1)).take m).length = m := by rw [List.length_take, List.length_drop]; omega
            have ho6 : ∀ vs, (w5.setRow w.heap.size vs).ownsRow w.heap.size 5 1 (.slice X5 m c5) ((bs.drop (p + 1)).take m).length (byteVs ((bs.drop (p + 1)).take m)) := fun vs => by rw [hlen]; exact owns_le (owns_same ho5 (fun g' h' _ => heap_setRow w5 w.heap.size g' _ (by omega))) (by omega)
            have hB5 : Below w.heap.size w w5 := hB2.drew.trans (hb5.mono hB2.drew.size)
            exact bodyPost_ret_by (results_row_tmp (cs := #[.int .i64 (p : Int), .int .i64 c, .slice X5 m c5, .int .i64 ((p : Int) + 1 + m)]) rfl _ _ w.heap.size _ _ _ rfl (setRow_heap _ _ _ _ _ _ hg5) Tryd.underlying34 rfl (by kernel_rfl)) rfl ⟨.slice X5 m c5, rfl, ho6 _, below_setRow hB5 (Nat.le_refl _) _⟩
    · obtain ⟨m, hmm⟩ : ∃ m : Nat, (opR c).imm = m := ⟨(opR c).imm.toNat, by omega⟩
      have him2 : immL (opR c) (bs.drop (p + 1)) = some m := by unfold immL; rw [if_neg hm, hmm]; simp
      have hm6 : m ≤ 600 := by omega
      rw [hmm] at hB2 hg hr q0 q1 q2 q3 qz ql ⊢
      obtain ⟨k0, k1, k2, k3, k4, k5, k6, kz, kl⟩ := cells7 hr
      · have h_ := trivial
        by_cases hsh : bs.length < p + 1 + m
        · have HR := Lib.hid (HS.out m him2 hsh)
          have hgt : (bs.length : Int) < (p : Int) + 1 + m := by omega
          go_wp2
          rw [set4_eq hg, HR.out]
          exact bodyPost_ret_by (results_row_tmp (cs := #[.int .i64 0, .int .i64 0, .slice none 0 0, .int .i64 0]) rfl _ _ w.heap.size _ _ _ rfl (setRow_heap _ _ _ _ _ _ hg) Tryd.underlying34 rfl (by kernel_rfl)) rfl ⟨_, rfl, World.ownsRow_nil _ _ _ _, below_setRow hB2 (Nat.le_refl _) _⟩
        · have HR := Lib.hid (HO.out m him2 (by omega))
          have hgt : ¬ (bs.length : Int) < (p : Int) + 1 + m := by omega
          go_wp2
          have hld := cell_later hB2 hx
          have hyb : (y.add p).block ≠ w.heap.size := by have := block_lt_of_cell hx; omega
          generalize hW1 : w1.alloc (.cells #[.int .i64 (opR c).code, .string (opR c).name, .int .i64 (m : Int), .int .i64 (opR c).inn, .int .i64 (opR c).out, .int .i64 (opR c).gas, .bool (opR c).ends] 30) = W1 at hB2 hg hr hld ⊢
          clear q0 q1 q2 q3 qz ql k0 k1 k2 k3 k4 k5 k6 kz kl
          have HPT := Lib.hid (fun w4 (h4 : Below w.heap.size w w4) => part_next bs (some y) cap p m w4 (ints_below h4 HC.out) hn (by omega))
          have hwc : IntKind.i64.wrap c = c := by rw [IntKind.wrap_i64]; omega
          have hwa : IntKind.i64.wrap ((p : Int) + 1) = (p : Int) + 1 := by rw [IntKind.wrap_i64]; omega
          have hwb : IntKind.i64.wrap ((p : Int) + 1 + m) = (p : Int) + 1 + m := by rw [IntKind.wrap_i64]; omega
          go_region_held3 (fun w' => w'.cell? (y.add p) = some (.int .u8 c)) (first | exact hld | exact cell_later hb5 hld | exact cell_set4 (cell_later hb5 hld) hyb)
            (first | (go_at_call 42; refine (HPT.out _ hB2.drew).mono ?_; rintro e w5 ⟨v, rfl, ho5, hb5⟩; obtain ⟨X5, c5, rfl⟩ := owns_shape ho5; have hg5 := kept_of hb5 (show W1.drew.heap[w.heap.size]? = _ from hg); obtain ⟨q0, q1, q2, q3, qz, ql⟩ := cells4 hg5))
          go_wp2
          rw [set4_eq hg5, HR.out]
          have hl5 : w.heap.size < W1.heap.size := (Array.getElem?_eq_some_iff.1 hg).1
          have hd5 : W1.heap.size ≤ W1.drew.heap.size := Nat.le_refl _
          have hlen : ((bs.drop (p + 1)).take m).length = m := by rw [List.length_take, List.length_drop]; omega
          have ho6 : ∀ vs, (w5.setRow w.heap.size vs).ownsRow w.heap.size 5 1 (.slice X5 m c5) ((bs.drop (p + 1)).take m).length (byteVs ((bs.drop (p + 1)).take m)) := fun vs => by rw [hlen]; exact owns_le (owns_same ho5 (fun g' h' _ => heap_setRow w5 w.heap.size g' _ (by omega))) (by omega)
          have hB5 : Below w.heap.size w w5 := hB2.drew.trans (hb5.mono hB2.drew.size)
          exact bodyPost_ret_by (results_row_tmp (cs := #[.int .i64 (p : Int), .int .i64 c, .slice X5 m c5, .int .i64 ((p : Int) + 1 + m)]) rfl _ _ w.heap.size _ _ _ rfl (setRow_heap _ _ _ _ _ _ hg5) Tryd.underlying34 rfl (by kernel_rfl)) rfl ⟨.slice X5 m c5, rfl, ho6 _, below_setRow hB5 (Nat.le_refl _) _⟩
end Go.Proofs.YthjnjdpiihpgeaaDoor
