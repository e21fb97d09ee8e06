/- code.read and code.One: one instruction, read from bytes. -/
import Derived.Test.YtfjmdffhfjnopaaDoorCodeA
namespace Go.Proofs.YtfjmdffhfjnopaaDoor
open Go.RowKit Vouch Go.Vk Go.Sort
theorem code_ok (c : Int) (h0 : 0 ≤ c) (h1 : c < 256) (h : isOp c = true) : (opR c).code = c := by
  have : ∀ i : Fin 256, isOp (i.1 : Int) = true → decide ((opR (i.1 : Int)).code = (i.1 : Int)) = true := by decide +kernel
  have hc : ((c.toNat : Nat) : Int) = c := by omega
  have := this ⟨c.toNat, by omega⟩ (by rw [hc]; exact h)
  rw [hc] at this
  simpa using this
theorem readE_neg {bs : List Int} {a : Int} (h : a < 0 ∨ (bs.length : Int) ≤ a) : readE bs a = (1, zeroI) := by unfold readE; rw [if_pos h]
theorem readE_no {bs : List Int} {p : Nat} (h : p < bs.length) (ho : isOp (bs.getD p 0) = false) : readE bs (p : Int) = (60, zeroI) := by
  unfold readE
  rw [if_neg (by omega), Int.toNat_natCast, if_pos ho]
theorem readE_none {bs : List Int} {p : Nat} (h : p < bs.length) (ho : isOp (bs.getD p 0) = true) (hl : immL (opR (bs.getD p 0)) (bs.drop (p + 1)) = none) : readE bs (p : Int) = (61, zeroI) := by
  unfold readE
  rw [if_neg (by omega), Int.toNat_natCast, if_neg (by rw [ho]; simp), hl]
theorem readE_short {bs : List Int} {p n : Nat} (h : p < bs.length) (ho : isOp (bs.getD p 0) = true) (hl : immL (opR (bs.getD p 0)) (bs.drop (p + 1)) = some n) (hn : bs.length < p + 1 + n) : readE bs (p : Int) = (61, zeroI) := by
  unfold readE
  rw [if_neg (by omega), Int.toNat_natCast, if_neg (by rw [ho]; simp), hl]
  dsimp only
  rw [if_pos hn]
theorem readE_ok {bs : List Int} {p n : Nat} (h : p < bs.length) (ho : isOp (bs.getD p 0) = true) (hl : immL (opR (bs.getD p 0)) (bs.drop (p + 1)) = some n) (hn : p + 1 + n ≤ bs.length) :
    readE bs (p : Int) = (0, ⟨p, bs.getD p 0, (bs.drop (p + 1)).take n, p + 1 + n⟩) := by
  unfold readE
  rw [if_neg (by omega), Int.toNat_natCast, if_neg (by rw [ho]; simp), hl]
  dsimp only
  rw [if_neg (by omega)]
theorem length_cut (r : OpRow) (A : Option Addr) (cap q : Nat) (bs : List Int) (w : World) (hc : IntsAt w .u8 A (bs.drop q)) (hz : ∀ z ∈ bs, 0 ≤ z ∧ z < 256) (hn : bs.length ≤ 140737488355328) :
    Calls Tryd.prog 60 #[.agg (rowC r), .slice A (bs.length - q) cap] w fun e w' => e = .returned (.tuple #[.int .i64 (lenV r (bs.drop q)).1, .bool (lenV r (bs.drop q)).2]) ∧ Below w.heap.size w w' := by
  have := length_any r A cap (bs.drop q) w hc (fun z hz' => hz z (List.mem_of_mem_drop hz')) (by rw [List.length_drop]; omega)
  rwa [List.length_drop] at this
theorem lenV_cases (r : OpRow) (z : List Int) (hz : ∀ x ∈ z, 0 ≤ x ∧ x < 256) (h0 : -1 ≤ r.imm) (h1 : r.imm ≤ 32) : (lenV r z = (0, false) ∧ immL r z = none) ∨ ∃ m : Nat, lenV r z = ((m : Int), true) ∧ immL r z = some m ∧ m ≤ 600 := by
  unfold lenV immL
  by_cases h : r.imm = -1
  · rw [if_pos h, if_pos h]
    by_cases hl : z.length = 0
    · rw [if_pos hl, if_pos hl]; exact .inl ⟨rfl, rfl⟩
    · rw [if_neg hl, if_neg hl]
      have := hz (z.getD 0 0) (by rw [List.getD_eq_getElem?_getD, List.getElem?_eq_getElem (by omega)]; simp)
      exact .inr ⟨(2 * z.getD 0 0 + 3).toNat, by rw [Int.toNat_of_nonneg (by omega)], rfl, by omega⟩
  · rw [if_neg h, if_neg h]
    exact .inr ⟨r.imm.toNat, by rw [Int.toNat_of_nonneg (by omega)], rfl, by omega⟩
theorem madeCells_list (m : Nat) : madeCells #[Value.int .u8 0] m = (List.replicate m (Value.int .u8 0)).toArray := by
  apply Array.ext_getElem?
  intro i
  simp only [madeCells, List.getElem?_toArray]
  simp [List.getElem?_replicate, Nat.mod_one]
  by_cases h : i < m
  · simp [h]
  · simp [h]
theorem splice_full {α : Type} (L cs : List α) (h : L.length = cs.length) : splice L 0 cs = cs := by
  unfold splice
  simp [h]
theorem owns_bytes {w : World} {B g m : Nat} {zs : List Int} (hg : w.heap[g]? = some (.cells (byteVs zs).toArray 5 (0, 0))) (hB : B ≤ g) (hl : zs.length = m) (hm : m ≤ 1000) : w.ownsRow B 5 1 (.slice (some ⟨g, 0, none⟩) m m) m (byteVs zs) :=
  ⟨by unfold byteVs; simp [hl], .inr ⟨g, m, _, rfl, hB, hg, Nat.le_refl _, by unfold maxLen; omega, by unfold byteVs; simp [hl], by unfold byteVs; show List.take (m * 1) (List.map (Value.int .u8) zs) = _; exact List.take_of_length_le (by simp [hl])⟩⟩
theorem bytes_one {zs : List Int} : ∀ v ∈ byteVs zs, v.oneCell' = true := by
  intro v hv
  obtain ⟨z, _, rfl⟩ := List.mem_map.1 hv
  rfl
theorem bytes_src {w : World} {y : Addr} {zs : List Int} (h : IntsAt w .u8 (some y) zs) : ∀ j v, (byteVs zs)[j]? = some v → w.cell? (y.add j) = some v := by
  intro j v hv
  unfold byteVs at hv
  rw [List.getElem?_map] at hv
  obtain ⟨z, hz, rfl⟩ := Option.map_eq_some_iff.1 hv
  have hj := (List.getElem?_eq_some_iff.1 hz).1
  obtain ⟨x, hx, hc⟩ := h j hj
  cases hx
  rw [hc, List.getD_eq_getElem?_getD, hz]
  rfl
theorem copy_new (W : World) (m sLen sCap : Nat) (a : Addr) (zs : List Int) (hm : zs.length = m) (hs : m ≤ sLen) (hsrc : IntsAt W .u8 (some a) zs) :
    ∃ W3, (Builtin.copy_ #[23, 23] 3 #[.slice (some ⟨W.heap.size, 0, none⟩) m m, .slice (some a) sLen sCap]).run Tryd.prog (W.alloc (.cells (madeCells #[.int .u8 0] m) 5)) = .ok (goInt m) W3 ∧ W3.heap[W.heap.size]? = some (.cells (byteVs zs).toArray 5 (0, 0)) ∧ Below W.heap.size W W3 := by
  have hg : (W.alloc (.cells (madeCells #[.int .u8 0] m) 5)).heap[W.heap.size]? = some (.cells (madeCells #[.int .u8 0] m) 5 (0, 0)) := heap_alloc_new _ _
  have hb := ((Below.refl W.heap.size W).alloc (Nat.le_refl _) (.cells (madeCells #[.int .u8 0] m) 5))
  have hl : (byteVs zs).length = m := by unfold byteVs; simp [hm]
  have := run_copy_row (P := Tryd.prog) (W.alloc (.cells (madeCells #[.int .u8 0] m) 5)) 23 23 3 5 W.heap.size 0 m m a sLen sCap _ 5 (byteVs zs) Tryd.underlying23 (by kernel_rfl) hg (by rw [hl]; exact (Nat.min_eq_right hs).symm) (bytes_src (ints_below hb hsrc)) (by rw [hl, madeCells_list]; simp) bytes_one
  rw [hl] at this
  refine ⟨_, this, ?_, ?_⟩
  · rw [setRow_heap _ _ _ _ _ _ hg]
    have e : (madeCells #[Value.int .u8 0] m).toList.length = m := by rw [madeCells_list]; simp
    simp [e]
  · exact below_setRow hb (Nat.le_refl _) _
def noIns : Value := .agg #[.int .i64 0, .int .i64 0, .slice none 0 0, .int .i64 0]
set_option maxHeartbeats 400000 in
set_option maxRecDepth 100000 in
theorem read_any (bs : List Int) (A : Option Addr) (cap : Nat) (at_ : Int) (w : World) (hc : IntsAt w .u8 A bs) (hz : ∀ z ∈ bs, 0 ≤ z ∧ z < 256) (hn : bs.length ≤ 140737488355328) (hcap : bs.length ≤ cap) :
    Calls Tryd.prog 46 #[.slice A bs.length cap, .int .i64 at_] w fun e w' => ∃ v, e = .returned (.tuple #[insV (readE bs at_).2 v, .int .i64 (readE bs at_).1]) ∧ w'.ownsRow w.heap.size 5 1 v (readE bs at_).2.imm.length (byteVs (readE bs at_).2.imm) ∧ Below w.heap.size w w' := by
  have HC := Lib.hid hc
  have HZ := Lib.hid hz
  clear hc hz
  by_cases h0 : at_ < 0
  · rw [readE_neg (.inl h0)]
    go_enter Tryd.func46, Tryd.ntmps46
    go_wp2
    exact bodyPost_ret_by (results_row_tmp (cs := #[.int .i64 0, .int .i64 0, .slice none 0 0, .int .i64 0]) rfl _ _ w.heap.size _ _ _ rfl (heap_alloc_new _ _) Tryd.underlying42 rfl (by kernel_rfl)) rfl ⟨_, rfl, World.ownsRow_nil _ _ _ _, (Below.refl _ _).alloc (Nat.le_refl _) _⟩
  by_cases h1 : (bs.length : Int) ≤ at_
  · rw [readE_neg (.inr h1)]
    go_enter Tryd.func46, Tryd.ntmps46
    go_wp2
    exact bodyPost_ret_by (results_row_tmp (cs := #[.int .i64 0, .int .i64 0, .slice none 0 0, .int .i64 0]) rfl _ _ w.heap.size _ _ _ rfl (heap_alloc_new _ _) Tryd.underlying42 rfl (by kernel_rfl)) rfl ⟨_, rfl, World.ownsRow_nil _ _ _ _, (Below.refl _ _).alloc (Nat.le_refl _) _⟩
  obtain ⟨p, rfl⟩ : ∃ p : Nat, at_ = p := ⟨at_.toNat, by omega⟩
  have hp : p < bs.length := by omega
  obtain ⟨y, rfl, hx⟩ := HC.out p hp
  have hzb := HZ.out (bs.getD p 0) (by rw [List.getD_eq_getElem?_getD, List.getElem?_eq_getElem (by omega)]; simp)
  cases hop : isOp (bs.getD p 0) with
  | false =>
    rw [readE_no hp hop]
    generalize bs.getD p 0 = c at hx hzb hop
    have hxa := cell_later ((Below.refl _ _).alloc (Nat.le_refl _) (.cells #[.int .i64 0, .int .i64 0, .slice none 0 0, .int .i64 0] 42)) hx
    go_enter Tryd.func46, Tryd.ntmps46
    go_wp2_with (go_at_call 40; refine (of_any _ _).mono ?_; rw [hop]; unfold rowC; rintro e w1 ⟨rfl, hb⟩; have hg := (Below.heap_alloc w1 (.cells (rowC (opR c)) 82) _ (by have := (Array.getElem?_eq_some_iff.1 (kept_new hb)).1; exact this)).trans (kept_new hb); unfold rowC at hg; obtain ⟨q0, q1, q2, q3, qz, ql⟩ := cells4 hg)
    rw [set4_eq hg]
    have hB1 : Below w.heap.size w w1 := ((Below.refl _ _).alloc (Nat.le_refl _) _).trans (hb.mono (by simp))
    exact bodyPost_ret_by (results_row_tmp (cs := #[.int .i64 0, .int .i64 0, .slice none 0 0, .int .i64 0]) rfl _ _ w.heap.size _ _ _ rfl (setRow_heap _ _ _ _ _ _ hg) Tryd.underlying42 rfl (by kernel_rfl)) rfl ⟨_, rfl, World.ownsRow_nil _ _ _ _, below_setRow (hB1.alloc hB1.size _) (Nat.le_refl _) _⟩
  | true =>
    have him := imm_ok _ hzb.1 hzb.2 hop
    have hco := Lib.hid (code_ok _ hzb.1 hzb.2 hop)
    have HN := Lib.hid (readE_none hp hop)
    have HS := Lib.hid (fun n => @readE_short bs p n hp hop)
    have HO := Lib.hid (fun n => @readE_ok bs p n hp hop)
    generalize bs.getD p 0 = c at hx hzb hop him hco HN HS HO
    have hxa := cell_later ((Below.refl _ _).alloc (Nat.le_refl _) (.cells #[.int .i64 0, .int .i64 0, .slice none 0 0, .int .i64 0] 42)) hx
    go_enter Tryd.func46, Tryd.ntmps46
    go_wp2_with (go_at_call 40; refine (of_any _ _).mono ?_; rw [hop]; unfold rowC; rintro e w1 ⟨rfl, hb⟩; have hg := (Below.heap_alloc w1 (.cells (rowC (opR c)) 82) _ (by have := (Array.getElem?_eq_some_iff.1 (kept_new hb)).1; exact this)).trans (kept_new hb); unfold rowC at hg; obtain ⟨q0, q1, q2, q3, qz, ql⟩ := cells4 hg)
    have hB1 : Below w.heap.size w w1 := ((Below.refl _ _).alloc (Nat.le_refl _) _).trans (hb.mono (by simp))
    have hB2 := hB1.alloc hB1.size (.cells (rowC (opR c)) 82)
    have hr : (w1.alloc (.cells (rowC (opR c)) 82)).heap[w1.heap.size]? = some (.cells (rowC (opR c)) 82) := heap_alloc_new _ _
    unfold rowC at hB2 hr
    generalize (w1.alloc (.cells #[.int .i64 (opR c).code, .string (opR c).name, .int .i64 (opR c).imm, .int .i64 (opR c).inn, .int .i64 (opR c).out, .int .i64 (opR c).gas, .bool (opR c).ends] 82)) = W1 at hg q0 q1 q2 q3 qz ql hB2 hr ⊢
    obtain ⟨k0, k1, k2, k3, k4, k5, k6, kz, kl⟩ := cells7 hr
    have u0 := fun d os => cell_regrown k0 d os
    have u1 := fun d os => cell_regrown k1 d os
    have u2 := fun d os => cell_regrown k2 d os
    have u3 := fun d os => cell_regrown k3 d os
    have u4 := fun d os => cell_regrown k4 d os
    have u5 := fun d os => cell_regrown k5 d os
    have u6 := fun d os => cell_regrown k6 d os
    have hle1 : (p : Int) + 1 ≤ bs.length := by omega
    have hle2 : (0 : Int) ≤ (p : Int) + 1 := by omega
    have hle3 : ((p : Int) + 1).toNat = p + 1 := by omega
    have hw1 : IntKind.i64.wrap ((p : Int) + 1) = (p : Int) + 1 := by rw [IntKind.wrap_i64]; omega
    by_cases hlast : cap = p + 1
    · have hbl : bs.length = p + 1 := by omega
      have hdr : bs.drop (p + 1) = [] := List.drop_eq_nil_of_le (by omega)
      rw [hdr] at HN HS HO
      have uN := fun d os => calls_grown (w := W1) (fun w2 _ => length_any (opR c) (some y) 0 [] w2 (ints_nil _ _ _) (by simp) (by simp)) d os
      unfold rowC at uN
      refine wp_region_quiet_below (by kernel_rfl) (by kernel_rfl) ?_
      repeat (refine wpQuiet_step (fun K hK => ?_); go_simp; first | (refine hK _ ?_; clear hK K) | (apply Exists.intro; refine ⟨fun _ => ?_, hK _ ?_⟩; exact uN _ _; clear hK K))
      refine wpQuiet_nil ?_
      rintro _ ⟨pp, rfl⟩
      have hb3 := below_regrown W1 pp.d pp.os
      generalize grow (redrawn W1 pp.d) pp.os = W2 at hb3 ⊢
      clear u0 u1 u2 u3 u4 u5 u6 uN q0 q1 q2 q3 qz ql k0 k1 k2 k3 k4 k5 k6 kz kl
      have hg2 := kept_of hb3 hg
      have hr2 := kept_of hb3 hr
      have hB3 := hB2.trans (hb3.mono hB2.size)
      obtain ⟨q0, q1, q2, q3, qz, ql⟩ := cells4 hg2
      obtain ⟨k0, k1, k2, k3, k4, k5, k6, kz, kl⟩ := cells7 hr2
      rcases lenV_cases (opR c) [] (by simp) him.1 him.2 with ⟨e1, e2⟩ | ⟨m, e1, e2, hm⟩
      · rw [e1]
        have HR := Lib.hid (HN.out e2)
        go_wp2
        rw [set4_eq hg2, HR.out]
        exact bodyPost_ret_by (results_row_tmp (cs := #[.int .i64 0, .int .i64 0, .slice none 0 0, .int .i64 0]) rfl _ _ w.heap.size _ _ _ rfl (setRow_heap _ _ _ _ _ _ hg2) Tryd.underlying42 rfl (by kernel_rfl)) rfl ⟨_, rfl, World.ownsRow_nil _ _ _ _, below_setRow hB3 (Nat.le_refl _) _⟩
      · rw [e1]
        by_cases hsh : bs.length < p + 1 + m
        · have HR := Lib.hid (HS.out m e2 hsh)
          have hlt : (bs.length : Int) - p - 1 < m := by omega
          go_wp2
          rw [set4_eq hg2, HR.out]
          exact bodyPost_ret_by (results_row_tmp (cs := #[.int .i64 0, .int .i64 0, .slice none 0 0, .int .i64 0]) rfl _ _ w.heap.size _ _ _ rfl (setRow_heap _ _ _ _ _ _ hg2) Tryd.underlying42 rfl (by kernel_rfl)) rfl ⟨_, rfl, World.ownsRow_nil _ _ _ _, below_setRow hB3 (Nat.le_refl _) _⟩
        · have HR := Lib.hid (HO.out m e2 (by omega))
          have hlt : ¬ (bs.length : Int) - p - 1 < m := by omega
          have hmk := run_make_row' (P := Tryd.prog) 23 5 (.int .u8 0) 1 Tryd.underlying23 (by kernel_rfl) rfl .i64 .i64 m (by omega) (by omega)
          have hzl : (([] : List Int).take m).length = m := by simp; omega
          obtain ⟨W3, hcp, hg3, hb4⟩ := copy_new W2 m 0 0 y (([] : List Int).take m) hzl (by omega) (ints_take (ints_nil _ _ _) m)
          have hg4 := kept_of hb4 hg2
          have hr4 := kept_of hb4 hr2
          have hB4 := hB3.trans (hb4.mono hB3.size)
          clear q0 q1 q2 q3 qz ql k0 k1 k2 k3 k4 k5 k6 kz kl
          obtain ⟨q0, q1, q2, q3, qz, ql⟩ := cells4 hg4
          obtain ⟨k0, k1, k2, k3, k4, k5, k6, kz, kl⟩ := cells7 hr4
          go_wp2
          rw [set4_eq hg4, HR.out]
          refine bodyPost_ret_by (results_row_tmp (cs := #[.int .i64 (p : Int), .int .i64 (opR c).code, .slice (some ⟨W2.heap.size, 0, none⟩) m m, .int .i64 ((p : Int) + 1 + m)]) rfl _ _ w.heap.size _ _ _ rfl (setRow_heap _ _ _ _ _ _ hg4) Tryd.underlying42 rfl (by kernel_rfl)) rfl ⟨.slice (some ⟨W2.heap.size, 0, none⟩) m m, ?_, ?_, below_setRow hB4 (Nat.le_refl _) _⟩
          · rw [hco.out]; rfl
          · show World.ownsRow _ w.heap.size 5 1 _ (([] : List Int).take m).length (byteVs (([] : List Int).take m))
            rw [hzl]
            exact owns_bytes ((heap_setRow _ _ _ _ (by have := (Array.getElem?_eq_some_iff.1 hg2).1; omega)).trans hg3) hB3.size hzl (by omega)
    · have HA := Lib.hid (show IntsAt w .u8 (some (y.add (p + 1))) (bs.drop (p + 1)) from ints_drop HC.out (p + 1))
      have uN := fun A' cap' (hA : IntsAt w .u8 A' (bs.drop (p + 1))) d os => calls_grown (w := W1) (fun w2 hb2 => length_cut (opR c) A' cap' (p + 1) bs w2 (ints_below hb2 (ints_below hB2 hA)) HZ.out hn) d os
      unfold rowC at uN
      refine wp_region_quiet_below (by kernel_rfl) (by kernel_rfl) ?_
      repeat (refine wpQuiet_step (fun K hK => ?_); go_simp; first | (refine hK _ ?_; clear hK K) | (apply Exists.intro; refine ⟨fun _ => ?_, hK _ ?_⟩; exact uN _ _ HA.out _ _; clear hK K))
      refine wpQuiet_nil ?_
      rintro _ ⟨pp, rfl⟩
      have hb3 := below_regrown W1 pp.d pp.os
      generalize grow (redrawn W1 pp.d) pp.os = W2 at hb3 ⊢
      clear u0 u1 u2 u3 u4 u5 u6 uN q0 q1 q2 q3 qz ql k0 k1 k2 k3 k4 k5 k6 kz kl
      have hg2 := kept_of hb3 hg
      have hr2 := kept_of hb3 hr
      have hB3 := hB2.trans (hb3.mono hB2.size)
      obtain ⟨q0, q1, q2, q3, qz, ql⟩ := cells4 hg2
      obtain ⟨k0, k1, k2, k3, k4, k5, k6, kz, kl⟩ := cells7 hr2
      rcases lenV_cases (opR c) (bs.drop (p + 1)) (fun z hz => HZ.out z (List.mem_of_mem_drop hz)) him.1 him.2 with ⟨e1, e2⟩ | ⟨m, e1, e2, hm⟩
      · rw [e1]
        have HR := Lib.hid (HN.out e2)
        go_wp2
        rw [set4_eq hg2, HR.out]
        exact bodyPost_ret_by (results_row_tmp (cs := #[.int .i64 0, .int .i64 0, .slice none 0 0, .int .i64 0]) rfl _ _ w.heap.size _ _ _ rfl (setRow_heap _ _ _ _ _ _ hg2) Tryd.underlying42 rfl (by kernel_rfl)) rfl ⟨_, rfl, World.ownsRow_nil _ _ _ _, below_setRow hB3 (Nat.le_refl _) _⟩
      · rw [e1]
        by_cases hsh : bs.length < p + 1 + m
        · have HR := Lib.hid (HS.out m e2 hsh)
          have hlt : (bs.length : Int) - p - 1 < m := by omega
          go_wp2
          rw [set4_eq hg2, HR.out]
          exact bodyPost_ret_by (results_row_tmp (cs := #[.int .i64 0, .int .i64 0, .slice none 0 0, .int .i64 0]) rfl _ _ w.heap.size _ _ _ rfl (setRow_heap _ _ _ _ _ _ hg2) Tryd.underlying42 rfl (by kernel_rfl)) rfl ⟨_, rfl, World.ownsRow_nil _ _ _ _, below_setRow hB3 (Nat.le_refl _) _⟩
        · have HR := Lib.hid (HO.out m e2 (by omega))
          have hlt : ¬ (bs.length : Int) - p - 1 < m := by omega
          have hmk := run_make_row' (P := Tryd.prog) 23 5 (.int .u8 0) 1 Tryd.underlying23 (by kernel_rfl) rfl .i64 .i64 m (by omega) (by omega)
          have hzl : ((bs.drop (p + 1)).take m).length = m := by rw [List.length_take, List.length_drop]; omega
          obtain ⟨W3, hcp, hg3, hb4⟩ := copy_new W2 m (bs.length - (p + 1)) (cap - (p + 1)) ⟨y.block, y.off + (p + 1), none⟩ ((bs.drop (p + 1)).take m) hzl (by omega) (ints_take (ints_below hB3 HA.out) m)
          have hg4 := kept_of hb4 hg2
          have hr4 := kept_of hb4 hr2
          have hB4 := hB3.trans (hb4.mono hB3.size)
          clear q0 q1 q2 q3 qz ql k0 k1 k2 k3 k4 k5 k6 kz kl
          obtain ⟨q0, q1, q2, q3, qz, ql⟩ := cells4 hg4
          obtain ⟨k0, k1, k2, k3, k4, k5, k6, kz, kl⟩ := cells7 hr4
          go_wp2
          rw [set4_eq hg4, HR.out]
          refine bodyPost_ret_by (results_row_tmp (cs := #[.int .i64 (p : Int), .int .i64 (opR c).code, .slice (some ⟨W2.heap.size, 0, none⟩) m m, .int .i64 ((p : Int) + 1 + m)]) rfl _ _ w.heap.size _ _ _ rfl (setRow_heap _ _ _ _ _ _ hg4) Tryd.underlying42 rfl (by kernel_rfl)) rfl ⟨.slice (some ⟨W2.heap.size, 0, none⟩) m m, ?_, ?_, below_setRow hB4 (Nat.le_refl _) _⟩
          · rw [hco.out]; rfl
          · show World.ownsRow _ w.heap.size 5 1 _ ((bs.drop (p + 1)).take m).length (byteVs ((bs.drop (p + 1)).take m))
            rw [hzl]
            exact owns_bytes ((heap_setRow _ _ _ _ (by have := (Array.getElem?_eq_some_iff.1 hg2).1; omega)).trans hg3) hB3.size hzl (by omega)
end Go.Proofs.YtfjmdffhfjnopaaDoor
