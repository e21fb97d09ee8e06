/- vouchlaw7.list: the instructions of a section, by code.All's iterator with a function of its own. -/
import Derived.Test.YtfjmdffhfjnopaaDoorFlowH
namespace Go.Proofs.YtfjmdffhfjnopaaDoor
open Go.RowKit Vouch Go.Vk Go.Sort
theorem apart_of {W : World} {a b : Nat} {ca cb : Array Value} {ta tb : TypeId} (ha : W.heap[a]? = some (.cells ca ta (0, 0))) (hb : W.heap[b]? = some (.cells cb tb (0, 0))) (h : ta ≠ tb) : a ≠ b := fun e => by
  subst e
  rw [ha] at hb
  cases hb
  exact h rfl
/-- What list knows, while the iterator runs. -/
structure LInv (bs : List Int) (w0 : World) (B lc bc g : Nat) (bv : Value) (pre : List El) (W : World) : Prop where
  row : ∃ lv, W.heap[lc]? = some (.cells #[lv] 32 (0, 0)) ∧ W.ownsRow B 42 4 lv pre.length (insCells pre)
  rows : RowsAt B pre W
  held : HeldAt bs B g W
  ptr : W.heap[bc]? = some (.cells #[bv] 23 (0, 0))
  below : Below w0.heap.size w0 W
  low : w0.heap.size ≤ B ∧ w0.heap.size ≤ lc ∧ B ≤ W.heap.size
theorem linv_below {bs : List Int} {w0 : World} {B lc bc g : Nat} {bv : Value} {pre : List El} {W W' : World} (h : LInv bs w0 B lc bc g bv pre W) (hb : Below W.heap.size W W') : LInv bs w0 B lc bc g bv pre W' := by
  obtain ⟨lv, h1, h2⟩ := h.row
  obtain ⟨q, a1, a2, a3, a4⟩ := h.held
  have hs := hb.size
  exact ⟨⟨lv, kept_of hb h1, own_below h2 hb⟩, fun x hx => own_below (h.rows x hx) hb, ⟨q, a1, a2, kept_of hb a3, kept_of hb a4⟩, kept_of hb h.ptr, h.below.trans (hb.mono h.below.size), h.low.1, h.low.2.1, by have := h.low.2.2; omega⟩
set_option maxHeartbeats 1000000 in
set_option maxRecDepth 100000 in
theorem list1_any (bs : List Int) (w0 : World) (B lc bc g : Nat) (A : Option Addr) (cap : Nat) (pre : List El) (i : Ins) (X : Option Addr) (c : Nat) (W : World) (o : Obj) (h : LInv bs w0 B lc bc g (.slice A bs.length cap) pre W) (hv : W.ownsRow B 5 1 (.slice X i.imm.length c) i.imm.length (byteVs i.imm))
    (hlen : pre.length + 1 ≤ bs.length) (hn : bs.length ≤ 1048600) :
    Calls Tryd.prog 42 #[insV i (.slice X i.imm.length c), .pointer (some ⟨lc, 0, none⟩), .pointer (some ⟨bc, 0, none⟩)] (W.alloc o) fun e W' => e = .returned (.bool true) ∧ LInv bs w0 B lc bc g (.slice A bs.length cap) (pre ++ [(i, .slice X i.imm.length c)]) W' ∧ W'.heap[W.heap.size]? = some o := by
  obtain ⟨i0, hi, hz0, hz1, hz2⟩ := info_parts infoIns
  obtain ⟨lv, h1, h2⟩ := h.row
  obtain ⟨L, cl, rfl⟩ := owns_shape h2
  have hls := (Array.getElem?_eq_some_iff.1 h1).1
  have hb3 : Below W.heap.size W (((W.alloc o).alloc (.cells #[.int .i64 i.at_, .int .i64 i.code, .slice X i.imm.length c, .int .i64 i.next] 42)).alloc (.cells #[.int .i64 i.at_, .int .i64 i.code, .slice X i.imm.length c, .int .i64 i.next] 42)) :=
    (((Below.refl _ _).alloc (Nat.le_refl _) _).alloc (by simp) _).alloc (by simp; omega) _
  have hb2 : Below W.heap.size W ((W.alloc o).alloc (.cells #[.int .i64 i.at_, .int .i64 i.code, .slice X i.imm.length c, .int .i64 i.next] 42)) := ((Below.refl _ _).alloc (Nat.le_refl _) _).alloc (by simp) _
  have l2 := cell_of1 (kept_of hb2 h1)
  have p2 := cell_of1 (kept_of hb2 h.ptr)
  obtain ⟨q0, q1, q2, q3, qz, ql⟩ := cells4 (heap_alloc_at (W.alloc o) (.cells #[.int .i64 i.at_, .int .i64 i.code, .slice X i.imm.length c, .int .i64 i.next] 42) (W.heap.size + 1) (by simp))
  have H := Lib.hid h
  have HV := Lib.hid hv
  have HO := Lib.hid (own_below h2 hb3)
  have H1 := Lib.hid (kept_of hb3 h1)
  have HB3 := Lib.hid hb3
  have ho0 : (((W.alloc o).alloc (.cells #[.int .i64 i.at_, .int .i64 i.code, .slice X i.imm.length c, .int .i64 i.next] 42)).alloc (.cells #[.int .i64 i.at_, .int .i64 i.code, .slice X i.imm.length c, .int .i64 i.next] 42)).heap[W.heap.size]? = some o := heap_alloc_before (heap_alloc_before (heap_alloc_new W o) _) _
  have HO0 := Lib.hid ho0
  obtain ⟨l20, l21⟩ := l2
  obtain ⟨p20, p21⟩ := p2
  clear h hv h1 h2 hb3 hb2 ho0
  obtain ⟨at_, code, imm, next⟩ := i
  unfold insV
  dsimp only at *
  go_enter Tryd.func42, Tryd.ntmps42
  go_wp2_with (at_builtin; refine wpList_append_own _ rfl _ _ 32 rfl B 42 i0 (.agg #[.int .i64 0, .int .i64 0, .slice none 0 0, .int .i64 0]) 4 48 Tryd.underlying32 hi hz0 hz1 hz2 rfl (by decide) _ _ _ rfl HO.out ⟨W.heap.size + 1 + 1, 0, none⟩ 1 1 [.int .i64 at_, .int .i64 code, .slice X imm.length c, .int .i64 next] rfl rfl ?a1 ?a2 ?a3 ?a4 ?a5 ?_)
  case a1 => exact cells_fresh _ #[.int .i64 at_, .int .i64 code, .slice X imm.length c, .int .i64 next] _ _ (by simp)
  case a2 =>
    intro u hu
    simp only [List.mem_cons, List.not_mem_nil, or_false] at hu
    rcases hu with rfl | rfl | rfl | rfl <;> rfl
  case a3 => unfold maxLen; omega
  case a4 => omega
  case a5 => have := H.out.low.2.2; simp; omega
  intro v6 w6 hown6 hgrow6 _
  have hblk := blk_own H1.out HO.out (own_type H1.out HO.out (by decide)) hgrow6
  obtain ⟨lc0, lc1⟩ := cell_of1 hblk
  have hpb := blk_own (kept_of HB3.out H.out.ptr) HO.out (own_type (kept_of HB3.out H.out.ptr) HO.out (by decide)) hgrow6
  have hbl := apart_of hpb hblk (by decide)
  have hpp := (cell_of1 (heap_setOther (a := ⟨lc, 0, none⟩) hpb hbl v6)).1
  have HP := Lib.hid (⟨hown6, hgrow6, hblk, hpb, hbl⟩ : _ ∧ _ ∧ _ ∧ _ ∧ _)
  obtain ⟨X6, c6, rfl⟩ := owns_shape hown6
  have hle : ((pre.length + 1 : Nat) : Int) ≤ (bs.length : Int) := by omega
  clear hown6 hgrow6 hblk hpb hbl q0 q1 q2 q3 qz ql l20 l21 p20 p21
  go_wp2
  refine bodyPost_ret (results_tmp rfl _ _ _) rfl ⟨?_, ?_, ?_⟩
  · exact congrArg _ (congrArg _ (decide_eq_true (by omega)))
  · obtain ⟨hown6, hgrow6, hblk, hpb, hbl⟩ := HP.out
    obtain ⟨g6, rfl⟩ := own_head hown6 (by omega)
    have hg6 := own_type hblk hown6 (by decide) g6 rfl
    have hset : ∀ k, k ≠ lc → (w6.setCell ⟨lc, 0, none⟩ (.slice (some ⟨g6, 0, none⟩) (pre.length + 1) c6)).heap[k]? = w6.heap[k]? := fun k hk => heap_setKeep w6 (a := ⟨lc, 0, none⟩) hk _
    have hrow : ∀ (n : Nat) (v : Value) (xs : List Value), W.ownsRow B 5 1 v n xs → (w6.setCell ⟨lc, 0, none⟩ (.slice (some ⟨g6, 0, none⟩) (pre.length + 1) c6)).ownsRow B 5 1 v n xs := fun n v xs hr => by
      have h6 := own_grow (own_below hr HB3.out) HO.out (by decide) hgrow6
      exact own_as7 h6 fun b hb => hset b (fun e => own_type hblk h6 (by decide) b hb e.symm)
    obtain ⟨qh, a1, a2, a3, a4⟩ := H.out.held
    have b3 := blk_own (kept_of HB3.out a3) HO.out (own_type (kept_of HB3.out a3) HO.out (by decide)) hgrow6
    have b4 := blk_own (kept_of HB3.out a4) HO.out (own_type (kept_of HB3.out a4) HO.out (by decide)) hgrow6
    have hlow := H.out.low
    have hB3 := H.out.below.trans (HB3.out.mono H.out.below.size)
    have hB6 := bel_own hB3 HO.out hlow.1 hgrow6
    refine ⟨⟨_, heap_set1 hblk _, ?_⟩, fun x hx => ?_, ⟨qh, a1, a2, heap_setOther (a := ⟨lc, 0, none⟩) b3 (apart_of b3 hblk (by decide)) _, heap_setOther (a := ⟨lc, 0, none⟩) b4 (apart_of b4 hblk (by decide)) _⟩, heap_setOther (a := ⟨lc, 0, none⟩) hpb hbl _, ?_, hlow.1, hlow.2.1, ?_⟩
    · rw [List.length_append, insCells_snoc]
      exact own_keep hown6 (hset g6 (fun e => hg6 e.symm))
    · rcases List.mem_append.1 hx with hx | hx
      · exact hrow _ _ _ (H.out.rows x hx)
      · rw [List.mem_singleton.1 hx]
        exact hrow _ _ _ HV.out
    · rw [setCell_eq_setRow w6 lc 0 _ _ _ _ hblk]
      exact below_setRow hB6 hlow.2.1 _
    · have h1 := HB3.out.size
      have h2 := hgrow6.size
      have h3 : (w6.setCell ⟨lc, 0, none⟩ (.slice (some ⟨g6, 0, none⟩) (pre.length + 1) c6)).heap.size = w6.heap.size := by simp
      omega
  · obtain ⟨hown6, hgrow6, hblk, hpb, hbl⟩ := HP.out
    rw [heap_setKeep w6 (a := ⟨lc, 0, none⟩) (show W.heap.size ≠ lc by omega)]
    refine (hgrow6.block W.heap.size (by simp; omega) (fun e => ?_)).trans HO0.out
    obtain ⟨lv, e1, e2⟩ := H.out.row
    have e3 := H1.out
    rw [kept_of HB3.out e1] at e3
    have e4 : lv = .slice L pre.length cl := by
      have := Option.some.inj e3
      simp only [Obj.cells.injEq] at this
      have := this.1
      simpa using this
    rw [e4] at e2
    have := (e2.lt _ e.symm).2
    omega
set_option maxHeartbeats 1000000 in
set_option maxRecDepth 100000 in
theorem all1_list (bs : List Int) (hz : ∀ z ∈ bs, 0 ≤ z ∧ z < 256) (hn : bs.length ≤ 1048600) (w0 : World) (B lc bc g : Nat) (A : Option Addr) (cap : Nat) (W : World) (h0 : LInv bs w0 B lc bc g (.slice A bs.length cap) [] W) :
    Calls Tryd.prog 59 #[.func (.func 42) #[] #[.pointer (some ⟨lc, 0, none⟩), .pointer (some ⟨bc, 0, none⟩)], .pointer (some ⟨g, 0, none⟩)] W fun e W' => (∃ v, e = .returned v) ∧ ∃ xs, AllOf bs xs ∧ LInv bs w0 B lc bc g (.slice A bs.length cap) xs W' := by
  have HZ := Lib.hid hz
  clear hz
  go_enter Tryd.func59, Tryd.ntmps59
  go_wp2
  refine wp_scope_jumps 0 (fun a' w' => ∃ (pre : List El) (p : Int), (∃ u2 u4 u5 u6 u7 u8 u9 u10 u11 u12 u13 u14 u15 u16 u17 u18 u19 u20 u21 : Value, a' = { tmps := #[.func (.func 42) #[] #[.pointer (some ⟨lc, 0, none⟩), .pointer (some ⟨bc, 0, none⟩)], .pointer (some ⟨g, 0, none⟩), u2, .int .i64 p, u4, u5, u6, u7, u8, u9, u10, u11, u12, u13, u14, u15, u16, u17, u18, u19, u20, u21], defers := [] }) ∧ Hid (Reads bs (pre.map Prod.fst) p) ∧ LInv bs w0 B lc bc g (.slice A bs.length cap) pre w') (fun a' _ => bs.length - (intOf (a'.tmps.getD 3 undef)).toNat) rfl ?_ ?_
  · go_wp2
    go_step3
    rename_i hK
    refine hK _ _ ?_
    clear hK
    have hr := Lib.hid (Reads.nil (bs := bs))
    have hj := h0
    clear h0
    obtain ⟨q, hg, hi⟩ := held_ints hj.held
    have HI := Lib.hid hi
    clear hi
    have cg : W.cell? ⟨g, 0, none⟩ = some (.slice (some ⟨q, 0, none⟩) bs.length bs.length) := by simp [World.cell?, hg]
    generalize hrd : readE bs 0 = r
    obtain ⟨er, i⟩ := r
    by_cases he : er = 0
    · subst he
      go_wp2_with (go_at_call 46; refine stop_o ?_)
      unfold StopO
      refine (read_any bs _ _ 0 _ HI.out HZ.out (by omega) (Nat.le_refl _)).mono ?_
      rw [hrd]
      unfold insV
      rintro e w1 ⟨v, rfl, ho, hb⟩
      obtain ⟨X, c, rfl⟩ := owns_shape ho
      have hrs : Reads bs ((([] : List El) ++ [((i, .slice X i.imm.length c) : El)]).map Prod.fst) i.next := by rw [List.map_append]; exact .snoc hr.out hrd
      have HRS := Lib.hid hrs
      have hlen : (([] : List El)).length + 1 ≤ bs.length := by
        have := reads_length hrs
        simpa using this
      have HL := Lib.hid (list1_any bs w0 B lc bc g A cap ([] : List El) i X c w1 (.cells #[.int .i64 i.at_, .int .i64 i.code, .slice X i.imm.length c, .int .i64 i.next] 42) (linv_below hj hb) (owns_le ho hj.low.2.2) hlen hn)
      unfold insV at HL
      clear hrs hj hb ho cg hg
      go_wp2_with (go_at_call 42; refine stop_o ?_)
      unfold StopO
      refine HL.out.mono ?_
      rintro e w3 ⟨rfl, hj3, ho3⟩
      obtain ⟨k0, k1, k2, k3, kz, kl⟩ := cells4 ho3
      go_wp2
      refine wp_goto ?_
      change _ ∧ _
      exact ⟨rfl, ⟨([] : List El) ++ [(i, .slice X i.imm.length c)], i.next, ⟨_, _, _, _, _, _, _, _, _, _, _, _, _, _, _, _, _, _, _, rfl⟩, HRS, hj3⟩⟩
    · have hne : (er != 0) = true := by simpa using he
      go_wp2_with (go_at_call 46; refine stop_o ?_)
      unfold StopO
      refine (read_any bs _ _ 0 _ HI.out HZ.out (by omega) (Nat.le_refl _)).mono ?_
      rw [hrd]
      unfold insV
      rintro e w1 ⟨v, rfl, ho, hb⟩
      obtain ⟨X, c, rfl⟩ := owns_shape ho
      have HJ := Lib.hid (linv_below hj (hb.alloc hb.size (.cells #[.int .i64 i.at_, .int .i64 i.code, .slice X i.imm.length c, .int .i64 i.next] 42)))
      clear hj hb ho cg hg
      go_wp2
      first | simp only [Exit.jump] | simp +zetaDelta only [Exit.jump]
      first | rw [Exit.noGoto_ret] | skip
      refine bodyPost_ret (results_none rfl _ _ _) rfl ⟨⟨_, rfl⟩, ([] : List El), ⟨0, hr.out, by rw [hrd]; exact he⟩, HJ.out⟩
  · rintro a' w' ⟨pre, p, ⟨u2, u4, u5, u6, u7, u8, u9, u10, u11, u12, u13, u14, u15, u16, u17, u18, u19, u20, u21, rfl⟩, hr, hj⟩
    clear h0
    obtain ⟨q, hg, hi⟩ := held_ints hj.held
    have HI := Lib.hid hi
    clear hi
    have cg : w'.cell? ⟨g, 0, none⟩ = some (.slice (some ⟨q, 0, none⟩) bs.length bs.length) := by simp [World.cell?, hg]
    generalize hrd : readE bs p = r
    obtain ⟨er, i⟩ := r
    by_cases he : er = 0
    · subst he
      go_wp2_with (go_at_call 46; refine stop_o ?_)
      unfold StopO
      refine (read_any bs _ _ p _ HI.out HZ.out (by omega) (Nat.le_refl _)).mono ?_
      rw [hrd]
      unfold insV
      rintro e w1 ⟨v, rfl, ho, hb⟩
      obtain ⟨X, c, rfl⟩ := owns_shape ho
      have hrs : Reads bs ((pre ++ [((i, .slice X i.imm.length c) : El)]).map Prod.fst) i.next := by rw [List.map_append]; exact .snoc hr.out hrd
      have HRS := Lib.hid hrs
      have hlen : (pre).length + 1 ≤ bs.length := by
        have := reads_length hrs
        simpa using this
      have HL := Lib.hid (list1_any bs w0 B lc bc g A cap pre i X c w1 (.cells #[.int .i64 i.at_, .int .i64 i.code, .slice X i.imm.length c, .int .i64 i.next] 42) (linv_below hj hb) (owns_le ho hj.low.2.2) hlen hn)
      unfold insV at HL
      clear hrs hj hb ho cg hg
      go_wp2_with (go_at_call 42; refine stop_o ?_)
      unfold StopO
      refine HL.out.mono ?_
      rintro e w3 ⟨rfl, hj3, ho3⟩
      obtain ⟨k0, k1, k2, k3, kz, kl⟩ := cells4 ho3
      go_wp2
      refine wp_goto ?_
      change _ ∧ _
      refine ⟨rfl, ⟨pre ++ [(i, .slice X i.imm.length c)], i.next, ⟨_, _, _, _, _, _, _, _, _, _, _, _, _, _, _, _, _, _, _, rfl⟩, HRS, hj3⟩, ?_⟩
      have := read_next hrd
      simp only [intOf]
      simp
      omega
    · have hne : (er != 0) = true := by simpa using he
      go_wp2_with (go_at_call 46; refine stop_o ?_)
      unfold StopO
      refine (read_any bs _ _ p _ HI.out HZ.out (by omega) (Nat.le_refl _)).mono ?_
      rw [hrd]
      unfold insV
      rintro e w1 ⟨v, rfl, ho, hb⟩
      obtain ⟨X, c, rfl⟩ := owns_shape ho
      have HJ := Lib.hid (linv_below hj (hb.alloc hb.size (.cells #[.int .i64 i.at_, .int .i64 i.code, .slice X i.imm.length c, .int .i64 i.next] 42)))
      clear hj hb ho cg hg
      go_wp2
      first | simp only [Exit.jump] | simp +zetaDelta only [Exit.jump]
      first | rw [Exit.noGoto_ret] | skip
      refine bodyPost_ret (results_none rfl _ _ _) rfl ⟨⟨_, rfl⟩, pre, ⟨p, hr.out, by rw [hrd]; exact he⟩, HJ.out⟩
theorem held_low {bs : List Int} {B B' g : Nat} {W : World} (h : HeldAt bs B g W) (hb : B' ≤ B) : HeldAt bs B' g W := by
  obtain ⟨q, a1, a2, a3, a4⟩ := h
  exact ⟨q, by omega, by omega, a3, a4⟩
set_option maxHeartbeats 1000000 in
set_option maxRecDepth 100000 in
theorem list_any (bs : List Int) (A : Option Addr) (cap : Nat) (w : World) (hc : IntsAt w .u8 A bs) (h0 : A = none → cap = 0) (hz : ∀ z ∈ bs, 0 ≤ z ∧ z < 256) (hn : bs.length ≤ 1048576) :
    Calls Tryd.prog 19 #[.slice A bs.length cap] w fun e w' => ∃ xs v, e = .returned v ∧ AllOf bs xs ∧ w'.ownsRow w.heap.size 42 4 v xs.length (insCells xs) ∧ RowsAt w.heap.size xs w' ∧ Below w.heap.size w w' := by
  have hb2 : Below w.heap.size w ((w.alloc (.cells #[.slice A bs.length cap] 23)).alloc (.cells #[.slice none 0 0] 32)) := ((Below.refl _ _).alloc (Nat.le_refl _) _).alloc (by simp) _
  have hB := heap_alloc_before (heap_alloc_new w (.cells #[.slice A bs.length cap] 23)) (.cells #[.slice none 0 0] 32)
  have hL := heap_alloc_at (w.alloc (.cells #[.slice A bs.length cap] 23)) (.cells #[.slice none 0 0] 32) (w.heap.size + 1) (by simp)
  obtain ⟨cb, _⟩ := cell_of1 hB
  have HC := Lib.hid (ints_below hb2 hc)
  have HZ := Lib.hid hz
  clear hc hz
  go_enter Tryd.func19, Tryd.ntmps19
  go_wp2_with (go_at_call 18; refine stop_o ?_)
  unfold StopO
  generalize (w.alloc (.cells #[.slice A bs.length cap] 23)).alloc (.cells #[.slice none 0 0] 32) = W2 at hb2 hB hL HC cb ⊢
  refine (own7_any bs A cap W2 HC.out h0 (by omega)).mono ?_
  rintro e w3 ⟨X, c, rfl, ho, hb3⟩
  have H3 := Lib.hid (⟨hb2, hB, hL, hb3⟩ : _ ∧ _ ∧ _ ∧ _)
  have HO := Lib.hid ho
  clear hb2 hB hL hb3 ho cb
  go_wp2_with (go_at_call 41; refine stop_o ?_)
  unfold StopO
  refine (codeall_any bs X c w3 (owned_ints HO.out) (by omega)).mono ?_
  rintro e w4 ⟨g, rfl, hh, hb4⟩
  have hli : LInv bs w w.heap.size (w.heap.size + 1) w.heap.size g (.slice A bs.length cap) [] w4 := by
    obtain ⟨hb2, hB, hL, hb3⟩ := H3.out
    have hb34 := hb3.trans (hb4.mono hb3.size)
    exact ⟨⟨_, kept_of hb34 hL, World.ownsRow_nil _ _ _ _⟩, (fun x hx => by cases hx), held_low hh (by have := hb2.size; have := hb3.size; omega), kept_of hb34 hB, hb2.trans (hb34.mono hb2.size), Nat.le_refl _, by omega, by have := hb2.size; have := hb34.size; omega⟩
  have HLI := Lib.hid hli
  have hnil : Sem.run Tryd.prog (binOp .eql 86 (.func (.func 59) #[] #[.pointer (some ⟨g, 0, none⟩)]) .nilFunc) w4 = .ok (.bool false) w4 := by kernel_rfl
  clear hli hh hb4
  go_wp2_with (go_at_call 59; refine stop_o ?_)
  unfold StopO
  refine (all1_list bs HZ.out (by omega) w w.heap.size (w.heap.size + 1) w.heap.size g A cap w4 HLI.out).mono ?_
  rintro e w5 ⟨⟨v, rfl⟩, xs, hall, hi5⟩
  obtain ⟨lv, l1, l2⟩ := hi5.row
  obtain ⟨lc0, _⟩ := cell_of1 l1
  have HF := Lib.hid (⟨hall, hi5, l2⟩ : _ ∧ _ ∧ _)
  clear hall hi5 l1 l2 HLI H3 HO HC
  go_wp2
  refine bodyPost_ret (results_tmp rfl _ _ _) rfl ?_
  exact ⟨xs, _, rfl, HF.out.1, HF.out.2.2, HF.out.2.1.rows, HF.out.2.1.below⟩
end Go.Proofs.YtfjmdffhfjnopaaDoor
