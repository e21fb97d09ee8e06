/- code.All's iterator: what it yields, one instruction behind the other. -/
import Derived.Test.YtfjmdffhfjnopaaDoorCodeC
import Derived.ScopeJumps
import Derived.WalkMore
namespace Vouch
/-- Instructions read one behind the other from place 0; where the next one would begin. -/
inductive Reads (bs : List Int) : List Ins → Int → Prop
  | nil : Reads bs [] 0
  | snoc {pre : List Ins} {p : Int} {i : Ins} : Reads bs pre p → readE bs p = (0, i) → Reads bs (pre ++ [i]) i.next
end Vouch
namespace Go.Proofs.YtfjmdffhfjnopaaDoor
open Go.RowKit Vouch Go.Vk Go.Sort
attribute [local go_sem] Oper.semAt_some
abbrev El : Type := Ins × Value
def elV (x : El) : Array Value := #[insV x.1 x.2]
def ElAt (bs : List Int) (B : Nat) (pre : List El) (x : El) (W : World) : Prop :=
  (∃ p, Reads bs (pre.map Prod.fst) p ∧ readE bs p = (0, x.1)) ∧ W.ownsRow B 5 1 x.2 x.1.imm.length (byteVs x.1.imm) ∧ ∀ q ∈ pre, ∀ a b, q.2.ownBlock = some a → x.2.ownBlock = some b → a < b
def AllOf (bs : List Int) (xs : List El) : Prop := ∃ p, Reads bs (xs.map Prod.fst) p ∧ (readE bs p).1 ≠ 0
def SomeOf (bs : List Int) (xs : List El) : Prop := ∃ p, Reads bs (xs.map Prod.fst) p
theorem reads_pos {bs : List Int} {pre : List Ins} {p : Int} (h : Reads bs pre p) : 0 ≤ p ∧ p ≤ bs.length := by
  cases h with
  | nil => omega
  | snoc h1 h2 =>
    rename_i pre' q i
    unfold readE at h2
    split at h2
    · cases h2
    · split at h2
      · cases h2
      · split at h2
        · cases h2
        · split at h2
          · cases h2
          · cases h2
            dsimp only
            omega
theorem read_next {bs : List Int} {p : Int} {i : Ins} (h2 : readE bs p = (0, i)) : 0 ≤ p ∧ p < i.next ∧ i.next ≤ bs.length ∧ i.at_ = p ∧ i.next = p + 1 + i.imm.length ∧ i.imm.length ≤ bs.length := by
  unfold readE at h2
  split at h2
  · cases h2
  · split at h2
    · cases h2
    · split at h2
      · cases h2
      · split at h2
        · cases h2
        · cases h2
          dsimp only
          rw [List.length_take, List.length_drop]
          omega
theorem held_ints {bs : List Int} {B g : Nat} {W : World} (h : HeldAt bs B g W) : ∃ q, W.heap[g]? = some (.cells #[.slice (some ⟨q, 0, none⟩) bs.length bs.length] 23 (0, 0)) ∧ IntsAt W .u8 (some ⟨q, 0, none⟩) bs := by
  obtain ⟨q, _, _, h1, h2⟩ := h
  refine ⟨q, h1, fun i hi => ⟨_, rfl, ?_⟩⟩
  rw [show (⟨q, 0, none⟩ : Addr).add i = ⟨q, i, none⟩ by unfold Addr.add; split <;> simp_all]
  simp [World.cell?, h2, byteVs, List.getD_eq_getElem?_getD, List.getElem?_eq_getElem hi]
theorem grownBy_below {W W' : World} (h : Below W.heap.size W W') : W.grownBy W' none := ⟨h.os, h.tape, h.output, h.size, fun k hk _ => h.block k hk⟩
theorem owns_base {w : World} {B : Nat} {e : TypeId} {size : Nat} {v : Value} {n : Nat} {xs : List Value} (h : w.ownsRow B e size v n xs) : ∀ b, v.ownBlock = some b → B ≤ b := fun b hb => (h.lt b hb).1
set_option maxHeartbeats 1000000 in
set_option maxRecDepth 100000 in
theorem all1_seq (bs : List Int) (hz : ∀ z ∈ bs, 0 ≤ z ∧ z < 256) (hn : bs.length ≤ 140737488355328) (g B n : Nat) (w : World) :
    SeqF Fence.wide (n + 3) Tryd.prog 59 #[.pointer (some ⟨g, 0, none⟩)] elV (HeldAt bs B g) (ElAt bs w.heap.size) (AllOf bs) (SomeOf bs) w := by
  intro l J Jx W hW hJ hJx hH hY h0
  have HY := Lib.hid hY
  have HJ := Lib.hid hJ
  have HJx := Lib.hid hJx
  have HH := Lib.hid hH
  have HZ := Lib.hid hz
  clear hY hJ hJx hH hz
  refine callsIn_wide.2 ?_
  go_enter Tryd.func59, Tryd.ntmps59
  go_wp2
  refine wp_scope_jumps 0 (fun a' w' => ∃ (pre : List El) (p : Int), (∃ u2 u4 u5 u6 u7 u8 u9 u10 u11 u12 u13 u14 u15 u16 u17 u18 u19 u20 u21 : Value, a' = { tmps := #[.func (.yield l) #[] #[], .pointer (some ⟨g, 0, none⟩), u2, .int .i64 p, u4, u5, u6, u7, u8, u9, u10, u11, u12, u13, u14, u15, u16, u17, u18, u19, u20, u21], defers := [] }) ∧ Hid (Reads bs (pre.map Prod.fst) p) ∧ J pre w' ∧ w.heap.size ≤ w'.heap.size ∧ Hid (∀ q ∈ pre, ∀ a, q.2.ownBlock = some a → a < w'.heap.size)) (fun a' _ => bs.length - (intOf (a'.tmps.getD 3 undef)).toNat) rfl ?_ ?_
  · go_wp2
    go_step3
    rename_i hK
    refine hK _ _ ?_
    clear hK
    have hr := Lib.hid (Reads.nil (bs := bs))
    have hj := h0
    have hs := hW.size
    have hp : Hid (∀ q ∈ ([] : List El), ∀ a, q.2.ownBlock = some a → a < W.heap.size) := Lib.hid (fun q hq => by cases hq)
    refine (wpIn_wide (n := n + 3)).1 ?_
    obtain ⟨q, hg, hi⟩ := held_ints (HH.out _ _ hj)
    have HI := Lib.hid hi
    clear hi
    have cg : W.cell? ⟨g, 0, none⟩ = some (.slice (some ⟨q, 0, none⟩) bs.length bs.length) := by simp [World.cell?, hg]
    generalize hrd : readE bs 0 = r
    obtain ⟨er, i⟩ := r
    by_cases he : er = 0
    · subst he
      gi_wp2_with (refine ⟨trivial, ?_⟩; gi_at_call 46; refine (callsIn_wide.2 (read_any bs _ _ 0 _ HI.out HZ.out hn (Nat.le_refl _))).mono ?_; rw [hrd]; unfold insV; rintro e w1 ⟨v, rfl, ho, hb⟩; obtain ⟨X, c, rfl⟩ := owns_shape ho; obtain ⟨fn, tmps, assign, body, hy, hR⟩ := HY.out ([] : List El) (i, .slice X i.imm.length c) w1 (.cells #[.int .i64 i.at_, .int .i64 i.code, .slice X i.imm.length c, .int .i64 i.next] 42) (HJ.out _ _ _ none hj (grownBy_below hb) (fun r e => by cases e)) ⟨⟨0, hr.out, hrd⟩, owns_le ho hs, fun q' hq' a b ha hb' => Nat.lt_of_lt_of_le (hp.out q' hq' a ha) (owns_base ho b hb')⟩ rfl; unfold elV insV at hy; dsimp only at hy)
      have hbs := hb.size
      have hsz : ∀ w3 : World, w3.heap[w1.heap.size]? = some (.cells #[.int .i64 i.at_, .int .i64 i.code, .slice X i.imm.length c, .int .i64 i.next] 42) → ∀ q ∈ ([] : List El) ++ [(i, .slice X i.imm.length c)], ∀ a, q.2.ownBlock = some a → a < w3.heap.size := fun w3 h3 q' hq' a ha => by
        have h4 := (Array.getElem?_eq_some_iff.1 h3).1
        rcases List.mem_append.1 hq' with h5 | h5
        · have := hp.out q' h5 a ha
          omega
        · obtain rfl := List.mem_singleton.1 h5
          have := (ho.lt a ha).2
          omega
      refine hR.mono ?_
      rintro e W3 (⟨rfl, hj3, ho3⟩ | ⟨rfl, hj3⟩)
      · obtain ⟨k0, k1, k2, k3, kz, kl⟩ := cells4 ho3
        gi_wp2
        refine wpIn_goto ?_
        change _ ∧ _
        exact ⟨rfl, ⟨([] : List El) ++ [(i, .slice X i.imm.length c)], i.next, ⟨_, _, _, _, _, _, _, _, _, _, _, _, _, _, _, _, _, _, _, rfl⟩, Lib.hid (by rw [List.map_append]; exact .snoc hr.out hrd), hj3, by have := (Array.getElem?_eq_some_iff.1 ho3).1; omega, Lib.hid (hsz _ ho3)⟩⟩
      · gi_wp2
        first | simp only [Exit.jump] | simp +zetaDelta only [Exit.jump]
        first | rw [Exit.noGoto_ret] | skip
        refine bodyPost_ret (results_none rfl _ _ _) rfl ⟨⟨_, rfl⟩, .inr ⟨([] : List El) ++ [(i, .slice X i.imm.length c)], ⟨i.next, by rw [List.map_append]; exact .snoc hr.out hrd⟩, hj3⟩⟩
    · have hne : (er != 0) = true := by simpa using he
      gi_wp2_with (refine ⟨trivial, ?_⟩; gi_at_call 46; refine (callsIn_wide.2 (read_any bs _ _ 0 _ HI.out HZ.out hn (Nat.le_refl _))).mono ?_; rw [hrd]; unfold insV; rintro e w1 ⟨v, rfl, ho, hb⟩; obtain ⟨X, c, rfl⟩ := owns_shape ho)
      refine ⟨fun _ h => (by cases h), ?_⟩
      gi_wp2
      first | simp only [Exit.jump] | simp +zetaDelta only [Exit.jump]
      first | rw [Exit.noGoto_ret] | skip
      refine bodyPost_ret (results_none rfl _ _ _) rfl ⟨⟨_, rfl⟩, .inl ⟨([] : List El), ⟨0, hr.out, by rw [hrd]; exact he⟩, HJ.out _ _ _ none hj (grownBy_below (hb.alloc hb.size _)) (fun r e => by cases e)⟩⟩
  · rintro a' w' ⟨pre, p, ⟨u2, u4, u5, u6, u7, u8, u9, u10, u11, u12, u13, u14, u15, u16, u17, u18, u19, u20, u21, rfl⟩, hr, hj, hs, hp⟩
    refine (wpIn_wide (n := n + 3)).1 ?_
    obtain ⟨q, hg, hi⟩ := held_ints (HH.out _ _ hj)
    have HI := Lib.hid hi
    clear hi
    have cg : w'.cell? ⟨g, 0, none⟩ = some (.slice (some ⟨q, 0, none⟩) bs.length bs.length) := by simp [World.cell?, hg]
    generalize hrd : readE bs p = r
    obtain ⟨er, i⟩ := r
    by_cases he : er = 0
    · subst he
      gi_wp2_with (refine ⟨trivial, ?_⟩; gi_at_call 46; refine (callsIn_wide.2 (read_any bs _ _ p _ HI.out HZ.out hn (Nat.le_refl _))).mono ?_; rw [hrd]; unfold insV; rintro e w1 ⟨v, rfl, ho, hb⟩; obtain ⟨X, c, rfl⟩ := owns_shape ho; obtain ⟨fn, tmps, assign, body, hy, hR⟩ := HY.out pre (i, .slice X i.imm.length c) w1 (.cells #[.int .i64 i.at_, .int .i64 i.code, .slice X i.imm.length c, .int .i64 i.next] 42) (HJ.out _ _ _ none hj (grownBy_below hb) (fun r e => by cases e)) ⟨⟨p, hr.out, hrd⟩, owns_le ho hs, fun q' hq' a b ha hb' => Nat.lt_of_lt_of_le (hp.out q' hq' a ha) (owns_base ho b hb')⟩ rfl; unfold elV insV at hy; dsimp only at hy)
      have hbs := hb.size
      have hsz : ∀ w3 : World, w3.heap[w1.heap.size]? = some (.cells #[.int .i64 i.at_, .int .i64 i.code, .slice X i.imm.length c, .int .i64 i.next] 42) → ∀ q ∈ pre ++ [(i, .slice X i.imm.length c)], ∀ a, q.2.ownBlock = some a → a < w3.heap.size := fun w3 h3 q' hq' a ha => by
        have h4 := (Array.getElem?_eq_some_iff.1 h3).1
        rcases List.mem_append.1 hq' with h5 | h5
        · have := hp.out q' h5 a ha
          omega
        · obtain rfl := List.mem_singleton.1 h5
          have := (ho.lt a ha).2
          omega
      refine hR.mono ?_
      rintro e W3 (⟨rfl, hj3, ho3⟩ | ⟨rfl, hj3⟩)
      · obtain ⟨k0, k1, k2, k3, kz, kl⟩ := cells4 ho3
        gi_wp2
        refine wpIn_goto ?_
        change _ ∧ _
        refine ⟨rfl, ⟨pre ++ [(i, .slice X i.imm.length c)], i.next, ⟨_, _, _, _, _, _, _, _, _, _, _, _, _, _, _, _, _, _, _, rfl⟩, Lib.hid (by rw [List.map_append]; exact .snoc hr.out hrd), hj3, by have := (Array.getElem?_eq_some_iff.1 ho3).1; omega, Lib.hid (hsz _ ho3)⟩, ?_⟩
        have := read_next hrd
        simp only [intOf]
        simp
        omega
      · gi_wp2
        first | simp only [Exit.jump] | simp +zetaDelta only [Exit.jump]
        first | rw [Exit.noGoto_ret] | skip
        refine bodyPost_ret (results_none rfl _ _ _) rfl ⟨⟨_, rfl⟩, .inr ⟨pre ++ [(i, .slice X i.imm.length c)], ⟨i.next, by rw [List.map_append]; exact .snoc hr.out hrd⟩, hj3⟩⟩
    · have hne : (er != 0) = true := by simpa using he
      gi_wp2_with (refine ⟨trivial, ?_⟩; gi_at_call 46; refine (callsIn_wide.2 (read_any bs _ _ p _ HI.out HZ.out hn (Nat.le_refl _))).mono ?_; rw [hrd]; unfold insV; rintro e w1 ⟨v, rfl, ho, hb⟩; obtain ⟨X, c, rfl⟩ := owns_shape ho)
      refine ⟨fun _ h => (by cases h), ?_⟩
      gi_wp2
      first | simp only [Exit.jump] | simp +zetaDelta only [Exit.jump]
      first | rw [Exit.noGoto_ret] | skip
      refine bodyPost_ret (results_none rfl _ _ _) rfl ⟨⟨_, rfl⟩, .inl ⟨pre, ⟨p, hr.out, by rw [hrd]; exact he⟩, HJ.out _ _ _ none hj (grownBy_below (hb.alloc hb.size _)) (fun r e => by cases e)⟩⟩
end Go.Proofs.YtfjmdffhfjnopaaDoor
