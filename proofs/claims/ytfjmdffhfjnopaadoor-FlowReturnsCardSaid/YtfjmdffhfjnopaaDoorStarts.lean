/- code.Starts: where instructions begin. -/
import Derived.Test.YtfjmdffhfjnopaaDoorScan
namespace Vouch
/-- Does an instruction begin at place j? -/
def startAt (l : List Ins) (j : Nat) : Bool := l.any fun i => i.at_ == (j : Int)
theorem startAt_snoc (l : List Ins) (i : Ins) (j : Nat) : startAt (l ++ [i]) j = (startAt l j || i.at_ == (j : Int)) := by simp [startAt]
end Vouch
namespace Go.Proofs.YtfjmdffhfjnopaaDoor
open Go.RowKit Vouch Go.Vk Go.Sort
attribute [local go_sem] Oper.semAt_some
theorem row_stays {B : Nat} {W W' : World} {row : Option Nat} {b t n : Nat} {f : Nat → Value} (h : W.rowIs b t n f) (hg : W.grownBy W' row)
    (hr : ∀ r, row = some r → B ≤ r ∧ ∃ o : Obj, W.heap[r]? = some o ∧ o.isCells = false) : W'.rowIs b t n f := by
  obtain ⟨c, hb, hn, hc⟩ := h
  exact ⟨c, blk_stays hb hg hr, hn, hc⟩
theorem row_below {W W' : World} {b t n : Nat} {f : Nat → Value} (h : W.rowIs b t n f) (hb : Below W.heap.size W W') : W'.rowIs b t n f := h.of_block (hb.block b h.lt)
def StartsInv (bs : List Int) (w : World) (g : Nat) (pre : List El) (W : World) : Prop :=
  W.rowIs w.heap.size 4 bs.length (fun j => .bool (startAt (pre.map Prod.fst) j)) ∧ W.heap[w.heap.size + 1]? = some (.cells #[.slice (some ⟨w.heap.size, 0, none⟩) bs.length bs.length] 36 (0, 0)) ∧
    HeldAt bs (w.heap.size + 1 + 1) g W ∧ Below w.heap.size w W ∧ ∃ p, Reads bs (pre.map Prod.fst) p
theorem starts_kept {bs : List Int} {w : World} {B g : Nat} (hB : w.heap.size + 1 < B) : OwnFrom B (StartsInv bs w g) := by
  intro pre W W' row ⟨h1, h2, ⟨q, h5, h6, h7, h8⟩, h9, h10⟩ hg hr
  exact ⟨row_stays h1 hg hr, blk_stays h2 hg hr, ⟨q, h5, h6, blk_stays h7 hg hr, blk_stays h8 hg hr⟩, bel_stays h9 (by omega) hg hr, h10⟩
/-- What Starts hands back. -/
def StartsOut (bs : List Int) (w : World) (e : Ending) (w' : World) : Prop := e = .returned (.slice (some ⟨w.heap.size, 0, none⟩) bs.length bs.length) ∧ ∃ xs, AllOf bs xs ∧ w'.rowIs w.heap.size 4 bs.length (fun j => .bool (startAt (xs.map Prod.fst) j)) ∧ Below w.heap.size w w'
set_option maxHeartbeats 1000000 in
set_option maxRecDepth 100000 in
theorem starts_any (bs : List Int) (A : Option Addr) (cap : Nat) (w : World) (hc : IntsAt w .u8 A bs) (hz : ∀ z ∈ bs, 0 ≤ z ∧ z < 256) (hn : bs.length ≤ 4294967296) :
    Calls Tryd.prog 65 #[.slice A bs.length cap] w (StartsOut bs w) := by
  have HC := Lib.hid hc
  have HZ := Lib.hid hz
  clear hc hz
  have hmk := run_make_row' (P := Tryd.prog) 36 4 (.bool false) 1 Tryd.underlying36 (by kernel_rfl) rfl .i64 .i64 bs.length (by omega) (by omega)
  have b0 : ((w.alloc (.cells (madeCells #[.bool false] bs.length) 4)).alloc (.cells #[.slice (some ⟨w.heap.size, 0, none⟩) bs.length bs.length] 36)).rowIs w.heap.size 4 bs.length (fun _ => .bool false) := (World.rowIs_made w (.bool false) bs.length 4).alloc _
  have b1 : ((w.alloc (.cells (madeCells #[.bool false] bs.length) 4)).alloc (.cells #[.slice (some ⟨w.heap.size, 0, none⟩) bs.length bs.length] 36)).heap[w.heap.size + 1]? = some (.cells #[.slice (some ⟨w.heap.size, 0, none⟩) bs.length bs.length] 36 (0, 0)) := by
    have := heap_alloc_new (w.alloc (.cells (madeCells #[.bool false] bs.length) 4)) (.cells #[.slice (some ⟨w.heap.size, 0, none⟩) bs.length bs.length] 36)
    simpa using this
  have hB0 : Below w.heap.size w ((w.alloc (.cells (madeCells #[.bool false] bs.length) 4)).alloc (.cells #[.slice (some ⟨w.heap.size, 0, none⟩) bs.length bs.length] 36)) := ((Below.refl _ _).alloc (Nat.le_refl _) _).alloc (by simp) _
  refine (callsIn_wide (n := 8)).1 ?_
  refine callsIn_of_wp_marks Tryd.func65 rfl trivial ?_ rfl
  simp only [Tryd.ntmps65, List.size_toArray, List.length_cons, List.length_nil, Nat.reduceAdd, Nat.reduceSub, Array.replicate_succ, Array.replicate_zero, List.push_toArray, List.append_toArray, List.nil_append, List.cons_append]
  gi_wp2_with (refine ⟨trivial, ?_⟩; gi_at_call 41; refine (callsIn_wide.2 (codeall_any bs A cap _ (ints_below hB0 HC.out) (by omega))).mono ?_; rintro e W0 ⟨g, rfl, hheld, hb⟩)
  have hsz : ((w.alloc (.cells (madeCells #[.bool false] bs.length) 4)).alloc (.cells #[.slice (some ⟨w.heap.size, 0, none⟩) bs.length bs.length] 36)).heap.size = w.heap.size + 1 + 1 := by simp
  rw [hsz] at hheld
  have b0' := row_below b0 hb
  have b1' := kept_of hb b1
  have hB1 := hB0.trans (hb.mono (by simp; omega))
  clear b0 b1 hmk
  have hlt : w.heap.size + 1 < W0.heap.size := (Array.getElem?_eq_some_iff.1 b1').1
  refine wpIn_rangeF rfl (by omega) (gf := 59) (lb := #[.pointer (some ⟨g, 0, none⟩)]) rfl trivial (enters_of Tryd.func59 (by kernel_rfl) rfl) (all1_seq bs HZ.out (by omega) g (w.heap.size + 1 + 1) 4 W0) (Below.refl _ _) (fun _ => rfl)
    (StartsInv bs w g) (fun _ _ _ => False) (starts_kept hlt) (fun _ _ _ _ _ h _ _ => h)
    ⟨b0'.congr (fun i hi => by simp [startAt]), b1', hheld, hB1, ⟨0, .nil⟩⟩
    (fun pre W h => h.2.2.1)
    (fun pre x r a' W => ∃ Bx X c, w.heap.size + 1 < Bx ∧ w.heap.size + 1 < r ∧ x.2 = .slice X x.1.imm.length c ∧ W.heap[Bx]? = some (.cells #[.int .i64 x.1.at_, .int .i64 x.1.code, .slice X x.1.imm.length c, .int .i64 x.1.next] 42 (0, 0)) ∧
      (∃ p, Reads bs (pre.map Prod.fst) p ∧ readE bs p = (0, x.1)) ∧
      a' = { tmps := #[.slice A bs.length cap, undef, .slice none 0 0, .pointer (some ⟨w.heap.size + 1, 0, none⟩), .pointer (some ⟨Bx, 0, none⟩), .slice A bs.length cap, .int .i64 bs.length, .slice (some ⟨w.heap.size, 0, none⟩) bs.length bs.length, .slice A bs.length cap, .func (.func 59) #[] #[.pointer (some ⟨g, 0, none⟩)], insV x.1 (.slice X x.1.imm.length c), undef, undef, undef, undef, undef], defers := [] })
    (fun pre x r a' _ W W' row hs hg hr => by
      obtain ⟨Bx, X, c, h1, h2, h4, h5, h9⟩ := hs
      exact ⟨Bx, X, c, h1, h2, h4, blk_stays h5 hg hr, h9⟩) ?assign ?body ?done ?stop
  case assign =>
    rintro l pre ⟨i, v⟩ W o K hi ⟨hr, hown, _⟩ ho hK
    change W.ownsRow W0.heap.size 5 1 v i.imm.length (byteVs i.imm) at hown
    obtain ⟨X, c, rfl⟩ := owns_shape hown
    unfold elV insV
    gi_wp2
    have hsz2 : ((W.alloc o).alloc (.cells #[.int .i64 i.at_, .int .i64 i.code, .slice X i.imm.length c, .int .i64 i.next] 42)).heap[W.heap.size]? = some o := (Below.heap_alloc _ _ _ (by simp)).trans (heap_alloc_new _ _)
    have hg2 : W.grownBy ((W.alloc o).alloc (.cells #[.int .i64 i.at_, .int .i64 i.code, .slice X i.imm.length c, .int .i64 i.next] 42)) none := grownBy_below (((Below.refl _ W).alloc (Nat.le_refl _) _).alloc (by simp) _)
    have hi2 := starts_kept hlt pre _ _ none hi hg2 (fun r e => by cases e)
    have hWs : w.heap.size + 1 < W.heap.size := (Array.getElem?_eq_some_iff.1 hi.2.1).1
    exact hK _ _ ((KeepsOthers.alloc _ _).from _) hi2 ⟨W.heap.size + 1, X, c, by omega, hWs, rfl, by have := heap_alloc_new (W.alloc o) (.cells #[.int .i64 i.at_, .int .i64 i.code, .slice X i.imm.length c, .int .i64 i.next] 42); simpa using this, hr, rfl⟩ hsz2
  case body =>
    rintro l pre ⟨i, v⟩ r o a' W hl hlr ⟨e0, e1, e4, eB, e8⟩ ⟨Bx, X, c, hBx, hr, hv, hx, hrd, rfl⟩ hro ho
    dsimp only at hv hx hrd
    subst hv
    obtain ⟨p, hp1, hp2⟩ := hrd
    obtain ⟨hp3, hp4, hp5, hat, _, _⟩ := read_next hp2
    obtain ⟨q, hq⟩ : ∃ q : Nat, i.at_ = q := ⟨i.at_.toNat, by omega⟩
    have hqn : q < bs.length := by omega
    obtain ⟨k0, k1, k2, k3, kz, kl⟩ := cells4 hx
    have c1 : W.cell? ⟨w.heap.size + 1, 0, none⟩ = some (.slice (some ⟨w.heap.size, 0, none⟩) bs.length bs.length) := by simp [World.cell?, e1]
    have c0 := e0.cell hqn
    have z0 := e0.frozen q
    have hqi : (q : Int) < (bs.length : Int) := by omega
    have hqi0 : (0 : Int) ≤ (q : Int) := by omega
    have HQ := Lib.hid hq
    rw [hq] at k0
    clear hat hp3 hp4 hp5 hq
    have fin : KeepsFrom W0.heap.size W (W.setCell ⟨w.heap.size, q, none⟩ (.bool true)) ∧ StartsInv bs w g (pre ++ [(i, .slice X i.imm.length c)]) (W.setCell ⟨w.heap.size, q, none⟩ (.bool true)) ∧ (W.setCell ⟨w.heap.size, q, none⟩ (.bool true)).heap[r]? = some o := by
      obtain ⟨qh, hh1, hh2, hh3, hh4⟩ := e4
      refine ⟨(KeepsOthers.setCell _ _ _).from _, ⟨(e0.set q (.bool true)).congr ?_, (Below.heap_setCell _ _ _ _ (by simp)).trans e1, ⟨qh, hh1, hh2, (Below.heap_setCell _ _ _ _ (by simp; omega)).trans hh3, (Below.heap_setCell _ _ _ _ (by simp; omega)).trans hh4⟩, eB.setCell (by simp) _, ⟨i.next, by rw [List.map_append]; exact .snoc hp1 hp2⟩⟩, (Below.heap_setCell _ _ _ _ (by simp; omega)).trans hro⟩
      intro j hj
      rw [List.map_append, show [(i, Value.slice X i.imm.length c)].map Prod.fst = [i] from rfl, startAt_snoc, HQ.out]
      by_cases e : j = q
      · subst e; simp
      · rw [if_neg e, show ((q : Int) == (j : Int)) = false by simp; omega]
        simp
    unfold insV
    gi_wp2
    exact fin
  case done =>
    rintro D xs W hD hall ⟨e0, e1, _, eB, _⟩ hK
    have c1 : W.cell? ⟨w.heap.size + 1, 0, none⟩ = some (.slice (some ⟨w.heap.size, 0, none⟩) bs.length bs.length) := by simp [World.cell?, e1]
    gi_wp2
    have hgp := grownBy_putObj' W D (.deferred none)
    have hrow : ∀ r, some D = some r → W0.heap.size ≤ r ∧ ∃ o : Obj, W.heap[r]? = some o ∧ o.isCells = false := fun r e => by cases e; exact ⟨hD, _, hK, rfl⟩
    refine ⟨by simp, .inl ⟨_, _, rfl, run_takeDeferred hK, ?_⟩⟩
    exact ⟨_, results_tmp rfl _ _ _, rfl, xs, hall, row_stays e0 hgp hrow, bel_stays (B := W0.heap.size) eB (by omega) hgp hrow⟩
  case stop =>
    rintro D c pre W hD hpre hn hK
    exact hn.elim
end Go.Proofs.YtfjmdffhfjnopaaDoor
