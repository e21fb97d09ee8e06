/- code.Scan: the instructions of a section, or why it is none. -/
import Derived.Test.YtfjmdffhfjnopaaDoorCodeD
import Derived.Test.YtfjmdffhfjnopaaDoorGen
import Derived.BigRegionIn
namespace Vouch
def nextOf (l : List Ins) : Int := (l.getLast?.map Ins.next).getD 0
def lastOf6 (l : List Ins) : Int := (l.getLast?.map Ins.at_).getD 0
theorem nextOf_snoc (l : List Ins) (i : Ins) : nextOf (l ++ [i]) = i.next := by unfold nextOf; simp
theorem lastOf6_snoc (l : List Ins) (i : Ins) : lastOf6 (l ++ [i]) = i.at_ := by unfold lastOf6; simp
theorem reads_next {bs : List Int} {l : List Ins} {p : Int} (h : Reads bs l p) : p = nextOf l := by
  cases h with
  | nil => rfl
  | snoc h1 h2 => rw [nextOf_snoc]
/-- The refusal's number and place, of a section whose instructions l are. -/
def scanE (bs : List Int) (l : List Ins) : Int × Int :=
  if nextOf l < bs.length then ((readE bs (nextOf l)).1, nextOf l)
  else if l = [] then (62, 0)
  else if (opR ((l.getLast?.map Ins.code).getD 0)).ends = false then (62, lastOf6 l) else (0, 0)
end Vouch
namespace Go.Proofs.YtfjmdffhfjnopaaDoor
open Go.RowKit Vouch Go.Vk Go.Sort
attribute [local go_sem] Oper.semAt_some
def insCells (l : List El) : List Value := l.flatMap fun x => [.int .i64 x.1.at_, .int .i64 x.1.code, x.2, .int .i64 x.1.next]
theorem insCells_snoc (l : List El) (x : El) : insCells (l ++ [x]) = insCells l ++ [.int .i64 x.1.at_, .int .i64 x.1.code, x.2, .int .i64 x.1.next] := by simp [insCells]
theorem insCells_length (l : List El) : (insCells l).length = 4 * l.length := by
  induction l with
  | nil => rfl
  | cons x l ih =>
    have : insCells (x :: l) = [.int .i64 x.1.at_, .int .i64 x.1.code, x.2, .int .i64 x.1.next] ++ insCells l := rfl
    rw [this, List.length_append, ih]
    simp
    omega
theorem insCells_last (ys : List El) (x : El) : (insCells (ys ++ [x]))[ys.length * 4 + 1]? = some (.int .i64 x.1.code) := by
  rw [insCells_snoc, List.getElem?_append_right (by rw [insCells_length]; omega), insCells_length, show ys.length * 4 + 1 - 4 * ys.length = 1 by omega]
  rfl
theorem wrap_sub {n : Nat} (h : n ≤ 4294967297) (h1 : 1 ≤ n) : wrap64 ((n : Int) - 1) = (n : Int) - 1 := by simp only [wrap64]; omega
theorem wrap_len {n : Nat} (h : n ≤ 4294967296) : wrap64 (n : Int) = n := by simp only [wrap64]; omega
theorem own_head {w : World} {base e size n cap : Nat} {Y : Option Addr} {xs : List Value} (h : w.ownsRow base e size (.slice Y n cap) n xs) (hn : 0 < n) : ∃ g, Y = some ⟨g, 0, none⟩ := by
  rcases h.2 with ⟨_, h2⟩ | ⟨g, c', cur, h2, _⟩
  · omega
  · cases h2
    exact ⟨g, rfl⟩
theorem infoIns : (Tryd.prog.info? 42).map (fun i => (i.zero, i.size, i.bytes)) = some (some (.agg #[.int .i64 0, .int .i64 0, .slice none 0 0, .int .i64 0]), 4, 48) := by kernel_rfl
/-- The immediate bytes of instructions lie in rows of their own. -/
def RowsAt (B : Nat) (l : List El) (W : World) : Prop := ∀ x ∈ l, W.ownsRow B 5 1 x.2 x.1.imm.length (byteVs x.1.imm)
def Rising (l : List El) : Prop := l.Pairwise fun x y => ∀ a b, x.2.ownBlock = some a → y.2.ownBlock = some b → a < b
theorem rising_snoc {l : List El} {x : El} (h : Rising l) (hx : ∀ q ∈ l, ∀ a b, q.2.ownBlock = some a → x.2.ownBlock = some b → a < b) : Rising (l ++ [x]) := by
  unfold Rising
  rw [List.pairwise_append]
  exact ⟨h, by simp, fun a ha b hb => by rw [List.mem_singleton.1 hb]; exact hx a ha⟩
def ScanInv (bs : List Int) (w : World) (B g : Nat) (pre : List El) (W : World) : Prop :=
  ∃ vl, W.heap[w.heap.size]? = some (.cells #[vl] 32 (0, 0)) ∧ W.ownsRow B 42 4 vl pre.length (insCells pre) ∧ W.heap[w.heap.size + 1]? = some (.cells #[.int .i64 (nextOf (pre.map Prod.fst))] 3 (0, 0)) ∧ W.heap[w.heap.size + 1 + 1]? = some (.cells #[.int .i64 (lastOf6 (pre.map Prod.fst))] 3 (0, 0)) ∧
    HeldAt bs (w.heap.size + 1 + 1 + 1) g W ∧ Below w.heap.size w W ∧ RowsAt B pre W ∧ Rising pre ∧ B ≤ W.heap.size ∧ ∃ p, Reads bs (pre.map Prod.fst) p
theorem scan_kept {bs : List Int} {w : World} {B g : Nat} (hB : w.heap.size + 1 + 1 < B) : OwnFrom B (ScanInv bs w B g) := by
  intro pre W W' row ⟨vl, h1, h2, h3, h4, ⟨q, h5, h6, h7, h8⟩, h9, h10, h11, h13, h12⟩ hg hr
  exact ⟨vl, blk_stays h1 hg hr, own_stays h2 hg hr, blk_stays h3 hg hr, blk_stays h4 hg hr, ⟨q, h5, h6, blk_stays h7 hg hr, blk_stays h8 hg hr⟩, bel_stays h9 (by omega) hg hr, fun x hx => own_stays (h10 x hx) hg hr, h11, Nat.le_trans h13 hg.size, h12⟩
theorem reads_length {bs : List Int} {l : List Ins} {p : Int} (h : Reads bs l p) : l.length ≤ bs.length := by
  suffices hh : (l.length : Int) ≤ p by have := reads_pos h; omega
  induction h with
  | nil => simp
  | snoc h1 h2 ih => have := read_next h2; simp; omega
theorem own_type {W : World} {B e size n b t : Nat} {v : Value} {xs : List Value} {cs : Array Value} (h : W.heap[b]? = some (.cells cs t (0, 0))) (ho : W.ownsRow B e size v n xs) (hne : t ≠ e) : ∀ q, v.ownBlock = some q → b ≠ q := by
  intro q hq e0
  rcases ho.2 with ⟨rfl, _⟩ | ⟨g, cap, cur, rfl, _, hh, _⟩
  · cases hq
  · cases hq
    subst e0
    rw [h] at hh
    cases hh
    exact hne rfl
/-- What Scan hands back. -/
def ScanOut (bs : List Int) (w : World) (e : Ending) (w' : World) : Prop := ∃ (xs ys : List El) (v : Value), AllOf bs xs ∧ e = .returned (.tuple #[v, .int .i64 (scanE bs (xs.map Prod.fst)).1, .int .i64 (scanE bs (xs.map Prod.fst)).2]) ∧
      w'.ownsRow w.heap.size 42 4 v ys.length (insCells ys) ∧ RowsAt w.heap.size ys w' ∧ Rising ys ∧ ((scanE bs (xs.map Prod.fst)).1 = 0 ∧ ys = xs ∨ (scanE bs (xs.map Prod.fst)).1 ≠ 0 ∧ ys = []) ∧ Below w.heap.size w w'
theorem scanOut_mk {bs : List Int} {w : World} {e : Ending} {w' : World} (h : ∃ (xs ys : List El) (v : Value), AllOf bs xs ∧ e = .returned (.tuple #[v, .int .i64 (scanE bs (xs.map Prod.fst)).1, .int .i64 (scanE bs (xs.map Prod.fst)).2]) ∧
      w'.ownsRow w.heap.size 42 4 v ys.length (insCells ys) ∧ RowsAt w.heap.size ys w' ∧ Rising ys ∧ ((scanE bs (xs.map Prod.fst)).1 = 0 ∧ ys = xs ∨ (scanE bs (xs.map Prod.fst)).1 ≠ 0 ∧ ys = []) ∧ Below w.heap.size w w') : ScanOut bs w e w' := h
set_option maxHeartbeats 2000000 in
set_option maxRecDepth 100000 in
theorem scan_any (bs : List Int) (A : Option Addr) (cap : Nat) (w : World) (hc : IntsAt w .u8 A bs) (hz : ∀ z ∈ bs, 0 ≤ z ∧ z < 256) (hn : bs.length ≤ 4294967296) (hcap : bs.length ≤ cap) :
    Calls Tryd.prog 64 #[.slice A bs.length cap] w (ScanOut bs w) := by
  have HC := Lib.hid hc
  have HZ := Lib.hid hz
  clear hc hz
  obtain ⟨i0, hi, hz0, hz1, hz2⟩ := info_parts infoIns
  have b0 : (((w.alloc (.cells #[.slice none 0 0] 32)).alloc (.cells #[.int .i64 0] 3)).alloc (.cells #[.int .i64 0] 3)).heap[w.heap.size]? = some (.cells #[.slice none 0 0] 32 (0, 0)) := by
    rw [Below.heap_alloc _ _ _ (by simp; omega), Below.heap_alloc _ _ _ (by simp)]
    exact heap_alloc_new _ _
  have b1 : (((w.alloc (.cells #[.slice none 0 0] 32)).alloc (.cells #[.int .i64 0] 3)).alloc (.cells #[.int .i64 0] 3)).heap[w.heap.size + 1]? = some (.cells #[.int .i64 0] 3 (0, 0)) := by
    rw [Below.heap_alloc _ _ _ (by simp)]
    have := heap_alloc_new (w.alloc (.cells #[.slice none 0 0] 32)) (.cells #[.int .i64 0] 3)
    simpa using this
  have b2 : (((w.alloc (.cells #[.slice none 0 0] 32)).alloc (.cells #[.int .i64 0] 3)).alloc (.cells #[.int .i64 0] 3)).heap[w.heap.size + 1 + 1]? = some (.cells #[.int .i64 0] 3 (0, 0)) := by
    have := heap_alloc_new ((w.alloc (.cells #[.slice none 0 0] 32)).alloc (.cells #[.int .i64 0] 3)) (.cells #[.int .i64 0] 3)
    simpa using this
  have hB0 : Below w.heap.size w (((w.alloc (.cells #[.slice none 0 0] 32)).alloc (.cells #[.int .i64 0] 3)).alloc (.cells #[.int .i64 0] 3)) := (((Below.refl _ _).alloc (Nat.le_refl _) _).alloc (by simp) _).alloc (by simp; omega) _
  refine (callsIn_wide (n := 8)).1 ?_
  refine callsIn_of_wp_marks Tryd.func64 rfl trivial ?_ rfl
  simp only [Tryd.ntmps64, List.size_toArray, List.length_cons, List.length_nil, Nat.reduceAdd, Nat.reduceSub, Array.replicate_succ, Array.replicate_zero, List.push_toArray, List.append_toArray, List.nil_append, List.cons_append]
  gi_wp2_with (refine ⟨trivial, ?_⟩; gi_at_call 41; refine (callsIn_wide.2 (codeall_any bs A cap _ (ints_below hB0 HC.out) (by omega))).mono ?_; rintro e W0 ⟨g, rfl, hheld, hb⟩)
  have hsz : (((w.alloc (.cells #[.slice none 0 0] 32)).alloc (.cells #[.int .i64 0] 3)).alloc (.cells #[.int .i64 0] 3)).heap.size = w.heap.size + 1 + 1 + 1 := by simp
  rw [hsz] at hheld
  have b0' := kept_of hb b0
  have b1' := kept_of hb b1
  have b2' := kept_of hb b2
  have hB1 := hB0.trans (hb.mono (by simp; omega))
  clear b0 b1 b2
  have hlt : w.heap.size + 1 + 1 < W0.heap.size := (Array.getElem?_eq_some_iff.1 b2').1
  refine wpIn_rangeF rfl (by omega) (gf := 59) (lb := #[.pointer (some ⟨g, 0, none⟩)]) rfl trivial (enters_of Tryd.func59 (by kernel_rfl) rfl) (all1_seq bs HZ.out (by omega) g (w.heap.size + 1 + 1 + 1) 4 W0) (Below.refl _ _) (fun _ => rfl)
    (ScanInv bs w W0.heap.size g) (fun _ _ _ => False) (scan_kept hlt) (fun _ _ _ _ _ h _ _ => h)
    ⟨_, b0', World.ownsRow_nil _ _ _ _, b1', b2', hheld, hB1, fun x hx => (by cases hx), List.Pairwise.nil, Nat.le_refl _, ⟨0, .nil⟩⟩
    (fun pre W h => h.choose_spec.2.2.2.2.1)
    (fun pre x r a' W => ∃ Bx X c, w.heap.size + 1 + 1 < Bx ∧ w.heap.size + 1 + 1 < r ∧ Bx ≠ r ∧ x.2 = .slice X x.1.imm.length c ∧ W.heap[Bx]? = some (.cells #[.int .i64 x.1.at_, .int .i64 x.1.code, .slice X x.1.imm.length c, .int .i64 x.1.next] 42 (0, 0)) ∧
      W.ownsRow W0.heap.size 5 1 (.slice X x.1.imm.length c) x.1.imm.length (byteVs x.1.imm) ∧ (∃ vl, W.heap[w.heap.size]? = some (.cells #[vl] 32 (0, 0)) ∧ ∀ b, vl.ownBlock = some b → b < r ∧ b < Bx) ∧
      (∃ p, Reads bs (pre.map Prod.fst) p ∧ readE bs p = (0, x.1)) ∧ (∀ q ∈ pre, ∀ a b, q.2.ownBlock = some a → x.2.ownBlock = some b → a < b) ∧
      a' = { tmps := #[.slice A bs.length cap, undef, .slice none 0 0, .int .i64 0, .int .i64 0, .pointer (some ⟨w.heap.size, 0, none⟩), .pointer (some ⟨w.heap.size + 1, 0, none⟩), .pointer (some ⟨w.heap.size + 1 + 1, 0, none⟩), .pointer (some ⟨Bx, 0, none⟩), undef, undef, undef, undef, .slice A bs.length cap, .func (.func 59) #[] #[.pointer (some ⟨g, 0, none⟩)], insV x.1 (.slice X x.1.imm.length c), undef, undef, undef, undef, undef, undef, undef, undef, undef, undef, undef, undef, undef, undef, undef, undef, undef, undef, undef, undef, undef, undef, undef, undef, undef, undef, undef, undef, undef, undef, undef, undef, undef, undef, undef, undef, undef, undef, undef], defers := [] })
    (fun pre x r a' _ W W' row hs hg hr => by
      obtain ⟨Bx, X, c, h1, h2, h3, h4, h5, h6, ⟨vl, h7, h8⟩, h9⟩ := hs
      exact ⟨Bx, X, c, h1, h2, h3, h4, blk_stays h5 hg hr, own_stays h6 hg hr, ⟨vl, blk_stays h7 hg hr, h8⟩, h9⟩) ?assign ?body ?done ?stop
  case assign =>
    rintro l pre ⟨i, v⟩ W o K hi ⟨hr, hown, hris⟩ ho hK
    change W.ownsRow W0.heap.size 5 1 v i.imm.length (byteVs i.imm) at hown
    obtain ⟨X, c, rfl⟩ := owns_shape hown
    unfold elV insV
    gi_wp2
    have hsz2 : ((W.alloc o).alloc (.cells #[.int .i64 i.at_, .int .i64 i.code, .slice X i.imm.length c, .int .i64 i.next] 42)).heap[W.heap.size]? = some o := (Below.heap_alloc _ _ _ (by simp)).trans (heap_alloc_new _ _)
    have hg2 : W.grownBy ((W.alloc o).alloc (.cells #[.int .i64 i.at_, .int .i64 i.code, .slice X i.imm.length c, .int .i64 i.next] 42)) none := grownBy_below (((Below.refl _ W).alloc (Nat.le_refl _) _).alloc (by simp) _)
    have hi2 := scan_kept hlt pre _ _ none hi hg2 (fun r e => by cases e)
    have ho2 := own_stays (B := 0) hown hg2 (fun r e => by cases e)
    obtain ⟨vl, e0, e1, _, e3, _, eB, _⟩ := hi
    have hWs : w.heap.size + 1 + 1 < W.heap.size := (Array.getElem?_eq_some_iff.1 e3).1
    refine hK _ _ ((KeepsOthers.alloc _ _).from _) hi2 ⟨W.heap.size + 1, X, c, by omega, hWs, by omega, rfl, by have := heap_alloc_new (W.alloc o) (.cells #[.int .i64 i.at_, .int .i64 i.code, .slice X i.imm.length c, .int .i64 i.next] 42); simpa using this, ho2, ⟨vl, blk_stays (B := 0) e0 hg2 (fun r e => by cases e), fun b hb' => by have := (e1.lt b hb').2; omega⟩, hr, hris, rfl⟩ hsz2
  case body =>
    rintro l pre ⟨i, v⟩ r o a' W hl hlr ⟨vl, e0, e1, e2, e3, e4, eB, e6, e7, eS, e8⟩ ⟨Bx, X, c, hBx, hr, hne, hv, hx, hown, ⟨vl', e9, hvl⟩, hrd, hris, rfl⟩ hro ho
    dsimp only at hv hx hown hrd hris
    subst hv
    rw [e0] at e9
    cases e9
    obtain ⟨p, hp1, hp2⟩ := hrd
    have hnx := Lib.hid (read_next hp2)
    have hpl : pre.length ≤ bs.length := by have := reads_length hp1; simpa using this
    obtain ⟨Y, cv, rfl⟩ := owns_shape e1
    obtain ⟨k0, k1, k2, k3, kz, kl⟩ := cells4 hx
    have c0 : W.cell? ⟨w.heap.size, 0, none⟩ = some (.slice Y pre.length cv) := by simp [World.cell?, e0]
    have f0 : W.frozen? ⟨w.heap.size, 0, none⟩ = false := by simp [World.frozen?, e0]
    unfold insV
    gi_wp2_with (gi_at_builtin; refine wpListIn_append_own _ rfl _ _ 32 rfl W0.heap.size 42 i0 (.agg #[.int .i64 0, .int .i64 0, .slice none 0 0, .int .i64 0]) 4 48 Tryd.underlying32 hi hz0 hz1 hz2 rfl (by decide) _ _ _ rfl (e1.alloc _) ⟨W.heap.size, 0, none⟩ 1 1 [.int .i64 i.at_, .int .i64 i.code, .slice X i.imm.length c, .int .i64 i.next] rfl rfl ?c1 ?c2 ?c3 ?c4 ?c5 ?_)
    case c1 => exact cells_fresh W #[.int .i64 i.at_, .int .i64 i.code, .slice X i.imm.length c, .int .i64 i.next] _ _ rfl
    case c2 => intro u hu; simp at hu; rcases hu with rfl | rfl | rfl | rfl <;> rfl
    case c3 => unfold maxLen; omega
    case c4 => omega
    case c5 => simp; omega
    intro v' w2 hown2 hgrow _
    obtain ⟨Y', cv', rfl⟩ := owns_shape hown2
    have e1' : (W.alloc (.cells #[.int .i64 i.at_, .int .i64 i.code, .slice X i.imm.length c, .int .i64 i.next] 42)).ownsRow W0.heap.size 42 4 (.slice Y pre.length cv) pre.length (insCells pre) := e1.alloc _
    have gA : W.grownBy (W.alloc (.cells #[.int .i64 i.at_, .int .i64 i.code, .slice X i.imm.length c, .int .i64 i.next] 42)) none := grownBy_below ((Below.refl _ _).alloc (Nat.le_refl _) _)
    have kA : ∀ {b t : Nat} {cs : Array Value}, W.heap[b]? = some (.cells cs t (0, 0)) → (∀ q, (Value.slice Y pre.length cv).ownBlock = some q → b ≠ q) → w2.heap[b]? = some (.cells cs t (0, 0)) := fun h hne => blk_own (blk_stays (B := 0) h gA (fun r e => by cases e)) e1' hne hgrow
    have lo : ∀ q, (Value.slice Y pre.length cv).ownBlock = some q → W0.heap.size ≤ q := fun q hq => (e1.lt q hq).1
    have d0 := kA e0 (fun q hq => by have := lo q hq; omega)
    have d1 := kA e2 (fun q hq => by have := lo q hq; omega)
    have d2 := kA e3 (fun q hq => by have := lo q hq; omega)
    have dx := kA hx (fun q hq => by have := (hvl q hq).2; omega)
    have dB := bel_own (eB.alloc eB.size (.cells #[.int .i64 i.at_, .int .i64 i.code, .slice X i.imm.length c, .int .i64 i.next] 42)) e1' (by omega) hgrow
    have dR : ∀ y : El, W.ownsRow W0.heap.size 5 1 y.2 y.1.imm.length (byteVs y.1.imm) → w2.ownsRow W0.heap.size 5 1 y.2 y.1.imm.length (byteVs y.1.imm) := fun y hy => own_grow (hy.alloc _) e1' (by decide) hgrow
    obtain ⟨qh, hh1, hh2, hh3, hh4⟩ := e4
    have dg := kA hh3 (own_type hh3 e1 (by decide))
    have dq := kA hh4 (own_type hh4 e1 (by decide))
    have dr : w2.heap[r]? = some o := by
      have hrl := (Array.getElem?_eq_some_iff.1 hro).1
      exact (hgrow.block r (by simp; omega) (fun e => by have := (hvl r e.symm).1; omega)).trans ((Below.heap_alloc _ _ _ hrl).trans hro)
    have m0 : w2.cell? ⟨w.heap.size, 0, none⟩ = some (.slice Y pre.length cv) := by simp [World.cell?, d0]
    have g0 : w2.frozen? ⟨w.heap.size, 0, none⟩ = false := by simp [World.frozen?, d0]
    have wr : ∀ {W' : World} {b t : Nat} {cs : Array Value} (a : Addr) (u : Value), W'.heap[b]? = some (.cells cs t (0, 0)) → b ≠ a.block → (W'.setCell a u).heap[b]? = some (.cells cs t (0, 0)) := fun a u h hne => (Below.heap_setCell _ _ _ _ hne).trans h
    have x1 := wr ⟨w.heap.size, 0, none⟩ (.slice Y' (pre.length + 1) cv') d1 (by simp)
    have x2 := wr ⟨w.heap.size, 0, none⟩ (.slice Y' (pre.length + 1) cv') d2 (by simp; omega)
    have xx := wr ⟨w.heap.size, 0, none⟩ (.slice Y' (pre.length + 1) cv') dx (by simp; omega)
    obtain ⟨k0, k1, k2, k3, kz, kl⟩ := cells4 xx
    have y1 : (w2.setCell ⟨w.heap.size, 0, none⟩ (.slice Y' (pre.length + 1) cv')).cell? ⟨w.heap.size + 1, 0, none⟩ = some (.int .i64 (nextOf (pre.map Prod.fst))) := by simp [World.cell?, x1]
    have z1 : (w2.setCell ⟨w.heap.size, 0, none⟩ (.slice Y' (pre.length + 1) cv')).frozen? ⟨w.heap.size + 1, 0, none⟩ = false := by simp [World.frozen?, x1]
    have y2 : (w2.setCell ⟨w.heap.size, 0, none⟩ (.slice Y' (pre.length + 1) cv')).cell? ⟨w.heap.size + 1 + 1, 0, none⟩ = some (.int .i64 (lastOf6 (pre.map Prod.fst))) := by simp [World.cell?, x2]
    have z2 : (w2.setCell ⟨w.heap.size, 0, none⟩ (.slice Y' (pre.length + 1) cv')).frozen? ⟨w.heap.size + 1 + 1, 0, none⟩ = false := by simp [World.frozen?, x2]
    gi_wp2
    generalize hw3 : (w2.setCell ⟨w.heap.size, 0, none⟩ (.slice Y' (pre.length + 1) cv')) = w3 at k0 k1 k2 k3 kz kl y1 z1 y2 z2 x1 x2 xx ⊢
    have fin : KeepsFrom W0.heap.size W ((w3.setCell ⟨w.heap.size + 1, 0, none⟩ (.int .i64 i.next)).setCell ⟨w.heap.size + 1 + 1, 0, none⟩ (.int .i64 i.at_)).drew ∧ ScanInv bs w W0.heap.size g (pre ++ [(i, .slice X i.imm.length c)]) ((w3.setCell ⟨w.heap.size + 1, 0, none⟩ (.int .i64 i.next)).setCell ⟨w.heap.size + 1 + 1, 0, none⟩ (.int .i64 i.at_)).drew ∧ ((w3.setCell ⟨w.heap.size + 1, 0, none⟩ (.int .i64 i.next)).setCell ⟨w.heap.size + 1 + 1, 0, none⟩ (.int .i64 i.at_)).drew.heap[r]? = some o := by
      subst hw3
      have hk : ∀ k, k ≠ w.heap.size → k ≠ w.heap.size + 1 → k ≠ w.heap.size + 1 + 1 → (((w2.setCell ⟨w.heap.size, 0, none⟩ (.slice Y' (pre.length + 1) cv')).setCell ⟨w.heap.size + 1, 0, none⟩ (.int .i64 i.next)).setCell ⟨w.heap.size + 1 + 1, 0, none⟩ (.int .i64 i.at_)).drew.heap[k]? = w2.heap[k]? := fun k h1 h2 h3 =>
        (Below.heap_setCell _ _ _ _ h3).trans ((Below.heap_setCell _ _ _ _ h2).trans (Below.heap_setCell _ _ _ _ h1))
      refine ⟨?_, ⟨.slice Y' (pre.length + 1) cv', ?_, ?_, ?_, ?_, ⟨qh, hh1, hh2, (hk _ (by omega) (by omega) (by omega)).trans dg, (hk _ (by omega) (by omega) (by omega)).trans dq⟩, ?_, ?_, rising_snoc e7 hris, ?_, ⟨i.next, by rw [List.map_append]; exact .snoc hp1 hp2⟩⟩, (hk r (by omega) (by omega) (by omega)).trans dr⟩
      · exact ((((KeepsOthers.alloc W _).from _).trans (keeps_own e1' hgrow)).trans ((((KeepsOthers.setCell _ _ _).trans (KeepsOthers.setCell _ _ _)).trans (KeepsOthers.setCell _ _ _)).from _)).trans ⟨Nat.le_refl _, fun _ _ _ h _ => h⟩
      · exact (Below.heap_setCell _ _ _ _ (by simp; omega)).trans ((Below.heap_setCell _ _ _ _ (by simp)).trans ((show Boxed _ _ _ _ from d0).set _))
      · rw [List.length_append, insCells_snoc]
        exact owns_same hown2 (fun k hk1 _ => hk k (by omega) (by omega) (by omega))
      · rw [List.map_append, show [(i, Value.slice X i.imm.length c)].map Prod.fst = [i] from rfl, nextOf_snoc]
        exact (Below.heap_setCell _ _ _ _ (by simp)).trans ((show Boxed _ _ _ _ from x1).set _)
      · rw [List.map_append, show [(i, Value.slice X i.imm.length c)].map Prod.fst = [i] from rfl, lastOf6_snoc]
        exact (show Boxed _ _ _ _ from wr _ _ x2 (by simp)).set _
      · exact (((dB.setCell (by simp) _).setCell (by simp) _).setCell (by simp; omega) _).drew
      · intro y hy
        refine owns_same (B := W0.heap.size) (w := w2) ?_ (fun k hk1 _ => hk k (by omega) (by omega) (by omega))
        rcases List.mem_append.1 hy with hy | hy
        · exact dR y (e6 y hy)
        · rw [List.mem_singleton.1 hy]
          exact dR _ hown
      · have := hgrow.size
        simp at this
        simp
        omega
    gi_region
    all_goals exact fin
  case done =>
    rintro D xs W hD ⟨p, hrd, hne⟩ ⟨vl, e0, e1, e2, e3, _, eB, e6, e7, eS, _⟩ hK
    obtain rfl := reads_next hrd
    have hps := reads_pos hrd
    have hne' : ((readE bs (nextOf (xs.map Prod.fst))).1 != 0) = true := by simpa using hne
    obtain ⟨Y, cv, rfl⟩ := owns_shape e1
    have c0 : W.cell? ⟨w.heap.size, 0, none⟩ = some (.slice Y xs.length cv) := by simp [World.cell?, e0]
    have c1 : W.cell? ⟨w.heap.size + 1, 0, none⟩ = some (.int .i64 (nextOf (xs.map Prod.fst))) := by simp [World.cell?, e2]
    have c2 : W.cell? ⟨w.heap.size + 1 + 1, 0, none⟩ = some (.int .i64 (lastOf6 (xs.map Prod.fst))) := by simp [World.cell?, e3]
    have HN := Lib.hid hne
    have HRD := Lib.hid hrd
    clear hne hrd
    by_cases h1 : nextOf (xs.map Prod.fst) < bs.length
    · have hsc : scanE bs (xs.map Prod.fst) = ((readE bs (nextOf (xs.map Prod.fst))).1, nextOf (xs.map Prod.fst)) := by unfold scanE; rw [if_pos h1]
      have HS := Lib.hid hsc
      clear hsc
      gi_wp2_with (refine ⟨trivial, ?_⟩; gi_at_call 46; refine (callsIn_wide.2 (read_any bs A cap (nextOf (xs.map Prod.fst)) _ (ints_below eB HC.out) HZ.out (by omega) hcap)).mono ?_; unfold insV; rintro e w1 ⟨v, rfl, ho, hb⟩; obtain ⟨X, c, rfl⟩ := owns_shape ho; have c1' := cell_later hb c1; have c1'' := cell_later (hb.alloc hb.size (.cells #[.int .i64 (readE bs (nextOf (xs.map Prod.fst))).2.at_, .int .i64 (readE bs (nextOf (xs.map Prod.fst))).2.code, .slice X (readE bs (nextOf (xs.map Prod.fst))).2.imm.length c, .int .i64 (readE bs (nextOf (xs.map Prod.fst))).2.next] 42)) c1)
      gi_region
      gi_wp2
      have hB2 := eB.trans ((hb.alloc hb.size (.cells #[.int .i64 (readE bs (nextOf (xs.map Prod.fst))).2.at_, .int .i64 (readE bs (nextOf (xs.map Prod.fst))).2.code, .slice X (readE bs (nextOf (xs.map Prod.fst))).2.imm.length c, .int .i64 (readE bs (nextOf (xs.map Prod.fst))).2.next] 42)).drew.mono eB.size)
      have hK' := kept_of ((hb.alloc hb.size (.cells #[.int .i64 (readE bs (nextOf (xs.map Prod.fst))).2.at_, .int .i64 (readE bs (nextOf (xs.map Prod.fst))).2.code, .slice X (readE bs (nextOf (xs.map Prod.fst))).2.imm.length c, .int .i64 (readE bs (nextOf (xs.map Prod.fst))).2.next] 42)).drew) hK
      refine ⟨by simp, .inl ⟨_, _, rfl, run_takeDeferred hK', ?_⟩⟩
      refine ⟨_, results_tmp3 rfl _ _ _, scanOut_mk ⟨xs, [], .slice none 0 0, ⟨_, HRD.out, HN.out⟩, by rw [HS.out]; rfl, World.ownsRow_nil _ _ _ _, (fun x hx => by cases hx), List.Pairwise.nil, .inr ⟨by rw [HS.out]; exact HN.out, rfl⟩, ?_⟩⟩
      exact bel_stays (B := W0.heap.size) hB2 (by omega) (grownBy_putObj' _ D (.deferred none)) (fun r e => by cases e; exact ⟨hD, _, hK', rfl⟩)
    · rcases List.eq_nil_or_concat xs with rfl | ⟨ys, x, hxs⟩
      · have hsc : scanE bs (([] : List El).map Prod.fst) = (62, 0) := by unfold scanE; rw [if_neg h1]; rfl
        have HS := Lib.hid hsc
        clear hsc
        gi_wp2
        refine ⟨by simp, .inl ⟨_, _, rfl, run_takeDeferred hK, ?_⟩⟩
        refine ⟨_, results_tmp3 rfl _ _ _, scanOut_mk ⟨[], [], .slice none 0 0, ⟨_, HRD.out, HN.out⟩, by rw [HS.out]; rfl, World.ownsRow_nil _ _ _ _, (fun x hx => by cases hx), List.Pairwise.nil, .inr ⟨by rw [HS.out]; decide, rfl⟩, ?_⟩⟩
        exact bel_stays (B := W0.heap.size) eB (by omega) (grownBy_putObj' _ D (.deferred none)) (fun r e => by cases e; exact ⟨hD, _, hK, rfl⟩)
      · rw [List.concat_eq_append] at hxs
        have hl : xs.length = ys.length + 1 := by rw [hxs]; simp
        have hnx : nextOf (xs.map Prod.fst) = x.1.next := by rw [hxs, List.map_append]; exact nextOf_snoc _ _
        have hla : lastOf6 (xs.map Prod.fst) = x.1.at_ := by rw [hxs, List.map_append]; exact lastOf6_snoc _ _
        have hyl : ys.length ≤ 4294967296 := by have := reads_length HRD.out; rw [List.length_map, hl] at this; omega
        have hsc : scanE bs (xs.map Prod.fst) = if (opR x.1.code).ends = false then (62, x.1.at_) else (0, 0) := by
          unfold scanE
          rw [if_neg h1, if_neg (by rw [hxs]; simp), hla, show (((xs.map Prod.fst).getLast?.map Ins.code).getD 0) = x.1.code by rw [hxs]; simp]
        obtain ⟨gq, rfl⟩ := own_head e1 (by omega)
        have hcode := e1.cellAt (ys.length * 4 + 1) (by omega)
        rw [hxs, insCells_last] at hcode
        rw [hnx] at c1 h1
        rw [hla] at c2
        generalize hm : xs.length = m at c0 hl
        rw [show ys.length * 4 + 1 = (m - 1) * 4 + 1 by omega] at hcode
        have hwr : wrap64 ((m : Int) - 1) = (m : Int) - 1 := wrap_sub (by omega) (by omega)
        have ht : ((m : Int) - 1).toNat = m - 1 := by omega
        have hz1' : (0 : Int) ≤ (m : Int) - 1 := by omega
        have hz2' : (m : Int) - 1 < m := by omega
        have hz3' : ¬ (m : Int) = 0 := by omega
        have HM := Lib.hid hm
        have HE1 := Lib.hid e1
        have HE6 := Lib.hid e6
        have HE7 := Lib.hid e7
        have HX := Lib.hid hxs
        have HL := Lib.hid hl
        clear hps hne' hnx hla e1 e6 e7 hxs hl hyl hm
        have HS := Lib.hid hsc
        clear hsc
        cases hends : (opR x.1.code).ends with
        | false =>
          gi_wp2_with (refine ⟨trivial, ?_⟩; gi_at_call 40; refine (callsIn_wide.2 (of_any _ _)).mono ?_; unfold rowC; rw [hends]; rintro e w1 ⟨rfl, hb⟩; have c2' := cell_later hb c2; have c2'' := cell_later (hb.alloc hb.size (.cells (rowC (opR x.1.code)) 82)) c2; unfold rowC at c2''; rw [hends] at c2'')
          gi_region
          gi_wp2
          have hB2 := eB.trans ((hb.alloc hb.size (.cells #[.int .i64 (opR x.1.code).code, .string (opR x.1.code).name, .int .i64 (opR x.1.code).imm, .int .i64 (opR x.1.code).inn, .int .i64 (opR x.1.code).out, .int .i64 (opR x.1.code).gas, .bool false] 82)).drew.mono eB.size)
          have hK' := kept_of ((hb.alloc hb.size (.cells #[.int .i64 (opR x.1.code).code, .string (opR x.1.code).name, .int .i64 (opR x.1.code).imm, .int .i64 (opR x.1.code).inn, .int .i64 (opR x.1.code).out, .int .i64 (opR x.1.code).gas, .bool false] 82)).drew) hK
          refine ⟨by simp, .inl ⟨_, _, rfl, run_takeDeferred hK', ?_⟩⟩
          refine ⟨_, results_tmp3 rfl _ _ _, scanOut_mk ⟨xs, [], .slice none 0 0, ⟨_, HRD.out, HN.out⟩, by rw [HS.out, if_pos hends]; rfl, World.ownsRow_nil _ _ _ _, (fun x hx => by cases hx), List.Pairwise.nil, .inr ⟨by rw [HS.out, if_pos hends]; exact (by decide : (62 : Int) ≠ 0), rfl⟩, ?_⟩⟩
          exact bel_stays (B := W0.heap.size) hB2 (by omega) (grownBy_putObj' _ D (.deferred none)) (fun r e => by cases e; exact ⟨hD, _, hK', rfl⟩)
        | true =>
          gi_wp2_with (refine ⟨trivial, ?_⟩; gi_at_call 40; refine (callsIn_wide.2 (of_any _ _)).mono ?_; unfold rowC; rw [hends]; rintro e w1 ⟨rfl, hb⟩; have c0' := cell_later hb c0; have c0'' := cell_later (hb.alloc hb.size (.cells (rowC (opR x.1.code)) 82)) c0; unfold rowC at c0''; rw [hends] at c0'')
          have hb1 := hb.alloc hb.size (.cells #[.int .i64 (opR x.1.code).code, .string (opR x.1.code).name, .int .i64 (opR x.1.code).imm, .int .i64 (opR x.1.code).inn, .int .i64 (opR x.1.code).out, .int .i64 (opR x.1.code).gas, .bool true] 82)
          have hB2 := eB.trans (hb1.mono eB.size)
          have hK' := kept_of hb1 hK
          have hgp := grownBy_putObj' (w1.alloc (.cells #[.int .i64 (opR x.1.code).code, .string (opR x.1.code).name, .int .i64 (opR x.1.code).imm, .int .i64 (opR x.1.code).inn, .int .i64 (opR x.1.code).out, .int .i64 (opR x.1.code).gas, .bool true] 82)) D (.deferred none)
          have hrow : ∀ r, some D = some r → W0.heap.size ≤ r ∧ ∃ o : Obj, (w1.alloc (.cells #[.int .i64 (opR x.1.code).code, .string (opR x.1.code).name, .int .i64 (opR x.1.code).imm, .int .i64 (opR x.1.code).inn, .int .i64 (opR x.1.code).out, .int .i64 (opR x.1.code).gas, .bool true] 82)).heap[r]? = some o ∧ o.isCells = false := fun r e => by cases e; exact ⟨hD, _, hK', rfl⟩
          refine ⟨by simp, .inl ⟨_, _, rfl, run_takeDeferred hK', ?_⟩⟩
          refine ⟨_, results_tmp3 rfl _ _ _, scanOut_mk ⟨xs, xs, .slice (some ⟨gq, 0, none⟩) m cv, ⟨_, HRD.out, HN.out⟩, by rw [HS.out, if_neg (by rw [hends]; simp)]; rfl, ?_, ?_, HE7.out, .inl ⟨by rw [HS.out, if_neg (by rw [hends]; simp)], rfl⟩, bel_stays (B := W0.heap.size) hB2 (by omega) hgp hrow⟩⟩
          · have := owns_le (own_stays (own_below HE1.out hb1) hgp hrow) (show w.heap.size ≤ W0.heap.size by omega)
            rw [HM.out] at this ⊢
            exact this
          · exact fun y hy => owns_le (own_stays (own_below (HE6.out y hy) hb1) hgp hrow) (show w.heap.size ≤ W0.heap.size by omega)
  case stop =>
    rintro D c pre W hD hpre hn hK
    exact hn.elim
end Go.Proofs.YtfjmdffhfjnopaaDoor
