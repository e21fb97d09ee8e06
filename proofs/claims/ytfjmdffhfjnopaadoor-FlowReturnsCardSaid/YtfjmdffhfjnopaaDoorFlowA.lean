/- chapter 7: what a pass over a section asks of one instruction: on, callee, turns, named. -/
import Derived.Test.YtfjmdffhfjnopaaDoorSpec7
import Derived.Test.YtfjmdffhfjnopaaDoorGen
namespace Go.Proofs.YtfjmdffhfjnopaaDoor
open Go.RowKit Vouch Go.Vk Go.Sort
/-- Types that are read. -/
def TysAt (w : World) (A : Option Addr) (ts : List Ty) : Prop := ∀ i, i < ts.length → ∃ x, A = some x ∧ w.cell? (x.add (i * 3)) = some (.int .i64 (ts.getD i zeroT).inn) ∧ w.cell? ⟨(x.add (i * 3)).block, (x.add (i * 3)).off + 1, none⟩ = some (.int .i64 (ts.getD i zeroT).out) ∧ w.cell? ⟨(x.add (i * 3)).block, (x.add (i * 3)).off + 2, none⟩ = some (.int .i64 (ts.getD i zeroT).most)
theorem tys_below {w w' : World} {A : Option Addr} {ts : List Ty} (h : TysAt w A ts) (hb : Below w.heap.size w w') : TysAt w' A ts := fun i hi => by
  obtain ⟨x, h1, h2, h3, h4⟩ := h i hi
  exact ⟨x, h1, cell_later hb h2, cell_later hb h3, cell_later hb h4⟩
def tyV (t : Ty) : Value := .agg #[.int .i64 t.inn, .int .i64 t.out, .int .i64 t.most]
/-- A pass: the section's types, its own one, its instructions, their numbers by their places. -/
def PassAt (w : World) (g : Nat) (A : Option Addr) (ts : List Ty) (capT : Nat) (own : Ty) (L : Option Addr) (k cl mb : Nat) : Prop :=
  w.heap[g]? = some (.cells #[.slice A ts.length capT, .int .i64 own.inn, .int .i64 own.out, .int .i64 own.most, .slice L k cl, .map (some mb)] 73 (0, 0))
theorem cells2 {w : World} {g t : Nat} {a0 a1 : Value} (hg : w.heap[g]? = some (.cells #[a0, a1] t (0, 0))) :
    w.cell? ⟨g, 0, none⟩ = some a0 ∧ w.cell? ⟨g, 1, none⟩ = some a1 ∧ ∀ o, w.frozen? ⟨g, o, none⟩ = false := by
  refine ⟨?_, ?_, fun o => ?_⟩ <;> simp [World.cell?, World.frozen?, hg]
theorem cells3 {w : World} {g t : Nat} {a0 a1 a2 : Value} (hg : w.heap[g]? = some (.cells #[a0, a1, a2] t (0, 0))) :
    w.cell? ⟨g, 0, none⟩ = some a0 ∧ w.cell? ⟨g, 1, none⟩ = some a1 ∧ w.cell? ⟨g, 2, none⟩ = some a2 ∧ (∀ o, w.frozen? ⟨g, o, none⟩ = false) ∧ g < w.heap.size := by
  refine ⟨?_, ?_, ?_, fun o => ?_, (Array.getElem?_eq_some_iff.1 hg).1⟩ <;> simp [World.cell?, World.frozen?, hg]
theorem set3_eq {w : World} {g t : Nat} {a0 a1 a2 : Value} {fr : Nat × Nat} (hg : w.heap[g]? = some (.cells #[a0, a1, a2] t fr)) (v0 v1 v2 : Value) :
    ((w.setCell ⟨g, 0, none⟩ v0).setCell ⟨g, 1, none⟩ v1).setCell ⟨g, 2, none⟩ v2 = w.setRow g #[v0, v1, v2] := by
  rw [setCell_eq_setRow w g 0 _ t fr v0 hg, setCell_eq_setRow _ g 1 _ t fr v1 (setRow_heap _ _ _ _ _ _ hg), setRow_setRow, setCell_eq_setRow _ g 2 _ t fr v2 (setRow_heap _ _ _ _ _ _ hg), setRow_setRow]
  rfl
theorem cells6 {w : World} {g t : Nat} {v0 v1 v2 v3 v4 v5 : Value} (h : w.heap[g]? = some (.cells #[v0, v1, v2, v3, v4, v5] t (0, 0))) :
    w.cell? ⟨g, 0, none⟩ = some v0 ∧ w.cell? ⟨g, 1, none⟩ = some v1 ∧ w.cell? ⟨g, 2, none⟩ = some v2 ∧ w.cell? ⟨g, 3, none⟩ = some v3 ∧ w.cell? ⟨g, 4, none⟩ = some v4 ∧ w.cell? ⟨g, 5, none⟩ = some v5 := by
  refine ⟨?_, ?_, ?_, ?_, ?_, ?_⟩ <;> simp [World.cell?, h]
theorem on_any (a b i o : Int) (w : World) (ha : 0 ≤ a ∧ a ≤ 100000) (hb : 0 ≤ b ∧ b ≤ 100000) (hi : 0 ≤ i ∧ i ≤ 100000) (ho : 0 ≤ o ∧ o ≤ 100000) :
    Calls Tryd.prog 37 #[.agg #[.int .i64 a, .int .i64 b], .int .i64 i, .int .i64 o] w fun e w' => e = .returned (.agg #[.int .i64 (a - i + o), .int .i64 (b - i + o)]) ∧ Below w.heap.size w w' := by
  have hw1 : wrap64 (a - i) = a - i := by simp only [wrap64]; omega
  have hw2 : wrap64 (b - i) = b - i := by simp only [wrap64]; omega
  have hw3 : wrap64 (a - i + o) = a - i + o := by simp only [wrap64]; omega
  have hw4 : wrap64 (b - i + o) = b - i + o := by simp only [wrap64]; omega
  go_enter Tryd.func37, Tryd.ntmps37
  go_wp2
  exact bodyPost_ret_by (results_cell_row rfl _ _ _ _ _ _ _ rfl (heap_alloc_at _ _ _ (by simp)) Tryd.underlying75 rfl (by kernel_rfl)) rfl ⟨rfl, ((Below.refl _ _).alloc (Nat.le_refl _) _).alloc (by simp) _⟩
set_option maxRecDepth 100000 in
theorem callee_any (g : Nat) (A : Option Addr) (ts : List Ty) (capT : Nat) (own : Ty) (L : Option Addr) (k cl mb : Nat) (i : Ins) (X : Option Addr) (c : Nat) (w : World) (hp : PassAt w g A ts capT own L k cl mb) (ht : TysAt w A ts)
    (hc : IntsAt w .u8 X i.imm) (hz : ∀ z ∈ i.imm, 0 ≤ z ∧ z < 256) (hn : i.imm.length ≤ 140737488355328) (hx : (Lit.int .i64 i.next).wf = true) (h0 : 0 ≤ namedN i) (h1 : namedN i < ts.length) :
    Calls Tryd.prog 57 #[.pointer (some ⟨g, 0, none⟩), insV i (.slice X i.imm.length c)] w fun e w' => e = .returned (tyV (tyAt ts (namedN i))) ∧ Below w.heap.size w w' := by
  have HN := Lib.hid (fun (w1 : World) (hb : Below w.heap.size w w1) => named_any i X c w1 (ints_below hb hc) hz hn hx)
  obtain ⟨n, hnn⟩ : ∃ n : Nat, namedN i = n := ⟨(namedN i).toNat, by omega⟩
  have HNN := Lib.hid hnn
  have hnl : n < ts.length := by omega
  obtain ⟨x, rfl, t0, t1, t2⟩ := ht n hnl
  have HT := Lib.hid (⟨t0, t1, t2⟩ : _ ∧ _ ∧ _)
  have HP := Lib.hid hp
  have e : tyAt ts (namedN i) = ts.getD n zeroT := by unfold tyAt; rw [hnn]; rfl
  rw [e]
  generalize ts.getD n zeroT = ty at *
  clear hc hz hn hx h0 h1 hp ht t0 t1 t2 e
  rw [hnn] at HN
  clear hnn
  obtain ⟨at_, code, imm, next⟩ := i
  unfold insV at HN ⊢
  dsimp only at *
  have hb0 : Below w.heap.size w ((w.alloc (.cells #[.int .i64 at_, .int .i64 code, .slice X imm.length c, .int .i64 next] 42)).alloc (.cells #[.int .i64 0, .int .i64 0, .int .i64 0] 35)) := ((Below.refl _ _).alloc (Nat.le_refl _) _).alloc (by simp) _
  have hnl2 : (n : Int) < (ts.length : Int) := by omega
  go_enter Tryd.func57, Tryd.ntmps57
  go_wp2_with (go_at_call 25; refine stop_o ?_)
  unfold StopO
  have hq := heap_alloc_at (w.alloc (.cells #[.int .i64 at_, .int .i64 code, .slice X imm.length c, .int .i64 next] 42)) (.cells #[.int .i64 0, .int .i64 0, .int .i64 0] 35) (w.heap.size + 1) (by simp)
  generalize (w.alloc (.cells #[.int .i64 at_, .int .i64 code, .slice X imm.length c, .int .i64 next] 42)).alloc (.cells #[.int .i64 0, .int .i64 0, .int .i64 0] 35) = W0 at hb0 hq ⊢
  refine (HN.out W0 hb0).mono ?_
  rintro e W1 ⟨rfl, hb1⟩
  have hB := hb0.trans (hb1.mono hb0.size)
  have hq1 := kept_of hb1 hq
  obtain ⟨p0, p1, p2, p3, p4, p5⟩ := cells6 (kept_of hB HP.out)
  obtain ⟨q0, q1, q2, qf, ql⟩ := cells3 hq1
  have t0 := cell_later hB HT.out.1
  have t1 := cell_later hB HT.out.2.1
  have t2 := cell_later hB HT.out.2.2
  clear hb0 hb1 HN HP HT HNN hq
  go_wp2
  rw [set3_eq hq1]
  refine bodyPost_ret_by (results_cell_row (cs := #[.int .i64 ty.inn, .int .i64 ty.out, .int .i64 ty.most]) rfl _ _ _ _ _ _ rfl (setRow_heap _ _ _ _ _ _ hq1) Tryd.underlying35 rfl (by kernel_rfl)) rfl ⟨rfl, below_setRow hB (by omega) _⟩
end Go.Proofs.YtfjmdffhfjnopaaDoor
