/- CodeP: out of Awake6, Cut6, Whole, Same6, Laid6, Stay6, RefOne6, Stands6, Pair6 (strip.py). -/
import Derived.Test.YtfjmdffhfjnopaaDoorRefF
import Derived.Test.YtfjmdffhfjnopaaDoorScan
import Derived.Test.YtfjmdffhfjnopaaDoorGen
import Derived.Laws.AppendOwnNone
import Derived.Laws.BytesString
import Derived.Laws.IdiomStrings
import Derived.WalkSmall
import Derived.Deep.RegionHeld3
import Derived.Laws.Shifts
import Derived.Laws.BitsLemmas
namespace Vouch
theorem reads_take {bs : List Int} {l : List Ins} {i : Ins} {q : Int} : ∀ (r : List Ins), Reads bs (l ++ i :: r) q → ∃ p, Reads bs l p ∧ readE bs p = (0, i) := by
  intro r
  induction h : r.length generalizing r q with
  | zero =>
    intro hr
    obtain rfl := List.eq_nil_of_length_eq_zero h
    generalize hm : l ++ [i] = m at hr
    cases hr with
    | nil => simp at hm
    | snoc h1 h2 =>
      obtain ⟨rfl, h3⟩ := List.append_inj' hm rfl
      cases h3
      exact ⟨_, h1, h2⟩
  | succ k ih =>
    intro hr
    rcases List.eq_nil_or_concat r with rfl | ⟨r', j, rfl⟩
    · simp at h
    · rw [List.concat_eq_append] at hr h
      generalize hm : l ++ i :: (r' ++ [j]) = m at hr
      cases hr with
      | nil => simp at hm
      | snoc h1 h2 =>
        rw [show l ++ i :: (r' ++ [j]) = (l ++ i :: r') ++ [j] by simp] at hm
        obtain ⟨rfl, h3⟩ := List.append_inj' hm rfl
        exact ih r' (by simpa using h) h1
theorem reads_eq {bs : List Int} {l : List Ins} {p : Int} (h : Reads bs l p) : ∀ {l' : List Ins} {p' : Int}, Reads bs l' p' → l'.length = l.length → l' = l ∧ p' = p := by
  induction h with
  | nil =>
    intro l' p' h' hl
    obtain rfl := List.eq_nil_of_length_eq_zero (by simpa using hl)
    exact ⟨rfl, reads_next h'⟩
  | snoc h1 h2 ih =>
    intro l' p' h' hl
    cases h' with
    | nil => simp at hl
    | snoc h3 h4 =>
      obtain ⟨rfl, rfl⟩ := ih h3 (by simpa using hl)
      rw [h2] at h4
      cases h4
      exact ⟨rfl, rfl⟩
/-- Two readings to the end are one. -/
theorem reads_all {bs : List Int} {l l' : List Ins} {p p' : Int} (h : Reads bs l p) (he : (readE bs p).1 ≠ 0) (h' : Reads bs l' p') (he' : (readE bs p').1 ≠ 0) : l' = l ∧ p' = p := by
  have key : ∀ {a b : List Ins} {x y : Int}, Reads bs a x → (readE bs x).1 ≠ 0 → Reads bs b y → b.length ≤ a.length := by
    intro a b x y ha hx hb
    refine Nat.le_of_not_lt fun hlt => ?_
    obtain ⟨i, r, hir⟩ : ∃ i r, b.drop a.length = i :: r := by
      cases hd : b.drop a.length with
      | nil => have := congrArg List.length hd; simp at this; omega
      | cons i r => exact ⟨i, r, rfl⟩
    have hb2 := hb
    rw [← List.take_append_drop a.length b, hir] at hb2
    obtain ⟨q, h1, h2⟩ := reads_take r hb2
    obtain ⟨_, rfl⟩ := reads_eq ha h1 (by rw [List.length_take]; omega)
    rw [h2] at hx
    exact hx rfl
  exact reads_eq h h' (Nat.le_antisymm (key h he h') (key h' he' h))
def bs0 : List Int := [96, 7, 224, 0, 0, 0]
def is0 : List Ins := [⟨0, 96, [7], 2⟩, ⟨2, 224, [0, 0], 5⟩, ⟨5, 0, [], 6⟩]
theorem reads0 : Reads bs0 is0 6 := by
  have h1 := Reads.snoc (bs := bs0) .nil (show readE bs0 0 = (0, ⟨0, 96, [7], 2⟩) by decide +kernel)
  have h2 := Reads.snoc h1 (show readE bs0 2 = (0, ⟨2, 224, [0, 0], 5⟩) by decide +kernel)
  exact Reads.snoc h2 (show readE bs0 5 = (0, ⟨5, 0, [], 6⟩) by decide +kernel)
theorem end0 : (readE bs0 6).1 ≠ 0 := by decide +kernel
theorem scan0 : scanE bs0 is0 = (0, 0) := by decide +kernel
theorem end1 : (readE [96] 0).1 ≠ 0 := by decide +kernel
theorem scan1 : scanE [96] [] = (61, 0) := by decide +kernel
end Vouch
namespace Go.Proofs.YtfjmdffhfjnopaaDoor
open Go.RowKit Vouch Go.Vk Go.Sort
theorem ints_lit {w : World} {g : Nat} {zs : List Int} {t : TypeId} (h : w.heap[g]? = some (.cells (byteVs zs).toArray t (0, 0))) : IntsAt w .u8 (some ⟨g, 0, none⟩) zs := fun i hi => by
  refine ⟨_, rfl, ?_⟩
  rw [show (⟨g, 0, none⟩ : Addr).add i = ⟨g, i, none⟩ by unfold Addr.add; split <;> simp_all]
  simp [World.cell?, h, byteVs, List.getD_eq_getElem?_getD, List.getElem?_eq_getElem hi]
theorem scan0_out {w w' : World} {e : Ending} (h : ScanOut bs0 w e w') : ∃ g c, e = .returned (.tuple #[.slice (some ⟨g, 0, none⟩) 3 c, .int .i64 0, .int .i64 0]) ∧ w'.cell? ⟨g, 7, none⟩ = some (.int .i64 5) ∧ Below w.heap.size w w' := by
  obtain ⟨xs, ys, v, ⟨p, hp, he⟩, rfl, hown, _, _, hcase, hb⟩ := h
  obtain ⟨hx, rfl⟩ := reads_all reads0 end0 hp he
  rw [hx, scan0] at hcase ⊢
  rcases hcase with ⟨_, rfl⟩ | ⟨h0, _⟩
  · have hl : ys.length = 3 := by have := congrArg List.length hx; simpa [is0] using this
    rw [hl] at hown
    obtain ⟨X, c, rfl⟩ := owns_shape hown
    obtain ⟨g, rfl⟩ := own_head hown (by decide)
    refine ⟨g, c, rfl, ?_, hb⟩
    rw [hown.cellAt 7 (by decide)]
    match ys, hl with
    | [a, b, d], _ =>
      simp only [List.map_cons, List.map_nil, is0, List.cons.injEq] at hx
      simp [insCells, hx.2.1]
  · exact absurd rfl h0
theorem scan1_out {w w' : World} {e : Ending} (h : ScanOut [96] w e w') : ∃ X c, e = .returned (.tuple #[.slice X 0 c, .int .i64 61, .int .i64 0]) ∧ Below w.heap.size w w' := by
  obtain ⟨xs, ys, v, ⟨p, hp, he⟩, rfl, hown, _, _, hcase, hb⟩ := h
  obtain ⟨hx, rfl⟩ := reads_all (Reads.nil (bs := [96])) end1 hp he
  rw [hx, scan1] at hcase ⊢
  rcases hcase with ⟨h0, _⟩ | ⟨_, rfl⟩
  · exact absurd h0 (by decide)
  · obtain ⟨X, c, rfl⟩ := owns_shape hown
    exact ⟨X, c, rfl, hb⟩
end Go.Proofs.YtfjmdffhfjnopaaDoor
namespace Go.Proofs.YtfjmdffhfjnopaaDoor
open Go.RowKit Vouch Go.Vk Go.Sort
theorem infoByte : (Tryd.prog.info? 5).map (fun i => (i.zero, i.size, i.bytes)) = some (some (.int .u8 0), 1, 1) := by kernel_rfl
theorem byteVs_length (l : List Int) : (byteVs l).length = l.length := by unfold byteVs; simp
theorem own_empty (w : World) : (w.alloc (.cells #[] 5)).ownsRow w.heap.size 5 1 (.slice (some ⟨w.heap.size, 0, none⟩) 0 0) 0 [] :=
  ⟨rfl, .inr ⟨w.heap.size, 0, #[], rfl, Nat.le_refl _, heap_alloc_new _ _, Nat.le_refl _, by unfold maxLen; omega, rfl, rfl⟩⟩
end Go.Proofs.YtfjmdffhfjnopaaDoor
namespace Vouch
def flatI (l : List Ins) : List Int := l.flatMap fun i => i.code :: i.imm
theorem flatI_snoc (l : List Ins) (i : Ins) : flatI (l ++ [i]) = flatI l ++ i.code :: i.imm := by simp [flatI]
theorem read_parts {bs : List Int} {p : Int} {i : Ins} (h2 : readE bs p = (0, i)) : i.code = bs.getD p.toNat 0 ∧ isOp i.code = true ∧ i.imm = (bs.drop (p.toNat + 1)).take i.imm.length ∧ ∃ n, immL (opR i.code) (bs.drop (p.toNat + 1)) = some n ∧ n = i.imm.length := by
  unfold readE at h2
  split at h2
  · cases h2
  · split at h2
    · cases h2
    · rename_i h1 ho
      split at h2
      · cases h2
      · rename_i n hn
        split at h2
        · cases h2
        · cases h2
          dsimp only
          have hl : ((bs.drop (p.toNat + 1)).take n).length = n := by rw [List.length_take, List.length_drop]; omega
          exact ⟨rfl, by simpa using ho, by rw [hl], n, hn, hl.symm⟩
theorem drop_getD {bs : List Int} {k : Nat} (h : k < bs.length) : bs.drop k = bs.getD k 0 :: bs.drop (k + 1) := by
  rw [List.drop_eq_getElem_cons h, List.getD_eq_getElem?_getD, List.getElem?_eq_getElem h]
  rfl
theorem flat_take {bs : List Int} {l : List Ins} {p : Int} (h : Reads bs l p) (hp : ∀ {l : List Ins} {p : Int} {i : Ins}, Reads bs l p → readE bs p = (0, i) → 0 ≤ p ∧ i.next = p + 1 + i.imm.length ∧ i.next ≤ bs.length) : flatI l = bs.take p.toNat := by
  induction h with
  | nil => rfl
  | snoc h1 h2 ih =>
    rename_i pre q i
    obtain ⟨h0, h3, h4⟩ := hp h1 h2
    obtain ⟨h5, _, h6, _⟩ := read_parts h2
    rw [flatI_snoc, ih, h5]
    have e : i.next.toNat = q.toNat + (1 + i.imm.length) := by omega
    rw [e, List.take_add, drop_getD (show q.toNat < bs.length by omega), Nat.add_comm 1, List.take_succ_cons, ← h6]
/-- Taken: the instructions are the section. -/
theorem scan_ok {bs : List Int} {l : List Ins} (h : (scanE bs l).1 = 0) (hne : nextOf l < bs.length → (readE bs (nextOf l)).1 ≠ 0) : (bs.length : Int) ≤ nextOf l ∧ l ≠ [] ∧ (opR ((l.getLast?.map Ins.code).getD 0)).ends = true := by
  unfold scanE at h
  split at h
  · exact absurd h (hne (by assumption))
  · split at h
    · simp at h
    · split at h
      · simp at h
      · rename_i h1 h2 h3
        exact ⟨by omega, h2, by simpa using h3⟩
end Vouch
namespace Go.Proofs.YtfjmdffhfjnopaaDoor
open Go.RowKit Vouch Go.Vk Go.Sort
def strOf (zs : List Int) : ByteArray := zs.foldl (fun r n => r.push (UInt8.ofNat n.toNat)) ByteArray.empty
theorem conv_str {w : World} {A : Option Addr} {zs : List Int} {n cap : Nat} (h : IntsAt w .u8 A zs) (hn : n = zs.length) : (convert 23 9 (.slice A n cap)).run Tryd.prog w = .ok (.string (strOf zs)) w := by
  subst hn
  rw [run_convert_bytes_string w _ _ 5 A zs.length cap Tryd.underlying23 Tryd.underlying5 Tryd.underlying9]
  cases A with
  | none =>
    have h0 : zs = [] := by
      cases zs with
      | nil => rfl
      | cons z zs => obtain ⟨x, hx, _⟩ := h 0 (by simp); cases hx
    subst h0
    simp [Conv.bytesToString, strOf, Sem.run_pure]
  | some a =>
    have hl := run_loadCells_list (P := Tryd.prog) w a (byteVs zs) (bytes_src h)
    rw [byteVs_length] at hl
    exact run_bytesToString w a zs.length cap zs hl
theorem reads_at {bs : List Int} {ys : List El} {p : Int} {k : Nat} {y : El} (h : Reads bs (ys.map Prod.fst) p) (hy : ys[k]? = some y) : ∃ q, Reads bs ((ys.take k).map Prod.fst) q ∧ readE bs q = (0, y.1) := by
  have e : ys.map Prod.fst = (ys.take k).map Prod.fst ++ y.1 :: (ys.drop (k + 1)).map Prod.fst := by
    have hk := (List.getElem?_eq_some_iff.1 hy).1
    conv => lhs; rw [← List.take_append_drop k ys]
    rw [List.map_append, List.drop_eq_getElem_cons hk, List.map_cons, (List.getElem?_eq_some_iff.1 hy).2]
  rw [e] at h
  exact reads_take _ h
theorem owned_ints {w : World} {B : Nat} {X : Option Addr} {c : Nat} {zs : List Int} (h : w.ownsRow B 5 1 (.slice X zs.length c) zs.length (byteVs zs)) : IntsAt w .u8 X zs := fun i hi => by
  obtain ⟨g, rfl⟩ := own_head h (by omega)
  refine ⟨_, rfl, ?_⟩
  rw [show (⟨g, 0, none⟩ : Addr).add i = ⟨g, i, none⟩ by unfold Addr.add; split <;> simp_all, h.cellAt i (by omega)]
  simp [byteVs, List.getD_eq_getElem?_getD, List.getElem?_eq_getElem hi]
theorem owned_cap {w : World} {B e size n c : Nat} {X : Option Addr} {xs : List Value} (h : w.ownsRow B e size (.slice X n c) n xs) : n ≤ c := by
  rcases h.2 with ⟨h1, h2⟩ | ⟨g, c', cur, h1, _, _, h4, _⟩
  · omega
  · cases h1
    exact h4
theorem byte_wf {n : Int} (h : (Lit.int .u8 n).wf = true) : 0 ≤ n ∧ n < 256 := by
  simp [Lit.wf, IntKind.min, IntKind.max, IntKind.signed, IntKind.bits] at h
  omega
theorem addr_zero (g j : Nat) : (⟨g, 0, none⟩ : Addr).add j = ⟨g, j, none⟩ := by unfold Addr.add; split <;> simp_all
theorem own_same_bytes {w : World} {B : Nat} {v : Value} {fk zs : List Int} {c : Int} (h : w.ownsRow B 5 1 v (fk.length + 1) (byteVs fk ++ [.int .u8 c])) (e : zs = fk ++ [c]) : w.ownsRow B 5 1 v zs.length (byteVs zs) := by
  subst e
  have e1 : byteVs (fk ++ [c]) = byteVs fk ++ [.int .u8 c] := by simp [byteVs]
  rw [e1, List.length_append]
  exact h
theorem own_more_bytes {w : World} {B : Nat} {v : Value} {fk im zs : List Int} {c : Int} (h : w.ownsRow B 5 1 v (fk.length + 1 + im.length) (byteVs fk ++ .int .u8 c :: byteVs im)) (e : zs = fk ++ c :: im) : w.ownsRow B 5 1 v zs.length (byteVs zs) := by
  subst e
  have e1 : byteVs (fk ++ c :: im) = byteVs fk ++ .int .u8 c :: byteVs im := by simp [byteVs]
  rw [e1, List.length_append, List.length_cons, show fk.length + (im.length + 1) = fk.length + 1 + im.length by omega]
  exact h
theorem insCells_at {ys : List El} {k : Nat} {y : El} (h : ys[k]? = some y) : (insCells ys)[k * 4]? = some (.int .i64 y.1.at_) ∧ (insCells ys)[k * 4 + 1]? = some (.int .i64 y.1.code) ∧ (insCells ys)[k * 4 + 2]? = some y.2 ∧ (insCells ys)[k * 4 + 3]? = some (.int .i64 y.1.next) := by
  induction ys generalizing k with
  | nil => simp at h
  | cons x ys ih =>
    have e : insCells (x :: ys) = [.int .i64 x.1.at_, .int .i64 x.1.code, x.2, .int .i64 x.1.next] ++ insCells ys := rfl
    rw [e]
    cases k with
    | zero =>
      simp at h
      subst h
      exact ⟨rfl, rfl, rfl, rfl⟩
    | succ k =>
      have h' := ih (by simpa using h)
      rw [show (k + 1) * 4 = k * 4 + 4 by omega]
      refine ⟨?_, ?_, ?_, ?_⟩
      · rw [List.getElem?_append_right (by simp), ← h'.1]; rfl
      · rw [List.getElem?_append_right (by simp), ← h'.2.1]; rfl
      · rw [List.getElem?_append_right (by simp), ← h'.2.2.1]; rfl
      · rw [List.getElem?_append_right (by simp), ← h'.2.2.2]; rfl
end Go.Proofs.YtfjmdffhfjnopaaDoor
namespace Go.Proofs.YtfjmdffhfjnopaaDoor
open Go.RowKit Vouch Go.Vk Go.Sort
end Go.Proofs.YtfjmdffhfjnopaaDoor
namespace Go.Proofs.YtfjmdffhfjnopaaDoor
open Go.RowKit Vouch Go.Vk Go.Sort
def marksN (k : Nat) : List Int := (List.range k).map fun i : Nat => 161 + (i : Int) % 3
theorem marksN_snoc (k : Nat) : marksN (k + 1) = marksN k ++ [161 + (k : Int) % 3] := by unfold marksN; rw [List.range_succ, List.map_append]; rfl
theorem marksN_length (k : Nat) : (marksN k).length = k := by simp [marksN]
theorem byteVs_take_succ {bs : List Int} {k : Nat} (h : k < bs.length) : byteVs (bs.take (k + 1)) = byteVs (bs.take k) ++ [.int .u8 (bs.getD k 0)] := by
  rw [List.take_add_one, List.getElem?_eq_getElem h, List.getD_eq_getElem?_getD, List.getElem?_eq_getElem h]
  simp only [byteVs, List.map_append, Option.toList_some, List.map_cons, List.map_nil, Option.getD_some]
theorem take_min' (bs : List Int) (n : Nat) : bs.take (min n bs.length) = bs.take n := by
  by_cases h : bs.length ≤ n
  · rw [Nat.min_eq_right h, List.take_of_length_le (Nat.le_refl _), List.take_of_length_le h]
  · rw [Nat.min_eq_left (by omega)]
end Go.Proofs.YtfjmdffhfjnopaaDoor
namespace Go.Proofs.YtfjmdffhfjnopaaDoor
open Go.RowKit Vouch Go.Vk Go.Sort
end Go.Proofs.YtfjmdffhfjnopaaDoor
namespace Go.Proofs.YtfjmdffhfjnopaaDoor
open Go.RowKit Vouch Go.Vk Go.Sort
def StopR (p : Prop) : Prop := p
theorem stop_r {p : Prop} (h : StopR p) : p := h
theorem cell_set4 {w : World} {a : Addr} {g : Nat} {v v0 v1 v2 v3 : Value} (h : w.cell? a = some v) (hne : a.block ≠ g) : ((((w.setCell ⟨g, 0, none⟩ v0).setCell ⟨g, 1, none⟩ v1).setCell ⟨g, 2, none⟩ v2).setCell ⟨g, 3, none⟩ v3).cell? a = some v :=
  (World.cell?_of_block (w := w) ((Below.heap_setCell _ _ _ _ hne).trans ((Below.heap_setCell _ _ _ _ hne).trans ((Below.heap_setCell _ _ _ _ hne).trans (Below.heap_setCell _ _ _ _ hne))))).trans h
end Go.Proofs.YtfjmdffhfjnopaaDoor
namespace Vouch
/-- Does it stand: its code has a row, its place is in bounds, its immediate bytes are as many as the row says, the next one follows. -/
def standsI (i : Ins) : Bool := isOp i.code && decide (0 ≤ i.at_) && decide (i.at_ ≤ 1048576) && (match immL (opR i.code) i.imm with | none => false | some n => n == i.imm.length && i.next == i.at_ + 1 + n)
end Vouch
namespace Go.Proofs.YtfjmdffhfjnopaaDoor
open Go.RowKit Vouch Go.Vk Go.Sort
theorem opR_imm (c : Int) : isOp c = true → -1 ≤ (opR c).imm ∧ (opR c).imm ≤ 32 := by
  intro h
  by_cases h0 : 0 ≤ c ∧ c < 256
  · exact imm_ok c h0.1 h0.2 h
  · unfold isOp at h
    rw [opR_out c (by omega)] at h
    exact absurd h (by decide +kernel)
set_option maxHeartbeats 1000000 in
set_option maxRecDepth 100000 in
theorem stands_any (i : Ins) (X : Option Addr) (c : Nat) (w : World) (hc : IntsAt w .u8 X i.imm) (hz : ∀ z ∈ i.imm, 0 ≤ z ∧ z < 256) (hn : i.imm.length ≤ 140737488355328) (hx : (Lit.int .i64 i.next).wf = true) :
    Calls Tryd.prog 44 #[insV i (.slice X i.imm.length c)] w fun e w' => e = .returned (.bool (standsI i)) ∧ Below w.heap.size w w' := by
  obtain ⟨at_, code, imm, next⟩ := i
  dsimp only at hc hz hn hx
  unfold insV
  dsimp only
  have hb0 : Below w.heap.size w (w.alloc (.cells #[.int .i64 at_, .int .i64 code, .slice X imm.length c, .int .i64 next] 42)) := (Below.refl _ _).alloc (Nat.le_refl _) _
  go_enter Tryd.func44, Tryd.ntmps44
  obtain ⟨p0, p1, p2, p3, pz, pl⟩ := cells4 (heap_alloc_new w (.cells #[.int .i64 at_, .int .i64 code, .slice X imm.length c, .int .i64 next] 42))
  go_wp2_with (go_at_call 40; refine stop_r ?_)
  unfold StopR
  refine (of_any _ _).mono ?_
  unfold rowC
  rintro e w1 ⟨rfl, hb⟩
  have hg1 := kept_new hb
  have hB1 : Below w.heap.size w w1 := hb0.trans (hb.mono hb0.size)
  have hB2 := hB1.alloc hB1.size (.cells #[.int .i64 (opR code).code, .string (opR code).name, .int .i64 (opR code).imm, .int .i64 (opR code).inn, .int .i64 (opR code).out, .int .i64 (opR code).gas, .bool (opR code).ends] 82)
  have hg := (Below.heap_alloc w1 (.cells #[.int .i64 (opR code).code, .string (opR code).name, .int .i64 (opR code).imm, .int .i64 (opR code).inn, .int .i64 (opR code).out, .int .i64 (opR code).gas, .bool (opR code).ends] 82) _ (Array.getElem?_eq_some_iff.1 hg1).1).trans hg1
  have hr := heap_alloc_new w1 (.cells #[.int .i64 (opR code).code, .string (opR code).name, .int .i64 (opR code).imm, .int .i64 (opR code).inn, .int .i64 (opR code).out, .int .i64 (opR code).gas, .bool (opR code).ends] 82)
  clear p0 p1 p2 p3 pz pl
  obtain ⟨q0, q1, q2, q3, qz, ql⟩ := cells4 hg
  obtain ⟨k0, k1, k2, k3, k4, k5, k6, kz, kl⟩ := cells7 hr
  cases hop : isOp code with
  | false =>
    have hF := Lib.hid (show standsI ⟨at_, code, imm, next⟩ = false by simp [standsI, hop])
    go_wp2
    go_ret
    exact ⟨by first | (rw [hF.out]; rfl) | (rw [hF.out]; done), hB2⟩
  | true =>
    by_cases ha : at_ < 0
    · have hF := Lib.hid (show standsI ⟨at_, code, imm, next⟩ = false by simp [standsI]; omega)
      go_wp2
      go_ret
      exact ⟨by first | (rw [hF.out]; rfl) | (rw [hF.out]; done), hB2⟩
    by_cases hb' : 1048576 < at_
    · have hF := Lib.hid (show standsI ⟨at_, code, imm, next⟩ = false by simp [standsI]; omega)
      go_wp2
      go_ret
      exact ⟨by first | (rw [hF.out]; rfl) | (rw [hF.out]; done), hB2⟩
    have hS : standsI ⟨at_, code, imm, next⟩ = (match immL (opR code) imm with | none => false | some n => n == imm.length && next == at_ + 1 + n) := by
      simp only [standsI, hop, decide_eq_true (show 0 ≤ at_ by omega), decide_eq_true (show at_ ≤ 1048576 by omega), Bool.true_and]
    have him := opR_imm _ hop
    have HL := Lib.hid (fun w2 (h2 : Below w.heap.size w w2) => length_any (opR code) X c imm w2 (ints_below h2 hc) hz (by omega))
    unfold rowC at HL
    rcases lenV_cases (opR code) imm hz him.1 him.2 with ⟨e1, e2⟩ | ⟨m, e1, e2, hm⟩
    · rw [e2] at hS
      have hF := Lib.hid hS
      clear hS
      rw [e1] at HL
      go_wp2_with (go_at_call 60; refine (HL.out _ hB2).mono ?_; rintro e w3 ⟨rfl, hb3⟩)
      go_ret
      exact ⟨by first | (rw [hF.out]; rfl) | (rw [hF.out]; done), hB2.trans (hb3.mono hB2.size)⟩
    · rw [e2] at hS
      rw [e1] at HL
      dsimp only at hS HL
      by_cases hl : m = imm.length
      · subst hl
        have hle : ((imm.length : Int) == (imm.length : Int)) = true := by simp
        rw [show (imm.length == imm.length) = true by simp, Bool.true_and] at hS
        have hwc : wrap64 (at_ + 1) = at_ + 1 := by unfold wrap64; omega
        have hwd : wrap64 (at_ + 1 + imm.length) = at_ + 1 + imm.length := by unfold wrap64; omega
        have hF := Lib.hid hS
        clear hS
        go_wp2_with (go_at_call 60; refine (HL.out _ hB2).mono ?_; rintro e w3 ⟨rfl, hb3⟩; have hg3 := kept_of hb3 hg; obtain ⟨r0, r1, r2, r3, rz, rl⟩ := cells4 hg3)
        go_ret
        exact ⟨by first | (rw [hF.out]; rfl) | (rw [hF.out]; done), hB2.trans (hb3.mono hB2.size)⟩
      · have hle : ((m : Int) == (imm.length : Int)) = false := by rw [beq_eq_false_iff_ne]; omega
        rw [show (m == imm.length) = false by rw [beq_eq_false_iff_ne]; exact hl, Bool.false_and] at hS
        have hF := Lib.hid hS
        clear hS
        go_wp2_with (go_at_call 60; refine (HL.out _ hB2).mono ?_; rintro e w3 ⟨rfl, hb3⟩; have hg3 := kept_of hb3 hg; obtain ⟨r0, r1, r2, r3, rz, rl⟩ := cells4 hg3)
        go_ret
        exact ⟨by first | (rw [hF.out]; rfl) | (rw [hF.out]; done), hB2.trans (hb3.mono hB2.size)⟩
end Go.Proofs.YtfjmdffhfjnopaaDoor
namespace Vouch
def pairN (z : List Int) (k : Nat) : Int := 256 * z.getD k 0 + z.getD (k + 1) 0
def i16N (n : Int) : Int := if 32768 ≤ n then n - 65536 else n
def distN (z : List Int) (k : Nat) : Int := i16N (pairN z k)
end Vouch
namespace Go.Proofs.YtfjmdffhfjnopaaDoor
open Go.RowKit Vouch Go.Vk Go.Sort
theorem i16_wrap (n : Int) (h0 : 0 ≤ n) (h1 : n < 65536) : IntKind.i16.wrap n = i16N n := by
  simp [IntKind.wrap, IntKind.bits, IntKind.signed, i16N]
  split <;> split <;> omega
theorem wraps_i64 (n : Int) (h₀ : 0 ≤ n) (h₁ : n < 2 ^ 63) : IntKind.i64.wrap n = n := by rw [IntKind.wrap_i64]; omega
theorem i64_or8 (a b : Int) (h0 : 0 ≤ a ∧ a < 256) (h1 : 0 ≤ b ∧ b < 256) : bits .or .i64 (a * 256) b = 256 * a + b := by
  rw [bits_join .i64 63 (by decide) wraps_i64 8 (a * 256) b (by omega) (by omega) (by omega) (by omega) (by omega) (by omega)]
  omega
set_option maxHeartbeats 400000 in
set_option maxRecDepth 100000 in
theorem pair_any (a b : Int) (y : Addr) (n cap : Nat) (w : World) (ha : 0 ≤ a ∧ a < 256) (hb : 0 ≤ b ∧ b < 256) (hx0 : w.cell? y = some (.int .u8 a)) (hx1 : w.cell? (y.add 1) = some (.int .u8 b)) (hn : 2 ≤ n) :
    Calls Tryd.prog 45 #[.slice (some y) n cap] w fun e w' => e = .returned (.int .i64 (256 * a + b)) ∧ Below w.heap.size w w' := by
  have h2 : (0 : Int) < n := by omega
  have h3 : (1 : Int) < n := by omega
  have h2a : 0 < n := by omega
  have h3a : 1 < n := by omega
  have h4a : ¬ n = 0 := by omega
  have hor := i64_or8 a b ha hb
  have hy1 : w.cell? ⟨y.block, y.off + 1, none⟩ = some (.int .u8 b) := by rw [← hx1]; congr 1
  clear hx1
  have hwa : IntKind.i64.wrap a = a := by rw [IntKind.wrap_i64]; omega
  have hwb : IntKind.i64.wrap b = b := by rw [IntKind.wrap_i64]; omega
  have hws : IntKind.i64.wrap (a * 256) = a * 256 := by rw [IntKind.wrap_i64]; omega
  have hwt : wrap64 (a * 256) = a * 256 := by unfold wrap64; omega
  go_enter Tryd.func45, Tryd.ntmps45
  go_wp2
  go_quiet (fail)
  go_wp2
  go_ret
  exact ⟨rfl, below_drewN (Below.refl _ _) _⟩
end Go.Proofs.YtfjmdffhfjnopaaDoor
