/- flow.Heights: the walk. -/
import Derived.Test.YtfjmdffhfjnopaaDoorFlowQ
import Derived.Test.YtfjmdffhfjnopaaDoorFlowD
import Derived.Test.YtfjmdffhfjnopaaDoorGen
import Derived.Test.YtfjmdffhfjnopaaDoorFlowM
import Derived.Deep.CutRange
import Derived.Laws.OwnMore
namespace Go.Proofs.YtfjmdffhfjnopaaDoor
open Go.RowKit Vouch Go.Vk Go.Sort
attribute [local go_sem] Oper.semAt_some
def hgCells (l : List Ins) (hs : List (Int × Int)) : List Value := (l.zip hs).flatMap fun x => [.int .i64 x.1.at_, .int .i64 x.2.1, .int .i64 x.2.2]
/-- What Heights hands back: the heights of l's instructions, or the refusal. -/
def HeightsOut (ts : List Ty) (s : Int) (bs : List Int) (w : World) (e : Ending) (w' : World) : Prop :=
  ∃ v, e = .returned (.tuple #[v, .int .i64 (heightsE ts s bs).2.1, .int .i64 (heightsE ts s bs).2.2]) ∧ w'.ownsRow w.heap.size 38 3 v (heightsE ts s bs).1.length (hgCells (allI bs) (heightsE ts s bs).1) ∧ Below w.heap.size w w'
theorem infoHeight : (Tryd.prog.info? 38).map (fun i => (i.zero, i.size, i.bytes)) = some (some (.agg #[.int .i64 0, .int .i64 0, .int .i64 0]), 3, 24) := by kernel_rfl
theorem infoSpan : (Tryd.prog.info? 75).map (fun i => (i.zero, i.size, i.bytes)) = some (some (.agg #[.int .i64 0, .int .i64 0]), 2, 16) := by kernel_rfl
theorem infoBool7 : (Tryd.prog.info? 4).map (fun i => (i.zero, i.size, i.bytes)) = some (some (.bool false), 1, 1) := by kernel_rfl
theorem spRow_zero (N : Nat) : madeCells #[.int .i64 0, .int .i64 0] (N * 2) = (spRow (List.replicate N (0, 0))).toArray := by
  refine Array.ext_getElem? fun i => ?_
  have h1 : ∀ (n i : Nat), (spRow (List.replicate n ((0 : Int), (0 : Int))))[i]? = if i < n * 2 then some (.int .i64 0) else none := by
    intro n
    induction n with
    | zero => intro i; simp [spRow]
    | succ n ih =>
      intro i
      rw [List.replicate_succ, spRow_cons]
      rcases i with _ | _ | i
      · simp
      · rw [if_pos (by omega)]; simp
      · rw [List.getElem?_cons_succ, List.getElem?_cons_succ, ih i]
        by_cases e : i < n * 2
        · rw [if_pos e, if_pos (by omega)]
        · rw [if_neg e, if_neg (by omega)]
  rw [show ((spRow (List.replicate N ((0 : Int), (0 : Int)))).toArray)[i]? = (spRow (List.replicate N (0, 0)))[i]? from by simp, h1 N i]
  unfold madeCells
  by_cases e : i < N * 2
  · rw [if_pos e]
    have : i % 2 = 0 ∨ i % 2 = 1 := by omega
    rcases this with h | h <;> simp [e, h]
  · rw [if_neg e]
    simp [e]
theorem boolRow_zero (N : Nat) : madeCells #[.bool false] N = (boolRow (List.replicate N false)).toArray := by
  refine Array.ext_getElem? fun i => ?_
  unfold madeCells boolRow
  by_cases e : i < N
  · simp [e, Nat.mod_one]
  · simp [e]
theorem heights_no {ts : List Ty} {s : Int} {bs : List Int} {w w' : World} (h : mayB ts s bs = false) (hb : Below w.heap.size w w') : HeightsOut ts s bs w (.returned (.tuple #[.slice none 0 0, .int .i64 1, .int .i64 0])) w' := by
  have e : heightsE ts s bs = ([], 1, 0) := by unfold heightsE; rw [h]; rfl
  unfold HeightsOut
  rw [e]
  have e2 : hgCells (allI bs) [] = [] := by simp [hgCells]
  refine ⟨_, rfl, ?_, hb⟩
  show w'.ownsRow w.heap.size 38 3 (.slice none 0 0) 0 (hgCells (allI bs) [])
  rw [e2]
  exact World.ownsRow_nil _ _ _ _
/-- The two rows, where they lie. -/
def FAt (H N : Nat) (hv : List (Int × Int)) (mt : List Bool) (w : World) : Prop :=
  w.heap[H]? = some (.cells (spRow hv).toArray 75 (0, 0)) ∧ w.heap[H + 1]? = some (.cells #[.slice (some ⟨H, 0, none⟩) N N] 70 (0, 0)) ∧ w.heap[H + 1 + 1]? = some (.cells (boolRow mt).toArray 4 (0, 0)) ∧
    w.heap[H + 1 + 1 + 1]? = some (.cells #[.slice (some ⟨H + 1 + 1, 0, none⟩) N N] 36 (0, 0)) ∧ H + 4 ≤ w.heap.size
theorem fat_below {H N : Nat} {hv : List (Int × Int)} {mt : List Bool} {w w' : World} (h : FAt H N hv mt w) (hb : Below w.heap.size w w') : FAt H N hv mt w' :=
  ⟨kept_of hb h.1, kept_of hb h.2.1, kept_of hb h.2.2.1, kept_of hb h.2.2.2.1, Nat.le_trans h.2.2.2.2 hb.size⟩
theorem bool_at {w : World} {q e n : Nat} {mt : List Bool} (h : w.heap[q]? = some (.cells (boolRow mt).toArray e (0, 0))) (hl : n < mt.length) : w.cell? ⟨q, n, none⟩ = some (.bool (mt.getD n false)) := by
  simp only [World.cell?, h, List.getElem?_toArray]
  unfold boolRow
  rw [List.getElem?_map, List.getD_eq_getElem?_getD, List.getElem?_eq_getElem hl]
  rfl
theorem span_at {w : World} {q e n : Nat} {hv : List (Int × Int)} (h : w.heap[q]? = some (.cells (spRow hv).toArray e (0, 0))) (hl : n < hv.length) : w.cell? ⟨q, n * 2, none⟩ = some (.int .i64 (hv.getD n (0, 0)).1) ∧ w.cell? ⟨q, n * 2 + 1, none⟩ = some (.int .i64 (hv.getD n (0, 0)).2) := by
  obtain ⟨h0, h1⟩ := spRow_at hl
  exact ⟨by simp only [World.cell?, h]; simpa using h0, by simp only [World.cell?, h]; simpa using h1⟩
theorem tyOK_at {ts : List Ty} (h : ∀ t ∈ ts, tyOK t = true) (s : Int) : tyOK (tyAt ts s) = true := by
  have := tyAt_ok h s
  unfold tyOK
  simp only [Bool.and_eq_true, decide_eq_true_eq]
  omega
theorem made_last {w0 W : World} {Z e : Nat} {x y a b v : Value} {P : Program} {ρ : Operand → Value} {o : Oper} (hZ : W.heap[Z]? = some (.cells #[x, y] e (0, 0))) (hZ0 : w0.heap.size ≤ Z) (hZ1 : Z < W.heap.size) (hB : Below w0.heap.size w0 W) (hy : Yld P ρ o W v ((W.setCell ⟨Z, 0, none⟩ a).setCell ⟨Z, 1, none⟩ b)) :
    ∃ W', Yld P ρ o W v W' ∧ (w0.heap.size ≤ Z ∧ Z < W'.heap.size ∧ W'.heap[Z]? = some (.cells #[a, b] e (0, 0)) ∧ Below w0.heap.size w0 W') :=
  ⟨_, hy, hZ0, by simpa using hZ1, heap_set2 (l := [x, y]) hZ 0 1 a b, (hB.setCell hZ0 _).setCell hZ0 _⟩
/-- Where n instructions are done. -/
def FRel (ts : List Ty) (s : Int) (bs : List Int) (own : Ty) (H N : Nat) (W1 : World) (n : Nat) (w : World) : Prop :=
  ∃ (hs hv : List (Int × Int)) (mt : List Bool), hs.length = n ∧ StRel ts own (allI bs) hs n (0, 0) [] hv mt ∧ runH ts own (allI bs) (N - hs.length) hs = heightsE ts s bs ∧ FAt H N hv mt w ∧ Below H W1 w
theorem hg_snoc : ∀ {l : List Ins} {hs : List (Int × Int)} {k : Nat}, k < l.length → k < hs.length → hgCells l (hs.take (k + 1)) = hgCells l (hs.take k) ++ [.int .i64 (l.getD k zeroI).at_, .int .i64 (hs.getD k (0, 0)).1, .int .i64 (hs.getD k (0, 0)).2]
  | [], _, _, h, _ => by simp at h
  | _ :: _, [], _, _, h => by simp at h
  | i :: l, h :: hs, 0, _, _ => by simp [hgCells]
  | i :: l, h :: hs, k + 1, h1, h2 => by
    have := hg_snoc (l := l) (hs := hs) (k := k) (by simpa using h1) (by simpa using h2)
    unfold hgCells at *
    rw [List.take_succ_cons, List.take_succ_cons, List.zip_cons_cons, List.zip_cons_cons, List.flatMap_cons, List.flatMap_cons, this, List.append_assoc, List.getD_cons_succ, List.getD_cons_succ]
theorem own_lower {w : World} {B B' e size n : Nat} {v : Value} {xs : List Value} (h : w.ownsRow B e size v n xs) (hb : B' ≤ B) : w.ownsRow B' e size v n xs := by
  rcases h with ⟨h1, h2 | ⟨g, cap, cur, h2, h3, h4⟩⟩
  · exact ⟨h1, .inl h2⟩
  · exact ⟨h1, .inr ⟨g, cap, cur, h2, Nat.le_trans hb h3, h4⟩⟩
theorem mrel_done {ts : List Ty} {s : Int} {bs : List Int} {own : Ty} {H N T Z n : Nat} {i : Ins} {X : Option Addr} {c : Nat} {hs : List (Int × Int)} {h0 G : Int × Int} {W1 w : World} (h : MRel ts bs own H N T Z n i X c (hs ++ [h0]) G W1 ((if (opR i.code).ends then [] else [n + 1]) ++ (leadsI i).map (idxI (allI bs))) w) (hi : (allI bs).getD n zeroI = i) (hl : hs.length = n) (hG : goH ts own i h0 = G) (hk : wrongI ts own i h0 = 0) (hhd : headH ts own (allI bs) hs hs.length = some h0) (hrun : runH ts own (allI bs) (N - hs.length) hs = heightsE ts s bs) (hnN : n < N)
    (hb : (leadsI i).all (fun t => decide (n < idxI (allI bs) t) || ((hs ++ [h0]).getD (idxI (allI bs) t) (0, 0) == G)) = true) (hT : H + 4 ≤ T) : FRel ts s bs own H N W1 (n + 1) w := by
  obtain ⟨hv, mt, h1, h2, h3, h4⟩ := h
  have hto : toN (allI bs) n = (if (opR i.code).ends then [] else [n + 1]) ++ (leadsI i).map (idxI (allI bs)) := by unfold toN; rw [hi]
  rw [← hto] at h1
  have hT2 := (Array.getElem?_eq_some_iff.1 h3).1
  refine ⟨hs ++ [h0], hv, mt, by simp [hl], strel_next h1 (by simp [hl]) ?_ _, ?_, ⟨h2.rh, h2.ch, h2.rq, h2.cq, by omega⟩, h4⟩
  · rw [hi, ← hG]
    congr 1
    rw [← hl]
    exact getD_last.symm
  · rw [← hrun, show N - hs.length = (N - (hs ++ [h0]).length) + 1 by simp; omega, runH_step hhd (by rw [hl, hi]; exact hk) (by rw [hl, back_form hi hl hG]; exact hb)]
theorem heights_err {ts : List Ty} {s : Int} {bs : List Int} {w w' : World} {e a : Int} (h : heightsE ts s bs = ([], e, a)) (hb : Below w.heap.size w w') : HeightsOut ts s bs w (.returned (.tuple #[.slice none 0 0, .int .i64 e, .int .i64 a])) w' := by
  unfold HeightsOut
  rw [h]
  have e2 : hgCells (allI bs) [] = [] := by simp [hgCells]
  refine ⟨_, rfl, ?_, hb⟩
  show w'.ownsRow w.heap.size 38 3 (.slice none 0 0) 0 (hgCells (allI bs) [])
  rw [e2]
  exact World.ownsRow_nil _ _ _ _
set_option maxHeartbeats 2000000 in
set_option maxRecDepth 100000 in
theorem heights_any (ts : List Ty) (A : Option Addr) (capT : Nat) (s : Int) (bs : List Int) (B : Option Addr) (capB : Nat) (w : World) (ht : TysAt w A ts) (hc : IntsAt w .u8 B bs) (hz : ∀ z ∈ bs, 0 ≤ z ∧ z < 256) (hn : bs.length ≤ 1048576) (hcap : bs.length ≤ capB) (htn : ts.length ≤ 1048576) :
    Calls Tryd.prog 16 #[.slice A ts.length capT, .int .i64 s, .slice B bs.length capB] w (HeightsOut ts s bs w) := by
  have HT := Lib.hid ht
  have HZ := Lib.hid hz
  have HRI := Lib.hid (right_any ts A capT s bs B capB w ht hc hz hn hcap htn)
  clear ht hz hc
  go_enter Tryd.func16, Tryd.ntmps16
  go_wp2_with (go_at_call 35; refine stop_o ?_)
  unfold StopO
  refine HRI.out.mono ?_
  rintro e W1 (⟨hm, rfl, hb⟩ | ⟨hm, gp, mb, cl, L, xs, D, rfl, hfst, hpass, hrow, hrows, hmap, hpl, hgp, hmb, hb⟩)
  · have HM := Lib.hid hm
    clear hm
    go_wp2
    refine bodyPost_ret (results_tmp3 rfl _ _ _) rfl ?_
    exact heights_no HM.out hb
  · obtain ⟨hs0, hs1, hts, hck, hnm⟩ := may_parts hm
    have hcp := check_parts hck
    have hsp := scan_parts hcp.1
    have hal : (allI bs).length = xs.length := by rw [← hfst]; simp
    obtain ⟨N, hN⟩ : ∃ N, N = xs.length := ⟨_, rfl⟩
    rw [← hN] at hpass hrow hal
    have hN0 : 0 < N := by rw [← hal]; exact hsp.1
    have hNl : N ≤ 1048576 := by
      obtain ⟨q, h1, _⟩ := allI_reads bs
      have := reads_length h1
      omega
    obtain ⟨p0, p1, p2, p3, p4, p5⟩ := cells6 hpass
    have HP := Lib.hid (⟨hm, hfst, hpass, hrow, hrows, hmap, hpl, hb⟩ : _ ∧ _ ∧ _ ∧ _ ∧ _ ∧ _ ∧ _ ∧ _)
    have HQ := Lib.hid (⟨hs0, hs1, hts, hcp, hnm, hsp⟩ : _ ∧ _ ∧ _ ∧ _ ∧ _ ∧ _)
    have HN := Lib.hid hN
    have HAL := Lib.hid hal
    clear hm hfst hpass hrow hrows hmap hpl hb hs0 hs1 hts hck hnm hcp hsp hal hN HRI
    obtain ⟨j0, hj0, jz0, jz1, jz2⟩ := info_parts infoSpan
    obtain ⟨k0, hk0, kz0, kz1, kz2⟩ := info_parts infoBool7
    have hm1 : ∀ w : World, (Instr.makeSlice 70 (.int .i64 (N : Int)) (.int .i64 (N : Int))).run Tryd.prog w = .ok (.slice (some ⟨w.heap.size, 0, none⟩) N N) (w.alloc (.cells (spRow (List.replicate N (0, 0))).toArray 75)) := fun w => by
      have := run_make (P := Tryd.prog) w 70 75 j0 _ Tryd.underlying70 hj0 jz0 .i64 .i64 (N : Int) (N : Int) (by omega) (Int.le_refl _) (by rw [jz2]; omega) (by omega)
      rw [← spRow_zero]
      simp [jz1] at this
      exact this
    have hm2 : ∀ w : World, (Instr.makeSlice 36 (.int .i64 (N : Int)) (.int .i64 (N : Int))).run Tryd.prog w = .ok (.slice (some ⟨w.heap.size, 0, none⟩) N N) (w.alloc (.cells (boolRow (List.replicate N false)).toArray 4)) := fun w => by
      have := run_make (P := Tryd.prog) w 36 4 k0 _ Tryd.underlying36 hk0 kz0 .i64 .i64 (N : Int) (N : Int) (by omega) (Int.le_refl _) (by rw [kz2]; omega) (by omega)
      rw [← boolRow_zero]
      simp [kz1] at this
      exact this
    go_upto_region 5 with fail
    obtain ⟨H, hH⟩ : ∃ H, H = W1.heap.size := ⟨_, rfl⟩
    have r1 := heap_alloc_before (heap_alloc_at W1 (.cells (spRow (List.replicate N (0, 0))).toArray 75) H hH) (.cells #[.slice (some ⟨H, 0, none⟩) N N] 70)
    have r2 := heap_alloc_at (W1.alloc (.cells (spRow (List.replicate N (0, 0))).toArray 75)) (.cells #[.slice (some ⟨H, 0, none⟩) N N] 70) (H + 1) (by simp [hH])
    have hb2 : Below W1.heap.size W1 ((W1.alloc (.cells (spRow (List.replicate N (0, 0))).toArray 75)).alloc (.cells #[.slice (some ⟨H, 0, none⟩) N N] 70)) := ((Below.refl _ _).alloc (Nat.le_refl _) _).alloc (by simp) _
    have hz2 : ((W1.alloc (.cells (spRow (List.replicate N (0, 0))).toArray 75)).alloc (.cells #[.slice (some ⟨H, 0, none⟩) N N] 70)).heap.size = H + 1 + 1 := by simp [hH]
    rw [← hH] at hb2 ⊢
    generalize (W1.alloc (.cells (spRow (List.replicate N (0, 0))).toArray 75)).alloc (.cells #[.slice (some ⟨H, 0, none⟩) N N] 70) = W2 at r1 r2 hb2 hz2 ⊢
    clear p0 p1 p2 p3 p4 p5
    have HH := Lib.hid hH
    have HB2 := Lib.hid hb2
    obtain ⟨p0, p1, p2, p3, p4, p5⟩ := cells6 (kept_of (by rw [hH] at hb2; exact hb2) HP.out.2.2.1)
    clear hb2 hH
    go_upto_region 6 with fail
    have s1 := heap_alloc_before (heap_alloc_before r1 (.cells (boolRow (List.replicate N false)).toArray 4)) (.cells #[.slice (some ⟨H + 1 + 1, 0, none⟩) N N] 36)
    have s2 := heap_alloc_before (heap_alloc_before r2 (.cells (boolRow (List.replicate N false)).toArray 4)) (.cells #[.slice (some ⟨H + 1 + 1, 0, none⟩) N N] 36)
    have s3 := heap_alloc_before (heap_alloc_at W2 (.cells (boolRow (List.replicate N false)).toArray 4) (H + 1 + 1) hz2.symm) (.cells #[.slice (some ⟨H + 1 + 1, 0, none⟩) N N] 36)
    have s4 := heap_alloc_at (W2.alloc (.cells (boolRow (List.replicate N false)).toArray 4)) (.cells #[.slice (some ⟨H + 1 + 1, 0, none⟩) N N] 36) (H + 1 + 1 + 1) (by simp [hz2])
    have hb3 : Below H W1 ((W2.alloc (.cells (boolRow (List.replicate N false)).toArray 4)).alloc (.cells #[.slice (some ⟨H + 1 + 1, 0, none⟩) N N] 36)) := (HB2.out.alloc (by omega) _).alloc (by simp; omega) _
    have hz3 : ((W2.alloc (.cells (boolRow (List.replicate N false)).toArray 4)).alloc (.cells #[.slice (some ⟨H + 1 + 1, 0, none⟩) N N] 36)).heap.size = H + 1 + 1 + 1 + 1 := by simp [hz2]
    generalize (W2.alloc (.cells (boolRow (List.replicate N false)).toArray 4)).alloc (.cells #[.slice (some ⟨H + 1 + 1, 0, none⟩) N N] 36) = W3 at s1 s2 s3 s4 hb3 hz3 ⊢
    clear p0 p1 p2 p3 p4 p5 r1 r2 hz2 HB2
    obtain ⟨own, hown⟩ : ∃ own, own = tyAt ts s := ⟨_, rfl⟩
    have hpass := HP.out.2.2.1
    rw [← hown] at hpass
    have HOWN := Lib.hid hown
    clear hown
    have hb3' : Below W1.heap.size W1 W3 := by rw [← HH.out]; exact hb3
    obtain ⟨p0, p1, p2, p3, p4, p5⟩ := cells6 (kept_of hb3' hpass)
    obtain ⟨b0, b1⟩ := cell_of1 s2
    obtain ⟨e0, e1⟩ := cell_of1 s4
    have hgpH : gp < H := by rw [HH.out]; exact (Array.getElem?_eq_some_iff.1 hpass).1
    have d0 : W3.cell? ⟨H, 0, none⟩ = some (.int .i64 0) := by
      have := (spRow_at (hv := List.replicate N ((0 : Int), (0 : Int))) (k := 0) (by simpa using hN0)).1
      simp only [World.cell?, s1, List.getElem?_toArray]
      rw [show (0 : Nat) = 0 * 2 from rfl, this, List.getD_eq_getElem?_getD, List.getElem?_replicate, if_pos hN0]
      rfl
    have d1 : W3.cell? ⟨H, 1, none⟩ = some (.int .i64 0) := by
      have := (spRow_at (hv := List.replicate N ((0 : Int), (0 : Int))) (k := 0) (by simpa using hN0)).2
      simp only [World.cell?, s1, List.getElem?_toArray]
      rw [show (1 : Nat) = 0 * 2 + 1 from rfl, this, List.getD_eq_getElem?_getD, List.getElem?_replicate, if_pos hN0]
      rfl
    have df : ∀ o, W3.frozen? ⟨H, o, none⟩ = false := fun o => by simp [World.frozen?, s1]
    have m0 : W3.cell? ⟨H + 1 + 1, 0, none⟩ = some (.bool false) := by
      simp only [World.cell?, s3, List.getElem?_toArray]
      unfold boolRow
      rw [List.getElem?_map, List.getElem?_replicate, if_pos hN0]
      rfl
    have mf : ∀ o, W3.frozen? ⟨H + 1 + 1, o, none⟩ = false := fun o => by simp [World.frozen?, s3]
    have hN0i : (0 : Int) < (N : Int) := by omega
    have HPA := Lib.hid hpass
    have HS := Lib.hid (⟨s1, s2, s3, s4, hb3, hz3⟩ : _ ∧ _ ∧ _ ∧ _ ∧ _ ∧ _)
    clear hpass s1 s2 s3 s4 hb3 hb3' hm1 hm2
    have hne1 : H ≠ H + 1 := by omega
    have hne2 : H ≠ H + 1 + 1 := by omega
    have hne3 : H ≠ H + 1 + 1 + 1 := by omega
    have hne4 : H ≠ gp := by omega
    refine (wpIn_wide (n := 8)).1 ?_
    refine wpIn_region_chain (vals := fun j => ([.slice (some ⟨H, 0, none⟩) N N, .slice (some ⟨H + 1 + 1, 0, none⟩) N N, .pointer (some ⟨gp, 0, none⟩), .pointer (some ⟨gp, 0, none⟩), .pointer (some ⟨gp, 1, none⟩), .pointer (some ⟨gp, 1, none⟩), .int .i64 own.inn, .pointer (some ⟨gp, 0, none⟩), .pointer (some ⟨gp, 0, none⟩), .pointer (some ⟨gp, 1, none⟩), .pointer (some ⟨gp, 1, none⟩), .int .i64 own.inn, .agg #[.int .i64 own.inn, .int .i64 own.inn], .pointer (some ⟨H, 0, none⟩), undef, .pointer (some ⟨H + 1 + 1, 0, none⟩), undef] : List Value).getD j undef) (fun k => ([W3.drew, (W3.drew.setCell ⟨H, 0, none⟩ (.int .i64 own.inn)).setCell ⟨H, 1, none⟩ (.int .i64 own.inn), ((W3.drew.setCell ⟨H, 0, none⟩ (.int .i64 own.inn)).setCell ⟨H, 1, none⟩ (.int .i64 own.inn)).setCell ⟨H + 1 + 1, 0, none⟩ (.bool true)] : List World).getD k default) [14, 16] 1 (by kernel_rfl) (by kernel_rfl) (by kernel_rfl) (by kernel_rfl) ?hlt rfl (by kernel_rfl) (by kernel_rfl) (by kernel_rfl) (by kernel_rfl) rfl (fun i o hi ho k hk ρ hr => ?_) (fun j o hj ho ρ hr => ?_) ?_
    case hlt => kernel_rfl
    · have hil : i < 17 := (List.getElem?_eq_some_iff.1 ho).1
      have hi0 : 14 ≠ i := hi 0 (by omega)
      have hi1 : 16 ≠ i := hi 1 (by omega)
      rcases (show i = 0 ∨ i = 1 ∨ i = 2 ∨ i = 3 ∨ i = 4 ∨ i = 5 ∨ i = 6 ∨ i = 7 ∨ i = 8 ∨ i = 9 ∨ i = 10 ∨ i = 11 ∨ i = 12 ∨ i = 13 ∨ i = 15 by omega) with rfl | rfl | rfl | rfl | rfl | rfl | rfl | rfl | rfl | rfl | rfl | rfl | rfl | rfl | rfl
      · change (_ : List Oper)[0]? = some o at ho
        simp only [List.getElem?_cons_zero, Option.some.injEq] at ho
        subst ho
        have e11 : ρ (.tmp 11) = .pointer (some ⟨H + 1, 0, none⟩) := hr.rest 11 (by kernel_rfl)
        rcases (show k = 0 ∨ k = 1 by omega) with rfl | rfl
        all_goals exact ⟨rfl, .inl (by go_simp)⟩
      · change (_ : List Oper)[1]? = some o at ho
        simp only [List.getElem?_cons_succ, List.getElem?_cons_zero, Option.some.injEq] at ho
        subst ho
        have e12 : ρ (.tmp 12) = .pointer (some ⟨H + 1 + 1 + 1, 0, none⟩) := hr.rest 12 (by kernel_rfl)
        rcases (show k = 0 ∨ k = 1 by omega) with rfl | rfl
        all_goals exact ⟨rfl, .inl (by go_simp)⟩
      · change (_ : List Oper)[2]? = some o at ho
        simp only [List.getElem?_cons_succ, List.getElem?_cons_zero, Option.some.injEq] at ho
        subst ho
        have e9 : ρ (.tmp 9) = .pointer (some ⟨gp, 0, none⟩) := hr.rest 9 (by kernel_rfl)
        rcases (show k = 0 ∨ k = 1 by omega) with rfl | rfl
        all_goals exact ⟨rfl, .inl (by go_simp)⟩
      · change (_ : List Oper)[3]? = some o at ho
        simp only [List.getElem?_cons_succ, List.getElem?_cons_zero, Option.some.injEq] at ho
        subst ho
        have e48 : ρ (.tmp 48) = .pointer (some ⟨gp, 0, none⟩) := hr.deps ⟨2, .data⟩ (by simp) rfl _ _ rfl rfl
        rcases (show k = 0 ∨ k = 1 by omega) with rfl | rfl
        all_goals exact ⟨rfl, .inl (by go_simp)⟩
      · change (_ : List Oper)[4]? = some o at ho
        simp only [List.getElem?_cons_succ, List.getElem?_cons_zero, Option.some.injEq] at ho
        subst ho
        have e49 : ρ (.tmp 49) = .pointer (some ⟨gp, 0, none⟩) := hr.deps ⟨3, .data⟩ (by simp) rfl _ _ rfl rfl
        rcases (show k = 0 ∨ k = 1 by omega) with rfl | rfl
        all_goals exact ⟨rfl, .inl (by go_simp)⟩
      · change (_ : List Oper)[5]? = some o at ho
        simp only [List.getElem?_cons_succ, List.getElem?_cons_zero, Option.some.injEq] at ho
        subst ho
        have e50 : ρ (.tmp 50) = .pointer (some ⟨gp, 1, none⟩) := hr.deps ⟨4, .data⟩ (by simp) rfl _ _ rfl rfl
        rcases (show k = 0 ∨ k = 1 by omega) with rfl | rfl
        all_goals exact ⟨rfl, .inl (by go_simp)⟩
      · change (_ : List Oper)[6]? = some o at ho
        simp only [List.getElem?_cons_succ, List.getElem?_cons_zero, Option.some.injEq] at ho
        subst ho
        have e51 : ρ (.tmp 51) = .pointer (some ⟨gp, 1, none⟩) := hr.deps ⟨5, .data⟩ (by simp) rfl _ _ rfl rfl
        rcases (show k = 0 ∨ k = 1 by omega) with rfl | rfl
        all_goals exact ⟨rfl, .inl (by go_simp)⟩
      · change (_ : List Oper)[7]? = some o at ho
        simp only [List.getElem?_cons_succ, List.getElem?_cons_zero, Option.some.injEq] at ho
        subst ho
        have e9 : ρ (.tmp 9) = .pointer (some ⟨gp, 0, none⟩) := hr.rest 9 (by kernel_rfl)
        rcases (show k = 0 ∨ k = 1 by omega) with rfl | rfl
        all_goals exact ⟨rfl, .inl (by go_simp)⟩
      · change (_ : List Oper)[8]? = some o at ho
        simp only [List.getElem?_cons_succ, List.getElem?_cons_zero, Option.some.injEq] at ho
        subst ho
        have e53 : ρ (.tmp 53) = .pointer (some ⟨gp, 0, none⟩) := hr.deps ⟨7, .data⟩ (by simp) rfl _ _ rfl rfl
        rcases (show k = 0 ∨ k = 1 by omega) with rfl | rfl
        all_goals exact ⟨rfl, .inl (by go_simp)⟩
      · change (_ : List Oper)[9]? = some o at ho
        simp only [List.getElem?_cons_succ, List.getElem?_cons_zero, Option.some.injEq] at ho
        subst ho
        have e54 : ρ (.tmp 54) = .pointer (some ⟨gp, 0, none⟩) := hr.deps ⟨8, .data⟩ (by simp) rfl _ _ rfl rfl
        rcases (show k = 0 ∨ k = 1 by omega) with rfl | rfl
        all_goals exact ⟨rfl, .inl (by go_simp)⟩
      · change (_ : List Oper)[10]? = some o at ho
        simp only [List.getElem?_cons_succ, List.getElem?_cons_zero, Option.some.injEq] at ho
        subst ho
        have e55 : ρ (.tmp 55) = .pointer (some ⟨gp, 1, none⟩) := hr.deps ⟨9, .data⟩ (by simp) rfl _ _ rfl rfl
        rcases (show k = 0 ∨ k = 1 by omega) with rfl | rfl
        all_goals exact ⟨rfl, .inl (by go_simp)⟩
      · change (_ : List Oper)[11]? = some o at ho
        simp only [List.getElem?_cons_succ, List.getElem?_cons_zero, Option.some.injEq] at ho
        subst ho
        have e56 : ρ (.tmp 56) = .pointer (some ⟨gp, 1, none⟩) := hr.deps ⟨10, .data⟩ (by simp) rfl _ _ rfl rfl
        rcases (show k = 0 ∨ k = 1 by omega) with rfl | rfl
        all_goals exact ⟨rfl, .inl (by go_simp)⟩
      · change (_ : List Oper)[12]? = some o at ho
        simp only [List.getElem?_cons_succ, List.getElem?_cons_zero, Option.some.injEq] at ho
        subst ho
        have e52 : ρ (.tmp 52) = .int .i64 own.inn := hr.deps ⟨6, .data⟩ (by simp) rfl _ _ rfl rfl
        have e57 : ρ (.tmp 57) = .int .i64 own.inn := hr.deps ⟨11, .data⟩ (by simp) rfl _ _ rfl rfl
        rcases (show k = 0 ∨ k = 1 by omega) with rfl | rfl
        all_goals exact ⟨rfl, .inl (by go_simp)⟩
      · change (_ : List Oper)[13]? = some o at ho
        simp only [List.getElem?_cons_succ, List.getElem?_cons_zero, Option.some.injEq] at ho
        subst ho
        have e46 : ρ (.tmp 46) = .slice (some ⟨H, 0, none⟩) N N := hr.deps ⟨0, .data⟩ (by simp) rfl _ _ rfl rfl
        have hcst := hr.const
        rcases (show k = 0 ∨ k = 1 by omega) with rfl | rfl
        all_goals exact ⟨rfl, .inl (by go_simp)⟩
      · change (_ : List Oper)[15]? = some o at ho
        simp only [List.getElem?_cons_succ, List.getElem?_cons_zero, Option.some.injEq] at ho
        subst ho
        have e47 : ρ (.tmp 47) = .slice (some ⟨H + 1 + 1, 0, none⟩) N N := hr.deps ⟨1, .data⟩ (by simp) rfl _ _ rfl rfl
        have hcst := hr.const
        rcases (show k = 0 ∨ k = 1 by omega) with rfl | rfl
        all_goals exact ⟨rfl, .inl (by go_simp)⟩
    · rcases (show j = 0 ∨ j = 1 by omega) with rfl | rfl
      · change (_ : List Oper)[14]? = some o at ho
        simp only [List.getElem?_cons_succ, List.getElem?_cons_zero, Option.some.injEq] at ho
        subst ho
        have e59 : ρ (.tmp 59) = .pointer (some ⟨H, 0, none⟩) := hr.deps ⟨13, .data⟩ (by simp) rfl _ _ rfl rfl
        have e58 : ρ (.tmp 58) = .agg #[.int .i64 own.inn, .int .i64 own.inn] := hr.deps ⟨12, .data⟩ (by simp) rfl _ _ rfl rfl
        exact ⟨rfl, .inr ⟨by go_simp, rfl⟩⟩
      · change (_ : List Oper)[16]? = some o at ho
        simp only [List.getElem?_cons_succ, List.getElem?_cons_zero, Option.some.injEq] at ho
        subst ho
        have e60 : ρ (.tmp 60) = .pointer (some ⟨H + 1 + 1, 0, none⟩) := hr.deps ⟨15, .data⟩ (by simp) rfl _ _ rfl rfl
        have hcst := hr.const
        exact ⟨rfl, .inr ⟨by go_simp, rfl⟩⟩
    · intro listed a3 _ hJ3
      obtain ⟨tm, df⟩ := a3
      obtain rfl : df = [] := hJ3.defers
      obtain ⟨u, hu, ha⟩ := frame_open (a := { tmps := tm, defers := [] }) (n := 168) hJ3.size
      dsimp only at hu ha
      have f9 : tm.getD 9 undef = .pointer (some ⟨gp, 0, none⟩) := hJ3.rest 9 (rest_of (by kernel_rfl))
      have f11 : tm.getD 11 undef = .pointer (some ⟨H + 1, 0, none⟩) := hJ3.rest 11 (rest_of (by kernel_rfl))
      have f12 : tm.getD 12 undef = .pointer (some ⟨H + 1 + 1 + 1, 0, none⟩) := hJ3.rest 12 (rest_of (by kernel_rfl))
      rw [hu] at f9 f11 f12
      have ha2 : tm = #[u 0, u 1, u 2, u 3, u 4, u 5, u 6, u 7, u 8, u 9, u 10, u 11, u 12, u 13, u 14, u 15, u 16, u 17, u 18, u 19, u 20, u 21, u 22, u 23, u 24, u 25, u 26, u 27, u 28, u 29, u 30, u 31, u 32, u 33, u 34, u 35, u 36, u 37, u 38, u 39, u 40, u 41, u 42, u 43, u 44, u 45, u 46, u 47, u 48, u 49, u 50, u 51, u 52, u 53, u 54, u 55, u 56, u 57, u 58, u 59, u 60, u 61, u 62, u 63, u 64, u 65, u 66, u 67, u 68, u 69, u 70, u 71, u 72, u 73, u 74, u 75, u 76, u 77, u 78, u 79, u 80, u 81, u 82, u 83, u 84, u 85, u 86, u 87, u 88, u 89, u 90, u 91, u 92, u 93, u 94, u 95, u 96, u 97, u 98, u 99, u 100, u 101, u 102, u 103, u 104, u 105, u 106, u 107, u 108, u 109, u 110, u 111, u 112, u 113, u 114, u 115, u 116, u 117, u 118, u 119, u 120, u 121, u 122, u 123, u 124, u 125, u 126, u 127, u 128, u 129, u 130, u 131, u 132, u 133, u 134, u 135, u 136, u 137, u 138, u 139, u 140, u 141, u 142, u 143, u 144, u 145, u 146, u 147, u 148, u 149, u 150, u 151, u 152, u 153, u 154, u 155, u 156, u 157, u 158, u 159, u 160, u 161, u 162, u 163, u 164, u 165, u 166, u 167] := (Act.mk.inj ha).1
      rw [f9, f11, f12] at ha2
      clear hJ3 hu ha f9 f11 f12
      subst ha2
      obtain ⟨s1, s2, s3, s4, hb3, hz3⟩ := HS.out
      have g1 : ((W3.drew.setCell ⟨H, 0, none⟩ (.int .i64 own.inn)).setCell ⟨H, 1, none⟩ (.int .i64 own.inn)).heap[H]? = some (.cells (spRow ((List.replicate N (0, 0)).set 0 (own.inn, own.inn))).toArray 75 (0, 0)) := by
        rw [← spRow_set (k := 0) (own.inn, own.inn) (by simpa using hN0)]
        exact heap_set2 (show W3.drew.heap[H]? = _ from s1) _ _ _ _
      have k2 : ((W3.drew.setCell ⟨H, 0, none⟩ (.int .i64 own.inn)).setCell ⟨H, 1, none⟩ (.int .i64 own.inn)).heap[H + 1 + 1]? = some (.cells (boolRow (List.replicate N false)).toArray 4 (0, 0)) := (heap_setKeep _ (by first | (simp; done) | (simp; omega)) _).trans ((heap_setKeep _ (by first | (simp; done) | (simp; omega)) _).trans s3)
      have hfa : FAt H N ((List.replicate N (0, 0)).set 0 (own.inn, own.inn)) ((List.replicate N false).set 0 true) (((W3.drew.setCell ⟨H, 0, none⟩ (.int .i64 own.inn)).setCell ⟨H, 1, none⟩ (.int .i64 own.inn)).setCell ⟨H + 1 + 1, 0, none⟩ (.bool true)) := by
        refine ⟨(heap_setKeep _ (by first | (simp; done) | (simp; omega)) _).trans g1, (heap_setKeep _ (by first | (simp; done) | (simp; omega)) _).trans ((heap_setKeep _ (by simp) _).trans ((heap_setKeep _ (by simp) _).trans s2)), ?_, (heap_setKeep _ (by simp) _).trans ((heap_setKeep _ (by first | (simp; done) | (simp; omega)) _).trans ((heap_setKeep _ (by first | (simp; done) | (simp; omega)) _).trans s4)), by first | (simp; done) | (simp; omega)⟩
        rw [show boolRow ((List.replicate N false).set 0 true) = (boolRow (List.replicate N false)).set 0 (.bool true) from by unfold boolRow; rw [List.map_set]]
        exact heap_setN k2 0 (.bool true)
      have hbW : Below H W1 (((W3.drew.setCell ⟨H, 0, none⟩ (.int .i64 own.inn)).setCell ⟨H, 1, none⟩ (.int .i64 own.inn)).setCell ⟨H + 1 + 1, 0, none⟩ (.bool true)) := ((hb3.drew.setCell (Nat.le_refl _) _).setCell (Nat.le_refl _) _).setCell (by first | (simp; done) | (simp; omega)) _
      obtain ⟨hp1, hp2, hp3, hp4, hp5, hp6, hp7, hp8⟩ := HP.out
      obtain ⟨q1, q2, q3, q4, q5, q6⟩ := HQ.out
      have hob : Bnd (own.inn, own.inn) := by
        have := tyAt_ok q3 s
        rw [← HOWN.out] at this
        unfold Bnd
        omega
      have hst := strel_start (ts := ts) (own := own) (l := allI bs) HAL.out.symm hN0 hob (0, 0)
      have hrun : runH ts own (allI bs) (N - ([] : List (Int × Int)).length) [] = heightsE ts s bs := by
        unfold heightsE
        rw [hp1, if_pos rfl, HOWN.out, HAL.out]
        rfl
      generalize ((W3.drew.setCell ⟨H, 0, none⟩ (.int .i64 own.inn)).setCell ⟨H, 1, none⟩ (.int .i64 own.inn)).setCell ⟨H + 1 + 1, 0, none⟩ (.bool true) = W4 at hfa hbW ⊢
      have HR4 := Lib.hid (⟨_, _, _, rfl, hst, hrun, hfa, hbW⟩ : FRel ts s bs own H N W1 0 W4)
      obtain ⟨p0, p1, p2, p3, p4, p5⟩ := cells6 (kept_of (by rw [HH.out] at hbW; exact hbW) HPA.out)
      clear s1 s2 s3 s4 hb3 hz3 g1 k2 hfa hbW hp1 hp2 hp3 hp4 hp5 hp6 hp7 hp8 q1 q2 q3 q4 q5 q6 hob hst hrun HS d0 d1 df m0 mf b0 b1 e0 e1
      go_wp2
      go_loopw [66] (fun vk wr => ∃ n : Nat, vk = .int .i64 n ∧ n ≤ N ∧ Hid (FRel ts s bs own H N W1 n wr)) (fun vk _ => N - (intOf vk).toNat)
      case atStart => exact ⟨0, rfl, Nat.zero_le _, HR4⟩
      case round =>
        obtain ⟨n, rfl, hnN, HREL⟩ := hrel
        clear p0 p1 p2 p3 p4 p5 HR4
        by_cases hlt : n < N
        · obtain ⟨hp1, hp2, hp3, hp4, hp5, hp6, hp7, hp8⟩ := HP.out
          obtain ⟨q1, q2, q3, q4, q5, q6⟩ := HQ.out
          obtain ⟨hs, hv, mt, hsl, hst, hrun, hfa, hbW⟩ := HREL.out
          have hbW' : Below W1.heap.size W1 wr := by rw [← HH.out]; exact hbW
          have hxn : n < xs.length := by rw [← HN.out]; exact hlt
          obtain ⟨⟨i, yv⟩, hy⟩ : ∃ y, xs[n]? = some y := ⟨_, List.getElem?_eq_getElem hxn⟩
          obtain ⟨hr1, hr2, hr3, hr4⟩ := insCells_at hy
          have hym := List.mem_of_getElem? hy
          have hyr := hp5 _ hym
          have hil : (allI bs).getD n zeroI = i := by rw [← hp2, List.getD_eq_getElem?_getD, List.getElem?_map, hy]; rfl
          have him : i ∈ allI bs := by rw [← hp2]; exact List.mem_map.2 ⟨_, hym, rfl⟩
          dsimp only at hr1 hr2 hr3 hr4
          replace hyr : W1.ownsRow w.heap.size 5 1 yv i.imm.length (byteVs i.imm) := hyr
          obtain ⟨X, c, rfl⟩ := owns_shape hyr
          obtain ⟨gl, rfl⟩ := own_head hp4 hN0
          obtain ⟨pe, hrd, -⟩ := allI_reads bs
          have hio : InsOK W1 i X := by
            refine ⟨owned_ints hyr, reads_bytes HZ.out hrd _ him, ?_, ?_⟩
            · have := reads_imm7 hrd _ him
              omega
            · have := reads_lt hrd _ him
              have h2 := reads_next7 hrd _ him
              exact wf64 (by omega) (by omega)
          have c0 := cell_later hbW' ((hp4.cellAt (n * 4) (by omega)).trans hr1)
          have c1 := cell_later hbW' ((hp4.cellAt (n * 4 + 1) (by omega)).trans hr2)
          have c2 := cell_later hbW' ((hp4.cellAt (n * 4 + 2) (by omega)).trans hr3)
          have c3 := cell_later hbW' ((hp4.cellAt (n * 4 + 3) (by omega)).trans hr4)
          obtain ⟨f1, f2, f3, f4, f5⟩ := hfa
          obtain ⟨b0, b1⟩ := cell_of1 f2
          obtain ⟨e0, e1⟩ := cell_of1 f4
          have m0 : wr.cell? ⟨H + 1 + 1, n, none⟩ = some (.bool (mt.getD n false)) := by
            have hl : n < mt.length := by rw [hst.lq, HAL.out]; exact hlt
            simp only [World.cell?, f3, List.getElem?_toArray]
            unfold boolRow
            rw [List.getElem?_map, List.getD_eq_getElem?_getD, List.getElem?_eq_getElem hl]
            rfl
          have h1 : (n : Int) < (N : Int) := by omega
          have HI := Lib.hid (⟨hil, him, hio, hyr, hy⟩ : _ ∧ _ ∧ _ ∧ _ ∧ _)
          have HST := Lib.hid (⟨hst, hrun⟩ : _ ∧ _)
          have HFA := Lib.hid (⟨⟨f1, f2, f3, f4, f5⟩, hbW⟩ : FAt H N hv mt wr ∧ _)
          clear hbW hbW' HREL
          clear hp1 hp2 hp3 hp4 hp5 hp6 hp7 hp8 q1 q2 q3 q4 q5 q6 hst hrun hxn hr1 hr2 hr3 hr4 hyr hil him hrd hio hym f1 f3 hy
          go_upto_region 10 with fail
          obtain ⟨T, hT⟩ : ∃ T, T = wr.heap.size := ⟨_, rfl⟩
          have hb5 : Below wr.heap.size wr ((wr.alloc (.cells #[.int .i64 n] 3)).alloc (.cells #[.int .i64 i.at_, .int .i64 i.code, .slice X i.imm.length c, .int .i64 i.next] 42)) := ((Below.refl _ _).alloc (Nat.le_refl _) _).alloc (by simp) _
          have r1 := heap_alloc_before (heap_alloc_at wr (.cells #[.int .i64 n] 3) T hT) (.cells #[.int .i64 i.at_, .int .i64 i.code, .slice X i.imm.length c, .int .i64 i.next] 42)
          have r2 := heap_alloc_at (wr.alloc (.cells #[.int .i64 n] 3)) (.cells #[.int .i64 i.at_, .int .i64 i.code, .slice X i.imm.length c, .int .i64 i.next] 42) (T + 1) (by simp [hT])
          have hz5 : ((wr.alloc (.cells #[.int .i64 n] 3)).alloc (.cells #[.int .i64 i.at_, .int .i64 i.code, .slice X i.imm.length c, .int .i64 i.next] 42)).heap.size = T + 1 + 1 := by simp [hT]
          rw [← hT]
          generalize (wr.alloc (.cells #[.int .i64 n] 3)).alloc (.cells #[.int .i64 i.at_, .int .i64 i.code, .slice X i.imm.length c, .int .i64 i.next] 42) = W5 at hb5 r1 r2 hz5 ⊢
          clear b0 b1 e0 e1 m0 c0 c1 c2 c3 f2 f4
          obtain ⟨hfa, hbW⟩ := HFA.out
          have hT4 : H + 4 ≤ T := by rw [hT]; exact hfa.2.2.2.2
          have hfa5 : FAt H N hv mt W5 := fat_below hfa hb5
          have hbW5 : Below H W1 W5 := hbW.trans (hb5.mono (by have := hfa.2.2.2.2; omega))
          have HF5 := Lib.hid hfa5
          have HB5 := Lib.hid (⟨hbW5, r1, r2, hz5⟩ : _ ∧ _ ∧ _ ∧ _)
          obtain ⟨f1, f2, f3, f4, f5⟩ := hfa5
          obtain ⟨b0, b1⟩ := cell_of1 f2
          obtain ⟨e0, e1⟩ := cell_of1 f4
          obtain ⟨n0, n1⟩ := cell_of1 r1
          obtain ⟨i0, i1, i2, i3, i4, i5⟩ := cells4 r2
          have m0 : W5.cell? ⟨H + 1 + 1, n, none⟩ = some (.bool (mt.getD n false)) := bool_at f3 (by rw [HST.out.1.lq, HAL.out]; exact hlt)
          have hbt : Below w.heap.size w W5 := HP.out.2.2.2.2.2.2.2.trans (hbW5.mono (by rw [HH.out]; exact HP.out.2.2.2.2.2.2.2.size))
          have HBT := Lib.hid hbt
          clear HFA hfa hb5 r1 r2 hz5 hbW hT hbW5 hbt f1 f2 f3 f4 f5
          have hhd := fun (g' : Int × Int) => strel_head (g' := g') (hsl ▸ HST.out.1) (by rw [hsl, HAL.out]; exact hlt)
          have hN1 : N - hs.length = (N - n - 1) + 1 := by rw [hsl]; omega
          by_cases hm : mt.getD n false = true
          · rw [hm] at m0
            have hbn := HST.out.1.bnd n (by rw [HAL.out]; exact hlt)
            have hst0 : stO hv mt n = some (hv.getD n (0, 0)) := by unfold stO; rw [if_pos hm]
            have hhd1 : headH ts own (allI bs) hs hs.length = some (hv.getD n (0, 0)) := by rw [(hhd (0, 0)).1, hsl, hst0]
            have hhd2 : ∀ g' : Int × Int, StRel ts own (allI bs) (hs ++ [hv.getD n (0, 0)]) n g' [] hv mt := fun g' => by
              have := (hhd g').2 (by rw [hsl]; exact hm)
              rw [hsl] at this
              exact this
            obtain ⟨sp0, sp1⟩ := span_at HF5.out.1 (by rw [HST.out.1.lh, HAL.out]; exact hlt)
            have hnm : NamesOK ts i := names_ok HI.out.2.2.1.2.1 (HQ.out.2.2.2.2.1 i HI.out.2.1) (named_nonneg HI.out.2.2.1.2.1)
            have HWR := Lib.hid (fun (w2 : World) (hb : Below W5.heap.size W5 w2) => wrong_any gp A ts capT own (some ⟨gl, 0, none⟩) N cl mb i X c (hv.getD n (0, 0)) w2 (kept_of hb (kept_of (by rw [← HH.out]; exact HB5.out.1) HPA.out)) (tys_below HT.out (HBT.out.trans (hb.mono HBT.out.size))) (insok_below (insok_below HI.out.2.2.1 (by rw [← HH.out]; exact HB5.out.1)) hb) hnm HQ.out.2.2.1 (by rw [HOWN.out]; exact tyOK_at HQ.out.2.2.1 s) (by unfold Bnd at hbn; omega))
            obtain ⟨k, hk⟩ : ∃ k, k = wrongI ts own i (hv.getD n (0, 0)) := ⟨_, rfl⟩
            rw [← hk] at HWR
            obtain ⟨h, hh⟩ : ∃ h, h = hv.getD n (0, 0) := ⟨_, rfl⟩
            rw [← hh] at HWR hbn hhd1 hhd2 sp0 sp1 hk
            have HHD := Lib.hid (⟨hbn, hh, hhd1, hhd2, hk, hN1, hm⟩ : _ ∧ _ ∧ _ ∧ _ ∧ _ ∧ _ ∧ _)
            have HNM := Lib.hid hnm
            obtain ⟨ha, hb⟩ := h
            dsimp only at sp0 sp1
            clear hbn hh hhd1 hhd2 hk hN1 hm hhd hst0 hnm
            have u0 := fun d os => cell_regrown i0 d os
            have u1 := fun d os => cell_regrown i1 d os
            have u2 := fun d os => cell_regrown i2 d os
            have u3 := fun d os => cell_regrown i3 d os
            have u4 := fun d os => cell_regrown b0 d os
            have u5 := fun d os => cell_regrown n0 d os
            have u6 := fun d os => cell_regrown sp0 d os
            have u7 := fun d os => cell_regrown sp1 d os
            have uN := fun d os => calls_grown (w := W5) (fun w2 hb => HWR.out w2 hb) d os
            unfold insV spV at uN
            dsimp only at uN
            go_wp2
            refine wp_region_quiet_below (by kernel_rfl) (by kernel_rfl) ?_
            repeat (refine wpQuiet_step (fun K hK => ?_); go_simp; first | (refine hK _ ?_; clear hK K) | (apply Exists.intro; refine ⟨fun _ => ?_, hK _ ?_⟩; with_reducible exact uN _ _; clear hK K))
            refine wpQuiet_nil ?_
            rintro _ ⟨pq, rfl⟩
            have hb6 := below_regrown W5 pq.d pq.os
            generalize grow (redrawn W5 pq.d) pq.os = W6 at hb6 ⊢
            clear u0 u1 u2 u3 u4 u5 u6 u7 uN b0 b1 e0 e1 n0 n1 i0 i1 i2 i3 i4 i5 m0 sp0 sp1 HWR
            have HB6 := Lib.hid hb6
            obtain ⟨i0, i1, i2, i3, i4, i5⟩ := cells4 (kept_of hb6 HB5.out.2.2.1)
            by_cases hk0 : k = 0
            · subst hk0
              have hfa6 := fat_below HF5.out hb6
              have hB6 : Below w.heap.size w W6 := HBT.out.trans (hb6.mono HBT.out.size)
              have hbn := HHD.out.1
              have htb := turnsI_bounds HQ.out.2.2.1 (tyOK_at HQ.out.2.2.1 s) (i := i) (own := tyAt ts s) HI.out.2.2.1.2.1
              rw [← HOWN.out] at htb
              have HTU := Lib.hid (fun (W : World) (hb : Below W6.heap.size W6 W) => turns_any gp A ts capT own (some ⟨gl, 0, none⟩) N cl mb i X c W (kept_of hb (kept_of hb6 (kept_of (by rw [← HH.out]; exact HB5.out.1) HPA.out))) (tys_below HT.out (hB6.trans (hb.mono hB6.size))) (insok_below (insok_below (insok_below HI.out.2.2.1 (by rw [← HH.out]; exact HB5.out.1)) hb6) hb) HNM.out)
              have hgo : goH ts own i (ha, hb) = (ha - (turnsI ts own i).1 + (turnsI ts own i).2, hb - (turnsI ts own i).1 + (turnsI ts own i).2) := rfl
              unfold Bnd at hbn
              dsimp only at hbn
              have HON := Lib.hid (fun (W : World) => on_any ha hb (turnsI ts own i).1 (turnsI ts own i).2 W (by omega) (by omega) (by omega) (by omega))
              unfold insV at HTU
              have HGO := Lib.hid hgo
              have HF6 := Lib.hid hfa6
              have HT6 := Lib.hid hB6
              obtain ⟨sp0, sp1⟩ := span_at hfa6.1 (by rw [HST.out.1.lh, HAL.out]; exact hlt)
              rw [← HHD.out.2.1] at sp0 sp1
              dsimp only at sp0 sp1
              obtain ⟨b0, b1⟩ := cell_of1 hfa6.2.1
              obtain ⟨n0, n1⟩ := cell_of1 (kept_of hb6 HB5.out.2.1)
              generalize (turnsI ts own i).1 = tin at HTU htb HON HGO
              generalize (turnsI ts own i).2 = tout at HTU htb HON HGO
              clear hb6 hgo hfa6 hB6 hbn htb
              go_wp2
              refine (wpIn_wide (n := 8)).1 ?_
              refine wpIn_region_made (vals := fun j => ([.slice (some ⟨H, 0, none⟩) N N, .int .i64 n, .pointer (some ⟨H, n * 2, none⟩), .agg #[.int .i64 ha, .int .i64 hb], .pointer (some ⟨gp, 0, none⟩), .agg #[.int .i64 i.at_, .int .i64 i.code, .slice X i.imm.length c, .int .i64 i.next], .tuple #[.int .i64 tin, .int .i64 tout], .int .i64 tin, .int .i64 tout, .agg #[.int .i64 (ha - tin + tout), .int .i64 (hb - tin + tout)], undef, undef] : List Value).getD j undef) 10 11 (.cells #[.int .i64 0, .int .i64 0] 75 (0, 0)) (fun Z W => W6.heap.size ≤ Z ∧ Z < W.heap.size ∧ W.heap[Z]? = some (.cells #[.int .i64 (ha - tin + tout), .int .i64 (hb - tin + tout)] 75 (0, 0)) ∧ Below W6.heap.size W6 W) (by kernel_rfl) (by kernel_rfl) (by kernel_rfl) (by kernel_rfl) (by simp only [List.size_toArray]; kernel_rfl) rfl (by decide) (by kernel_rfl) (fun ix o hi hne ho Z ρ hr hfn W hB => ?_) (fun o ho ρ W => ?_) (fun o ho Z ρ hr W hB hZ0 hZ1 hZ => ?_) ?_
              · have b0' := cell_later hB b0
                have n0' := cell_later hB n0
                have i0' := cell_later hB i0
                have i1' := cell_later hB i1
                have i2' := cell_later hB i2
                have i3' := cell_later hB i3
                have sp0' := cell_later hB sp0
                have sp1' := cell_later hB sp1
                rcases (show ix = 0 ∨ ix = 1 ∨ ix = 2 ∨ ix = 3 ∨ ix = 4 ∨ ix = 5 ∨ ix = 6 ∨ ix = 7 ∨ ix = 8 ∨ ix = 9 by omega) with rfl | rfl | rfl | rfl | rfl | rfl | rfl | rfl | rfl | rfl
                · change (_ : List Oper)[0]? = some o at ho
                  simp only [List.getElem?_cons_zero, Option.some.injEq] at ho
                  subst ho
                  have e11 : ρ (.tmp 11) = .pointer (some ⟨H + 1, 0, none⟩) := hr.rest 11 (by kernel_rfl)
                  exact .inl ⟨rfl, .inl (by go_simp)⟩
                · change (_ : List Oper)[1]? = some o at ho
                  simp only [List.getElem?_cons_succ, List.getElem?_cons_zero, Option.some.injEq] at ho
                  subst ho
                  have e13 : ρ (.tmp 13) = .pointer (some ⟨T, 0, none⟩) := hr.rest 13 (by kernel_rfl)
                  exact .inl ⟨rfl, .inl (by go_simp)⟩
                · change (_ : List Oper)[2]? = some o at ho
                  simp only [List.getElem?_cons_succ, List.getElem?_cons_zero, Option.some.injEq] at ho
                  subst ho
                  have e90 : ρ (.tmp 90) = .slice (some ⟨H, 0, none⟩) N N := hr.deps ⟨0, .data⟩ (by simp) rfl _ _ rfl rfl
                  have e91 : ρ (.tmp 91) = .int .i64 n := hr.deps ⟨1, .data⟩ (by simp) rfl _ _ rfl rfl
                  exact .inl ⟨rfl, .inl (by go_simp)⟩
                · change (_ : List Oper)[3]? = some o at ho
                  simp only [List.getElem?_cons_succ, List.getElem?_cons_zero, Option.some.injEq] at ho
                  subst ho
                  have e92 : ρ (.tmp 92) = .pointer (some ⟨H, n * 2, none⟩) := hr.deps ⟨2, .data⟩ (by simp) rfl _ _ rfl rfl
                  exact .inl ⟨rfl, .inl (by go_simp)⟩
                · change (_ : List Oper)[4]? = some o at ho
                  simp only [List.getElem?_cons_succ, List.getElem?_cons_zero, Option.some.injEq] at ho
                  subst ho
                  have e9 : ρ (.tmp 9) = .pointer (some ⟨gp, 0, none⟩) := hr.rest 9 (by kernel_rfl)
                  exact .inl ⟨rfl, .inl (by go_simp)⟩
                · change (_ : List Oper)[5]? = some o at ho
                  simp only [List.getElem?_cons_succ, List.getElem?_cons_zero, Option.some.injEq] at ho
                  subst ho
                  have e14 : ρ (.tmp 14) = .pointer (some ⟨T + 1, 0, none⟩) := hr.rest 14 (by kernel_rfl)
                  exact .inl ⟨rfl, .inl (by go_simp)⟩
                · change (_ : List Oper)[6]? = some o at ho
                  simp only [List.getElem?_cons_succ, List.getElem?_cons_zero, Option.some.injEq] at ho
                  subst ho
                  have e94 : ρ (.tmp 94) = .pointer (some ⟨gp, 0, none⟩) := hr.deps ⟨4, .data⟩ (by simp) rfl _ _ rfl rfl
                  have e95 : ρ (.tmp 95) = .agg #[.int .i64 i.at_, .int .i64 i.code, .slice X i.imm.length c, .int .i64 i.next] := hr.deps ⟨5, .data⟩ (by simp) rfl _ _ rfl rfl
                  exact .inr ⟨38, #[.pointer (some ⟨gp, 0, none⟩), .agg #[.int .i64 i.at_, .int .i64 i.code, .slice X i.imm.length c, .int .i64 i.next]], by go_simp, HTU.out W hB⟩
                · change (_ : List Oper)[7]? = some o at ho
                  simp only [List.getElem?_cons_succ, List.getElem?_cons_zero, Option.some.injEq] at ho
                  subst ho
                  have e96 : ρ (.tmp 96) = .tuple #[.int .i64 tin, .int .i64 tout] := hr.deps ⟨6, .data⟩ (by simp) rfl _ _ rfl rfl
                  exact .inl ⟨rfl, .inl (by go_simp)⟩
                · change (_ : List Oper)[8]? = some o at ho
                  simp only [List.getElem?_cons_succ, List.getElem?_cons_zero, Option.some.injEq] at ho
                  subst ho
                  have e96 : ρ (.tmp 96) = .tuple #[.int .i64 tin, .int .i64 tout] := hr.deps ⟨6, .data⟩ (by simp) rfl _ _ rfl rfl
                  exact .inl ⟨rfl, .inl (by go_simp)⟩
                · change (_ : List Oper)[9]? = some o at ho
                  simp only [List.getElem?_cons_succ, List.getElem?_cons_zero, Option.some.injEq] at ho
                  subst ho
                  have e93 : ρ (.tmp 93) = .agg #[.int .i64 ha, .int .i64 hb] := hr.deps ⟨3, .data⟩ (by simp) rfl _ _ rfl rfl
                  have e97 : ρ (.tmp 97) = .int .i64 tin := hr.deps ⟨7, .data⟩ (by simp) rfl _ _ rfl rfl
                  have e98 : ρ (.tmp 98) = .int .i64 tout := hr.deps ⟨8, .data⟩ (by simp) rfl _ _ rfl rfl
                  exact .inr ⟨37, #[.agg #[.int .i64 ha, .int .i64 hb], .int .i64 tin, .int .i64 tout], by go_simp, HON.out W⟩
              · change (_ : List Oper)[10]? = some o at ho
                simp only [List.getElem?_cons_succ, List.getElem?_cons_zero, Option.some.injEq] at ho
                subst ho
                exact ⟨rfl, by go_simp⟩
              · change (_ : List Oper)[11]? = some o at ho
                simp only [List.getElem?_cons_succ, List.getElem?_cons_zero, Option.some.injEq] at ho
                subst ho
                have e16 : ρ (.tmp 16) = .pointer (some ⟨Z, 0, none⟩) := hr.deps ⟨10, .data⟩ (by simp) rfl _ _ rfl rfl
                have e99 : ρ (.tmp 99) = .agg #[.int .i64 (ha - tin + tout), .int .i64 (hb - tin + tout)] := hr.deps ⟨9, .data⟩ (by simp) rfl _ _ rfl rfl
                (obtain ⟨z0, z1, zf⟩ := cells2 hZ; exact made_last hZ hZ0 hZ1 hB ⟨rfl, .inr ⟨by go_simp, rfl⟩⟩)
              · intro listed a3 Z W7 hl3 hJ3 hWe
                have ha3 := jt_act hJ3 hl3 (by kernel_rfl) (by simp only [List.size_toArray]; kernel_rfl)
                clear hJ3 hl3
                obtain ⟨g1, hg1⟩ : ∃ g, g = ha - tin + tout := ⟨_, rfl⟩
                obtain ⟨g2, hg2⟩ : ∃ g, g = hb - tin + tout := ⟨_, rfl⟩
                rw [← hg1, ← hg2] at hWe ha3 HGO
                simp only [putAll, valsZ, List.getD_cons_zero, List.getD_cons_succ, Nat.zero_add, Nat.reduceAdd, Nat.reduceEqDiff, if_true, if_false] at ha3
                subst ha3
                obtain ⟨hZ6, hZ7, hgZ, hB7⟩ := hWe
                clear hg1 hg2 HTU HON b0 b1 n0 n1 sp0 sp1 i0 i1 i2 i3 i4 i5
                obtain ⟨i0, i1, i2, i3, i4, i5⟩ := cells4 (kept_of hB7 (kept_of HB6.out HB5.out.2.2.1))
                have HW7 := Lib.hid (⟨hZ6, hZ7, hgZ, hB7⟩ : _ ∧ _ ∧ _ ∧ _)
                clear hZ6 hZ7 hgZ hB7
                go_wp2_with (go_at_call 40; refine stop_r ?_)
                unfold StopR
                refine (of_any _ _).mono ?_
                unfold rowC
                rintro e W8 ⟨rfl, hb8⟩
                have r6 := heap_alloc_new W8 (.cells #[.int .i64 (opR i.code).code, .string (opR i.code).name, .int .i64 (opR i.code).imm, .int .i64 (opR i.code).inn, .int .i64 (opR i.code).out, .int .i64 (opR i.code).gas, .bool (opR i.code).ends] 82)
                have hb9 := hb8.alloc hb8.size (.cells #[.int .i64 (opR i.code).code, .string (opR i.code).name, .int .i64 (opR i.code).imm, .int .i64 (opR i.code).inn, .int .i64 (opR i.code).out, .int .i64 (opR i.code).gas, .bool (opR i.code).ends] 82)
                clear i0 i1 i2 i3 i4 i5 hb8
                go_upto_region 18 with fail
                obtain ⟨R, hR⟩ : ∃ R, R = W8.heap.size := ⟨_, rfl⟩
                rw [← hR] at r6 ⊢
                generalize W8.alloc (.cells #[.int .i64 (opR i.code).code, .string (opR i.code).name, .int .i64 (opR i.code).imm, .int .i64 (opR i.code).inn, .int .i64 (opR i.code).out, .int .i64 (opR i.code).gas, .bool (opR i.code).ends] 82) = W9 at r6 hb9 ⊢
                clear hR
                obtain ⟨k0, k1, k2, k3, k4, k5, k6, kz, kl⟩ := cells7 r6
                clear k0 k1 k2 k3 k4 k5 kz kl r6
                have HMR : Hid (MRel ts bs own H N T Z n i X c (hs ++ [(ha, hb)]) (g1, g2) W1 [] W9) := Lib.hid (by
                  obtain ⟨hZ6, hZ7, hgZ, hB7⟩ := HW7.out
                  have hF := fat_below (fat_below HF6.out hB7) hb9
                  refine ⟨hv, mt, ?_, ⟨kept_of hb9 (kept_of hB7 (kept_of HB6.out HB5.out.2.1)), hF.2.1, kept_of hb9 hgZ, hF.2.2.2.1, hF.1, hF.2.2.1, ?_, ?_⟩, kept_of hb9 (kept_of hB7 (kept_of HB6.out HB5.out.2.2.1)), ?_⟩
                  · exact HHD.out.2.2.2.1 _
                  · rw [HST.out.1.lh, HAL.out]
                  · rw [HST.out.1.lq, HAL.out]
                  · have h5 := HB5.out.1
                    have s5 := (HF5.out.2.2.2.2)
                    have s6 := HB6.out.size
                    exact h5.trans ((HB6.out.mono (by omega)).trans ((hB7.mono (by omega)).trans (hb9.mono (by have := hB7.size; omega)))))
                have hZT : T + 1 < Z := by
                  have := HW7.out.1
                  have h2 := HB6.out.size
                  rw [HB5.out.2.2.2] at h2
                  omega
                clear hb9
                have HSQ := Lib.hid (next_there (n := n) HQ.out.2.2.2.1.1 (by rw [HAL.out]; exact hlt))
                have hgb : Bnd (g1, g2) := by
                  rw [← HGO.out]
                  exact goH_bnd HQ.out.2.2.1 (by rw [HOWN.out]; exact tyOK_at HQ.out.2.2.1 s) HI.out.2.2.1.2.1 HHD.out.1 HHD.out.2.2.2.2.1.symm
                have HGB := Lib.hid hgb
                clear hgb
                go_upto_if 109 with fail
                clear k6
                go_cut [66] from 66 to 133 (fun s66 wx => s66 = .int .i64 n ∧ Hid (MRel ts bs own H N T Z n i X c (hs ++ [(ha, hb)]) (g1, g2) W1 (if (opR i.code).ends then [] else [n + 1]) wx))
                case first =>
                  cases hends : (opR i.code).ends with
                  | true =>
                    go_wp2_with fail
                    go_meet
                    exact ⟨rfl, Lib.hid (by rw [if_pos hends]; exact HMR.out)⟩
                  | false =>
                    rw [HI.out.1, HAL.out] at HSQ
                    have hc := mrel_call (t := n + 1) HMR.out hT4 hZT (HSQ.out hends) (by omega) HAL.out (by simp [hsl]) HGB.out
                    rw [show (((n + 1 : Nat)) : Int) = (n : Int) + 1 from rfl] at hc
                    have HC := Lib.hid hc
                    have HE2 := Lib.hid hends
                    clear hc hends
                    obtain ⟨n0, n1⟩ := cell_of1 HMR.out.choose_spec.choose_spec.2.1.cn
                    go_wp2_with (go_at_call 39; refine stop_o ?_)
                    unfold StopO
                    refine HC.out.mono ?_
                    rintro e wx ⟨rfl, hm, -⟩
                    go_wp2_with fail
                    go_meet
                    exact ⟨rfl, Lib.hid (by rw [if_neg (by rw [HE2.out]; decide)]; exact hm)⟩
                case rest =>
                  obtain ⟨rfl, HM2⟩ := hcut
                  obtain ⟨hv2, mt2, hx1, hx2, hx3, hx4⟩ := HM2.out
                  obtain ⟨i0, i1, i2, i3, i4, i5⟩ := cells4 hx3
                  have hbc : Below W1.heap.size W1 wc := by rw [← HH.out]; exact hx4
                  have hio := insok_below HI.out.2.2.1 hbc
                  have HL := Lib.hid (leads_any i X c wc hio.1 hio.2.1 hio.2.2.1 (owned_cap HI.out.2.2.2.1) hio.2.2.2)
                  unfold insV at HL
                  have hHc : H + 4 < wc.heap.size := by
                    have := (Array.getElem?_eq_some_iff.1 hx2.cg).1
                    omega
                  clear hx1 hx2 hx3 hx4 hbc hio HMR
                  go_wp2_with (go_at_call 21; refine stop_o ?_)
                  unfold StopO
                  refine HL.out.mono ?_
                  rintro e W10 ⟨vl, rfl, hol, hb10⟩
                  obtain ⟨Xt, ct, rfl⟩ := owns_shape hol
                  have HM3 := Lib.hid (mrel_below HM2.out hb10)
                  have HOL := Lib.hid hol
                  clear hol hb10 i0 i1 i2 i3 i4 i5 HL HM2
                  have hLl : (leadsI i).length ≤ 100000000 := Nat.le_trans (leadsI_len HI.out.2.2.1.2.1) (by omega)
                  go_wp2
                  go_loopw [117] (fun vj wx => ∃ j : Nat, vj = .int .i64 j ∧ j ≤ (leadsI i).length ∧ Hid (MRel ts bs own H N T Z n i X c (hs ++ [(ha, hb)]) (g1, g2) W1 ((if (opR i.code).ends then [] else [n + 1]) ++ ((leadsI i).take j).map (idxI (allI bs))) wx ∧ (∀ m, m < j → (decide (n < idxI (allI bs) ((leadsI i).getD m 0)) || (hs ++ [(ha, hb)]).getD (idxI (allI bs) ((leadsI i).getD m 0)) (0, 0) == (g1, g2)) = true) ∧ wx.ownsRow wc.heap.size 3 1 (.slice Xt (leadsI i).length ct) (leadsI i).length (intVs (leadsI i)))) (fun vj _ => (leadsI i).length - (intOf vj).toNat)
                  case atStart => exact ⟨0, rfl, Nat.zero_le _, Lib.hid ⟨by simpa using HM3.out, fun m h => absurd h (Nat.not_lt_zero _), HOL.out⟩⟩
                  case round =>
                    obtain ⟨j, rfl, hj, HJ⟩ := hrel
                    by_cases hjl : j < (leadsI i).length
                    · have hjl1 : (j : Int) < ((leadsI i).length : Int) := by omega
                      obtain ⟨y, rfl, hy⟩ := owned_ints64 HJ.out.2.2 j hjl
                      obtain ⟨t, ht⟩ : ∃ t, t = (leadsI i).getD j 0 := ⟨_, rfl⟩
                      have htm : t ∈ leadsI i := by rw [ht, List.getD_eq_getElem?_getD, List.getElem?_eq_getElem hjl]; exact List.getElem_mem hjl
                      obtain ⟨hix, hat⟩ := good_idx (HQ.out.2.2.2.1.2 i HI.out.2.1 t htm)
                      rw [← ht] at hy
                      obtain ⟨q, hq⟩ : ∃ q, q = idxI (allI bs) t := ⟨_, rfl⟩
                      rw [← hq] at hix hat
                      have hqN : q < N := by rw [← HAL.out]; exact hix
                      have htw : (Lit.int .i64 t).wf = true := by
                        obtain ⟨pe, hrd, -⟩ := allI_reads bs
                        have hb := reads_lt hrd _ (show (allI bs).getD q zeroI ∈ allI bs by rw [List.getD_eq_getElem?_getD, List.getElem?_eq_getElem hix]; exact List.getElem_mem hix)
                        have hb2 := reads_next7 hrd _ (show (allI bs).getD q zeroI ∈ allI bs by rw [List.getD_eq_getElem?_getD, List.getElem?_eq_getElem hix]; exact List.getElem_mem hix)
                        have hb3 := reads_pos hrd
                        rw [hat] at hb
                        exact wf64 (by omega) (by omega)
                      have hbr : Below W1.heap.size W1 wr := by rw [← HH.out]; exact HJ.out.1.choose_spec.choose_spec.2.2.2
                      have HMAP := Lib.hid (map_below7 HP.out.2.2.2.2.2.1 hbr)
                      have hpl : D.atKey (.int .i64 t) (.lit (.int .i64 0)) = .lit (.int .i64 q) := by
                        have hx : q < (xs.map Prod.fst).length := by rw [HP.out.2.1]; exact hix
                        have := HP.out.2.2.2.2.2.2.1 q hx
                        rw [← hat]
                        rw [List.getD_eq_getElem?_getD, List.getElem?_eq_getElem hix]
                        have e : (xs.map Prod.fst)[q] = (allI bs)[q] := by simp only [HP.out.2.1]
                        rw [e] at this
                        exact this
                      have HPL := Lib.hid hpl
                      have HCALL := Lib.hid (mrel_call (t := q) HJ.out.1 hT4 hZT hqN (by omega) HAL.out (by simp [hsl]) HGB.out)
                      have HT2 := Lib.hid (⟨ht, hq⟩ : _ ∧ _)
                      obtain ⟨p0, p1, p2, p3, p4, p5⟩ := cells6 (kept_of hbr HPA.out)
                      have HK := Lib.hid (Go.Maps.keyOf_int_mk Tryd.underlying3 htw)
                      clear ht hq hix hat hbr hpl htm htw hqN
                      go_wp2_with (first | (at_lookup; refine wpList_lookup_own_int _ rfl _ _ 71 rfl 3 3 .i64 int_key Tryd.underlying71 Tryd.underlying3 (zero_int7 _) mb _ D rfl HMAP.out _ _ rfl HK.out ?_; intro cL hcl hwc) | (go_at_call 39; refine stop_o ?_))
                      unfold StopO
                      obtain rfl : (q : Int) = cL := by
                        have := HPL.out.symm.trans hcl
                        simpa using this
                      refine HCALL.out.mono ?_
                      rintro e wx ⟨rfl, hm, hkp⟩
                      have hrow := own_as7 HJ.out.2.2 (fun b hb' => hkp b (by have := (HJ.out.2.2.lt b hb').1; omega) (by have := (HJ.out.2.2.lt b hb').1; omega))
                      obtain ⟨hvx, mtx, hx1, hx2, hx3, hx4⟩ := hm
                      obtain ⟨i0, i1, i2, i3, i4, i5⟩ := cells4 hx3
                      have HBX := Lib.hid (HP.out.2.2.2.2.2.2.2.trans (hx4.mono (by rw [HH.out]; exact HP.out.2.2.2.2.2.2.2.size)))
                      have HMX : Hid (MRel ts bs own H N T Z n i X c (hs ++ [(ha, hb)]) (g1, g2) W1 (((if (opR i.code).ends then [] else [n + 1]) ++ ((leadsI i).take j).map (idxI (allI bs))) ++ [q]) wx) := Lib.hid ⟨hvx, mtx, hx1, hx2, hx3, hx4⟩
                      have HROW := Lib.hid hrow
                      clear hx1 hx2 hx3 hx4 hkp hrow p0 p1 p2 p3 p4 p5 hcl hwc hy HCALL HMAP HPL
                      obtain ⟨b, hb'⟩ : ∃ b, b = (decide (n < q) || (hs ++ [(ha, hb)]).getD q (0, 0) == (g1, g2)) := ⟨_, rfl⟩
                      rw [← hb']
                      have HBB := Lib.hid hb'
                      clear hb'
                      cases b with
                      | true =>
                        have HNX : Hid (MRel ts bs own H N T Z n i X c (hs ++ [(ha, hb)]) (g1, g2) W1 ((if (opR i.code).ends then [] else [n + 1]) ++ ((leadsI i).take (j + 1)).map (idxI (allI bs))) wx ∧ (∀ m, m < j + 1 → (decide (n < idxI (allI bs) ((leadsI i).getD m 0)) || (hs ++ [(ha, hb)]).getD (idxI (allI bs) ((leadsI i).getD m 0)) (0, 0) == (g1, g2)) = true)) := Lib.hid (by
                          obtain ⟨e1, e2⟩ := HT2.out
                          refine ⟨?_, fun m hm => ?_⟩
                          · have : ((leadsI i).take (j + 1)).map (idxI (allI bs)) = ((leadsI i).take j).map (idxI (allI bs)) ++ [q] := by
                              rw [List.take_add_one, List.getElem?_eq_getElem hjl, List.map_append, e2, e1, List.getD_eq_getElem?_getD, List.getElem?_eq_getElem hjl]
                              rfl
                            rw [this, ← List.append_assoc]
                            exact HMX.out
                          · by_cases e : m < j
                            · exact HJ.out.2.1 m e
                            · have e3 : m = j := by omega
                              subst e3
                              rw [← e1, ← e2]
                              exact HBB.out.symm)
                        clear i0 i1 i2 i3 i4 i5
                        go_wp2
                        exact ⟨⟨j + 1, by go_num, by omega, Lib.hid ⟨HNX.out.1, HNX.out.2, HROW.out⟩⟩, by simp [intOf]; omega⟩
                      | false =>
                        have HE : Hid (heightsE ts s bs = ([], 72, i.at_)) := Lib.hid (by
                          obtain ⟨_, _, h3, _, h5, h6, _⟩ := HHD.out
                          obtain ⟨e1, e2⟩ := HT2.out
                          rw [← HST.out.2, h6, runH_loop h3 (by rw [hsl, HI.out.1]; exact h5.symm) (by rw [hsl, back_form HI.out.1 hsl HGO.out]; exact back_no hjl (by rw [← e1, ← e2]; exact HBB.out.symm)), hsl, HI.out.1])
                        go_wp2
                        go_quiet (fail)
                        go_wp2
                        refine bodyPost_ret (results_tmp3 rfl _ _ _) rfl ?_
                        exact heights_err HE.out (below_drewN HBX.out _)
                    · obtain rfl : j = (leadsI i).length := by omega
                      have hfin : FRel ts s bs own H N W1 (n + 1) wr := by
                        have h := HJ.out.1
                        rw [List.take_of_length_le (Nat.le_refl _)] at h
                        obtain ⟨_, _, h3, _, h5, h6, _⟩ := HHD.out
                        exact mrel_done h HI.out.1 hsl HGO.out h5.symm h3 HST.out.2 hlt (back_yes HJ.out.2.1) hT4
                      have HFIN := Lib.hid hfin
                      clear hfin
                      go_wp2
                      exact ⟨⟨n + 1, by go_num, by omega, HFIN⟩, by simp [intOf]; omega⟩
            · have hk1 : (k != 0) = true := by rw [bne_iff_ne]; exact hk0
              have he : heightsE ts s bs = ([], k, i.at_) := by
                obtain ⟨_, _, hhd1, _, hk, hN1, _⟩ := HHD.out
                rw [← HST.out.2, hN1, runH_wrong hhd1 (by rw [hsl, HI.out.1, ← hk]; exact hk0), hsl, HI.out.1, ← hk]
              have HE := Lib.hid he
              have HB7 := Lib.hid (HBT.out.trans (hb6.mono HBT.out.size))
              clear he hk0 hb6
              go_wp2
              go_quiet (fail)
              go_wp2
              refine bodyPost_ret (results_tmp3 rfl _ _ _) rfl ?_
              exact heights_err HE.out (below_drewN HB7.out _)
          · have hm' : mt.getD n false = false := by simpa using hm
            rw [hm'] at m0
            have he : heightsE ts s bs = ([], 73, i.at_) := by
              rw [← HST.out.2, hN1, runH_dead, hsl, HI.out.1]
              rw [(hhd (0, 0)).1]
              unfold stO
              rw [hsl, if_neg hm]
            have HE := Lib.hid he
            clear he hhd hm hm' hN1
            go_wp2
            go_quiet (fail)
            go_wp2
            refine bodyPost_ret (results_tmp3 rfl _ _ _) rfl ?_
            exact heights_err HE.out (below_drewN HBT.out _)
        · obtain rfl : n = N := by omega
          obtain ⟨WR, hWR⟩ : ∃ W : World, W = wr := ⟨_, rfl⟩
          subst hWR
          obtain ⟨hs, hv, mt, hsl, hst, hrun, hfa, hbW⟩ := HREL.out
          have hE : heightsE ts s bs = (hs, 0, 0) := by rw [← hrun, hsl, Nat.sub_self]; rfl
          have hbW' : Below W1.heap.size W1 WR := by rw [← HH.out]; exact hbW
          obtain ⟨p0, p1, p2, p3, p4, p5⟩ := cells6 (kept_of hbW' HPA.out)
          obtain ⟨l0, hl0, lz0, lz1, lz2⟩ := info_parts infoHeight
          have hm3 : ∀ w : World, (Instr.makeSlice 26 (.int .i64 0) (.int .i64 (n : Int))).run Tryd.prog w = .ok (.slice (some ⟨w.heap.size, 0, none⟩) 0 n) (w.alloc (.cells (madeCells #[.int .i64 0, .int .i64 0, .int .i64 0] (n * 3)) 38)) := fun w => by
            have := run_make (P := Tryd.prog) w 26 38 l0 _ Tryd.underlying26 hl0 lz0 .i64 .i64 0 (n : Int) (Int.le_refl _) (by omega) (by rw [lz2]; omega) (by omega)
            simp [lz1] at this
            exact this
          have HF := Lib.hid (⟨hE, hst, hfa, hbW, hsl⟩ : _ ∧ _ ∧ _ ∧ _ ∧ _)
          have HPB := Lib.hid (kept_of hbW' HPA.out)
          clear hE hst hfa hbW hsl hrun hbW' HREL
          go_upto_region 28 with fail
          have hrow0 : (WR.alloc (.cells (madeCells #[.int .i64 0, .int .i64 0, .int .i64 0] (n * 3)) 38)).ownsRow WR.heap.size 38 3 (.slice (some ⟨WR.heap.size, 0, none⟩) 0 n) 0 [] := World.ownsRow_made _ _ _ (Nat.le_refl _) (by unfold maxLen; omega) (by simp [madeCells])
          have hbb : Below WR.heap.size WR (WR.alloc (.cells (madeCells #[.int .i64 0, .int .i64 0, .int .i64 0] (n * 3)) 38)) := (Below.refl _ _).alloc (Nat.le_refl _) _
          generalize WR.alloc (.cells (madeCells #[.int .i64 0, .int .i64 0, .int .i64 0] (n * 3)) 38) = Wm at hrow0 hbb ⊢
          clear p0 p1 p2 p3 p4 p5
          obtain ⟨p0, p1, p2, p3, p4, p5⟩ := cells6 (kept_of hbb HPB.out)
          go_wp2
          go_loopw [22, 145] (fun vl vk wx => ∃ k : Nat, vk = .int .i64 k ∧ k ≤ n ∧ Hid (wx.ownsRow WR.heap.size 38 3 vl k (hgCells (allI bs) (hs.take k)) ∧ Below WR.heap.size WR wx)) (fun _ vk _ => n - (intOf vk).toNat)
          case atStart =>
            refine ⟨0, rfl, Nat.zero_le _, Lib.hid ⟨?_, hbb⟩⟩
            have e : hgCells (allI bs) (hs.take 0) = [] := by simp [hgCells]
            rw [e]
            exact hrow0
          case round =>
            obtain ⟨k, rfl, hk, HK⟩ := hrel
            by_cases hkn : k < n
            · obtain ⟨hrow, hbk⟩ := HK.out
              obtain ⟨Lq, cq, rfl⟩ := owns_shape hrow
              obtain ⟨hp1, hp2, hp3, hp4, hp5, hp6, hp7, hp8⟩ := HP.out
              have hbW' : Below W1.heap.size W1 wr := by
                have h1 : Below W1.heap.size W1 WR := by rw [← HH.out]; exact HF.out.2.2.2.1
                exact h1.trans (hbk.mono h1.size)
              have hxn : k < xs.length := by rw [← HN.out]; exact hkn
              obtain ⟨⟨i, yv⟩, hy⟩ : ∃ y, xs[k]? = some y := ⟨_, List.getElem?_eq_getElem hxn⟩
              obtain ⟨hr1, hr2, hr3, hr4⟩ := insCells_at hy
              have hil : (allI bs).getD k zeroI = i := by rw [← hp2, List.getD_eq_getElem?_getD, List.getElem?_map, hy]; rfl
              dsimp only at hr1 hr2 hr3 hr4
              have hyr : W1.ownsRow w.heap.size 5 1 yv i.imm.length (byteVs i.imm) := hp5 _ (List.mem_of_getElem? hy)
              obtain ⟨X, c, rfl⟩ := owns_shape hyr
              obtain ⟨gl, rfl⟩ := own_head hp4 hN0
              have c0 := cell_later hbW' ((hp4.cellAt (k * 4) (by omega)).trans hr1)
              have c1 := cell_later hbW' ((hp4.cellAt (k * 4 + 1) (by omega)).trans hr2)
              have c2 := cell_later hbW' ((hp4.cellAt (k * 4 + 2) (by omega)).trans hr3)
              have c3 := cell_later hbW' ((hp4.cellAt (k * 4 + 3) (by omega)).trans hr4)
              have h1 : (k : Int) < (n : Int) := by omega
              have HI := Lib.hid hil
              have HROW := Lib.hid hrow
              have HBK := Lib.hid hbk
              clear hp1 hp2 hp3 hp4 hp5 hp6 hp7 hp8 hxn hr1 hr2 hr3 hr4 hil hrow hbk hbW' p0 p1 p2 p3 p4 p5 hrow0 hbb
              go_upto_region 31 with fail
              obtain ⟨T, hT⟩ : ∃ T, T = wr.heap.size := ⟨_, rfl⟩
              have r2 := heap_alloc_at wr (.cells #[.int .i64 i.at_, .int .i64 i.code, .slice X i.imm.length c, .int .i64 i.next] 42) T hT
              have hb5 : Below wr.heap.size wr (wr.alloc (.cells #[.int .i64 i.at_, .int .i64 i.code, .slice X i.imm.length c, .int .i64 i.next] 42)) := (Below.refl _ _).alloc (Nat.le_refl _) _
              rw [← hT]
              generalize wr.alloc (.cells #[.int .i64 i.at_, .int .i64 i.code, .slice X i.imm.length c, .int .i64 i.next] 42) = W5 at r2 hb5 ⊢
              clear c0 c1 c2 c3
              obtain ⟨i0, i1, i2, i3, i4, i5⟩ := cells4 r2
              have hF5 := fat_below (fat_below HF.out.2.2.1 HBK.out) hb5
              obtain ⟨b0, b1⟩ := cell_of1 hF5.2.1
              obtain ⟨sp0, sp1⟩ := span_at hF5.1 (by rw [HF.out.2.1.lh, HAL.out]; exact hkn)
              rw [(HF.out.2.1.old k (by rw [HF.out.2.2.2.2]; exact hkn)).2] at sp0 sp1
              have hFIN0 := hg_snoc (l := allI bs) (hs := hs) (k := k) (by rw [HAL.out]; exact hkn) (by rw [HF.out.2.2.2.2]; exact hkn)
              rw [HI.out] at hFIN0
              obtain ⟨at_, hat⟩ : ∃ x, x = i.at_ := ⟨_, rfl⟩
              obtain ⟨ga, hga⟩ : ∃ x, x = (hs.getD k (0, 0)).1 := ⟨_, rfl⟩
              obtain ⟨gb, hgb⟩ : ∃ x, x = (hs.getD k (0, 0)).2 := ⟨_, rfl⟩
              rw [← hat] at i0 hFIN0
              rw [← hga] at sp0 hFIN0
              rw [← hgb] at sp1 hFIN0
              clear hat hga hgb
              obtain ⟨kk, hkk⟩ : ∃ q : Nat, q = k := ⟨_, rfl⟩
              subst hkk
              have hrow5 := World.ownsRow.alloc (w := W5.drew) (own_below HROW.out hb5.drew) (.cells #[.int .i64 at_, .int .i64 ga, .int .i64 gb] 38)
              have hs5 := hb5.size
              have hs6 := HBK.out.size
              obtain ⟨v2, w2, hr2, hown2, hgrow2, hloc2, -⟩ := run_append_own_keep (P := Tryd.prog) _ WR.heap.size 26 26 38 l0 (.agg #[.int .i64 0, .int .i64 0, .int .i64 0]) 3 24 Tryd.underlying26 hl0 lz0 lz1 lz2 rfl (by decide) _ _ _ hrow5 ⟨W5.heap.size, 0, none⟩ 1 1 [.int .i64 at_, .int .i64 ga, .int .i64 gb] rfl (cells_fresh W5.drew #[.int .i64 at_, .int .i64 ga, .int .i64 gb] _ _ rfl) (by intro u hu; simp at hu; rcases hu with rfl | rfl | rfl <;> rfl) (by unfold maxLen; omega) (by omega) (by simp; omega)
              obtain ⟨L2, cl2, rfl⟩ := owns_shape hown2
              have HFIN : Hid (w2.ownsRow WR.heap.size 38 3 (.slice L2 (kk + 1) cl2) (kk + 1) (hgCells (allI bs) (hs.take (kk + 1))) ∧ Below WR.heap.size WR w2) := Lib.hid (by
                rw [hFIN0]
                refine ⟨hown2, ?_⟩
                have h0 : Below WR.heap.size WR W5 := HBK.out.trans (hb5.mono hs6)
                exact (h0.drew.alloc (by simp; omega) _).grown hgrow2 (by simp; omega) (fun q e => (HROW.out.lt q e).1))
              have hbA : Below W5.heap.size W5 (W5.alloc (.cells #[.int .i64 at_, .int .i64 ga, .int .i64 gb] 38)) := (Below.refl _ _).alloc (Nat.le_refl _) _
              have b0' := cell_later hbA b0
              have i0' := cell_later hbA i0
              have sp0' := cell_later hbA sp0
              have sp1' := cell_later hbA sp1
              clear hrow5 hown2 hgrow2 hloc2 hFIN0 hbA hF5 hb5 r2 hT
              refine (wpIn_wide (n := 8)).1 ?_
              refine region_split 16 ?_
              simp only [List.take_succ_cons, List.take_zero, List.drop_succ_cons, List.drop_zero]
              refine wpIn_region_chain_put (vals := fun j => ([.slice Lq kk cq, .pointer (some ⟨T, 0, none⟩), .int .i64 at_, .slice (some ⟨H, 0, none⟩) n n, .int .i64 kk, .pointer (some ⟨H, kk * 2, none⟩), .pointer (some ⟨H, kk * 2, none⟩), .int .i64 ga, .slice (some ⟨H, 0, none⟩) n n, .int .i64 kk, .pointer (some ⟨H, kk * 2, none⟩), .pointer (some ⟨H, kk * 2 + 1, none⟩), .int .i64 gb, .agg #[.int .i64 at_, .int .i64 ga, .int .i64 gb], .slice (some ⟨W5.heap.size, 0, none⟩) 1 1, .slice L2 (kk + 1) cl2] : List Value).getD j undef) (fun k => ([W5.drew, W5.drew.alloc (.cells #[.int .i64 at_, .int .i64 ga, .int .i64 gb] 38), w2] : List World).getD k default) [14, 15] 1 (by kernel_rfl) (by kernel_rfl) (by kernel_rfl) rfl (by kernel_rfl) (by kernel_rfl) ?hlt rfl (by kernel_rfl) (by kernel_rfl) (by kernel_rfl) (by kernel_rfl) rfl (fun i o hi ho k hk ρ hr => ?_) (fun j o hj ho ρ hr => ?_) ?_
              case hlt => simp only [List.size_toArray]; kernel_rfl
              · have hil : i < 16 := (List.getElem?_eq_some_iff.1 ho).1
                have hi0 : 14 ≠ i := hi 0 (by omega)
                have hi1 : 15 ≠ i := hi 1 (by omega)
                rcases (show i = 0 ∨ i = 1 ∨ i = 2 ∨ i = 3 ∨ i = 4 ∨ i = 5 ∨ i = 6 ∨ i = 7 ∨ i = 8 ∨ i = 9 ∨ i = 10 ∨ i = 11 ∨ i = 12 ∨ i = 13 by omega) with rfl | rfl | rfl | rfl | rfl | rfl | rfl | rfl | rfl | rfl | rfl | rfl | rfl | rfl
                · change (_ : List Oper)[0]? = some o at ho
                  simp only [List.getElem?_cons_zero, Option.some.injEq] at ho
                  subst ho
                  have e22 : ρ (.tmp 22) = .slice Lq kk cq := hr.rest 22 (by kernel_rfl)
                  rcases (show k = 0 ∨ k = 1 by omega) with rfl | rfl
                  all_goals exact ⟨rfl, .inl (by go_simp)⟩
                · change (_ : List Oper)[1]? = some o at ho
                  simp only [List.getElem?_cons_succ, List.getElem?_cons_zero, Option.some.injEq] at ho
                  subst ho
                  have e24 : ρ (.tmp 24) = .pointer (some ⟨T, 0, none⟩) := hr.rest 24 (by kernel_rfl)
                  rcases (show k = 0 ∨ k = 1 by omega) with rfl | rfl
                  all_goals exact ⟨rfl, .inl (by go_simp)⟩
                · change (_ : List Oper)[2]? = some o at ho
                  simp only [List.getElem?_cons_succ, List.getElem?_cons_zero, Option.some.injEq] at ho
                  subst ho
                  have e151 : ρ (.tmp 151) = .pointer (some ⟨T, 0, none⟩) := hr.deps ⟨1, .data⟩ (by simp) rfl _ _ rfl rfl
                  rcases (show k = 0 ∨ k = 1 by omega) with rfl | rfl
                  all_goals exact ⟨rfl, .inl (by go_simp)⟩
                · change (_ : List Oper)[3]? = some o at ho
                  simp only [List.getElem?_cons_succ, List.getElem?_cons_zero, Option.some.injEq] at ho
                  subst ho
                  have e11 : ρ (.tmp 11) = .pointer (some ⟨H + 1, 0, none⟩) := hr.rest 11 (by kernel_rfl)
                  rcases (show k = 0 ∨ k = 1 by omega) with rfl | rfl
                  all_goals exact ⟨rfl, .inl (by go_simp)⟩
                · change (_ : List Oper)[4]? = some o at ho
                  simp only [List.getElem?_cons_succ, List.getElem?_cons_zero, Option.some.injEq] at ho
                  subst ho
                  have e23 : ρ (.tmp 23) = .int .i64 kk := hr.rest 23 (by kernel_rfl)
                  rcases (show k = 0 ∨ k = 1 by omega) with rfl | rfl
                  all_goals exact ⟨rfl, .inl (by go_simp)⟩
                · change (_ : List Oper)[5]? = some o at ho
                  simp only [List.getElem?_cons_succ, List.getElem?_cons_zero, Option.some.injEq] at ho
                  subst ho
                  have e153 : ρ (.tmp 153) = .slice (some ⟨H, 0, none⟩) n n := hr.deps ⟨3, .data⟩ (by simp) rfl _ _ rfl rfl
                  have e154 : ρ (.tmp 154) = .int .i64 kk := hr.deps ⟨4, .data⟩ (by simp) rfl _ _ rfl rfl
                  rcases (show k = 0 ∨ k = 1 by omega) with rfl | rfl
                  all_goals exact ⟨rfl, .inl (by go_simp)⟩
                · change (_ : List Oper)[6]? = some o at ho
                  simp only [List.getElem?_cons_succ, List.getElem?_cons_zero, Option.some.injEq] at ho
                  subst ho
                  have e155 : ρ (.tmp 155) = .pointer (some ⟨H, kk * 2, none⟩) := hr.deps ⟨5, .data⟩ (by simp) rfl _ _ rfl rfl
                  rcases (show k = 0 ∨ k = 1 by omega) with rfl | rfl
                  all_goals exact ⟨rfl, .inl (by go_simp)⟩
                · change (_ : List Oper)[7]? = some o at ho
                  simp only [List.getElem?_cons_succ, List.getElem?_cons_zero, Option.some.injEq] at ho
                  subst ho
                  have e156 : ρ (.tmp 156) = .pointer (some ⟨H, kk * 2, none⟩) := hr.deps ⟨6, .data⟩ (by simp) rfl _ _ rfl rfl
                  rcases (show k = 0 ∨ k = 1 by omega) with rfl | rfl
                  all_goals exact ⟨rfl, .inl (by go_simp)⟩
                · change (_ : List Oper)[8]? = some o at ho
                  simp only [List.getElem?_cons_succ, List.getElem?_cons_zero, Option.some.injEq] at ho
                  subst ho
                  have e11 : ρ (.tmp 11) = .pointer (some ⟨H + 1, 0, none⟩) := hr.rest 11 (by kernel_rfl)
                  rcases (show k = 0 ∨ k = 1 by omega) with rfl | rfl
                  all_goals exact ⟨rfl, .inl (by go_simp)⟩
                · change (_ : List Oper)[9]? = some o at ho
                  simp only [List.getElem?_cons_succ, List.getElem?_cons_zero, Option.some.injEq] at ho
                  subst ho
                  have e23 : ρ (.tmp 23) = .int .i64 kk := hr.rest 23 (by kernel_rfl)
                  rcases (show k = 0 ∨ k = 1 by omega) with rfl | rfl
                  all_goals exact ⟨rfl, .inl (by go_simp)⟩
                · change (_ : List Oper)[10]? = some o at ho
                  simp only [List.getElem?_cons_succ, List.getElem?_cons_zero, Option.some.injEq] at ho
                  subst ho
                  have e158 : ρ (.tmp 158) = .slice (some ⟨H, 0, none⟩) n n := hr.deps ⟨8, .data⟩ (by simp) rfl _ _ rfl rfl
                  have e159 : ρ (.tmp 159) = .int .i64 kk := hr.deps ⟨9, .data⟩ (by simp) rfl _ _ rfl rfl
                  rcases (show k = 0 ∨ k = 1 by omega) with rfl | rfl
                  all_goals exact ⟨rfl, .inl (by go_simp)⟩
                · change (_ : List Oper)[11]? = some o at ho
                  simp only [List.getElem?_cons_succ, List.getElem?_cons_zero, Option.some.injEq] at ho
                  subst ho
                  have e160 : ρ (.tmp 160) = .pointer (some ⟨H, kk * 2, none⟩) := hr.deps ⟨10, .data⟩ (by simp) rfl _ _ rfl rfl
                  rcases (show k = 0 ∨ k = 1 by omega) with rfl | rfl
                  all_goals exact ⟨rfl, .inl (by go_simp)⟩
                · change (_ : List Oper)[12]? = some o at ho
                  simp only [List.getElem?_cons_succ, List.getElem?_cons_zero, Option.some.injEq] at ho
                  subst ho
                  have e161 : ρ (.tmp 161) = .pointer (some ⟨H, kk * 2 + 1, none⟩) := hr.deps ⟨11, .data⟩ (by simp) rfl _ _ rfl rfl
                  rcases (show k = 0 ∨ k = 1 by omega) with rfl | rfl
                  all_goals exact ⟨rfl, .inl (by go_simp)⟩
                · change (_ : List Oper)[13]? = some o at ho
                  simp only [List.getElem?_cons_succ, List.getElem?_cons_zero, Option.some.injEq] at ho
                  subst ho
                  have e152 : ρ (.tmp 152) = .int .i64 at_ := hr.deps ⟨2, .data⟩ (by simp) rfl _ _ rfl rfl
                  have e157 : ρ (.tmp 157) = .int .i64 ga := hr.deps ⟨7, .data⟩ (by simp) rfl _ _ rfl rfl
                  have e162 : ρ (.tmp 162) = .int .i64 gb := hr.deps ⟨12, .data⟩ (by simp) rfl _ _ rfl rfl
                  rcases (show k = 0 ∨ k = 1 by omega) with rfl | rfl
                  all_goals exact ⟨rfl, .inl (by go_simp)⟩
              · rcases (show j = 0 ∨ j = 1 by omega) with rfl | rfl
                · change (_ : List Oper)[14]? = some o at ho
                  simp only [List.getElem?_cons_succ, List.getElem?_cons_zero, Option.some.injEq] at ho
                  subst ho
                  have e163 : ρ (.tmp 163) = .agg #[.int .i64 at_, .int .i64 ga, .int .i64 gb] := hr.deps ⟨13, .data⟩ (by simp) rfl _ _ rfl rfl
                  exact ⟨rfl, .inl (by go_simp)⟩
                · change (_ : List Oper)[15]? = some o at ho
                  simp only [List.getElem?_cons_succ, List.getElem?_cons_zero, Option.some.injEq] at ho
                  subst ho
                  have e150 : ρ (.tmp 150) = .slice Lq kk cq := hr.deps ⟨0, .data⟩ (by simp) rfl _ _ rfl rfl
                  have e164 : ρ (.tmp 164) = .slice (some ⟨W5.heap.size, 0, none⟩) 1 1 := hr.deps ⟨14, .data⟩ (by simp) rfl _ _ rfl rfl
                  exact ⟨rfl, .inl (by show (execOp ρ _).run _ (W5.drew.alloc _) = .ok (.value (.slice L2 (kk + 1) cl2)) w2; unfold execOp; simp only [resolve, invoke, builtin, Sem.run_bind, Sem.run_pure, Result.andThen_ok, List.map_toArray, List.map_cons, List.map_nil, e150, e164]; rw [hr2]; rfl)⟩
              · intro listed2 a2 hl2 hJ2
                have ha2 := jt_act hJ2 hl2 (by kernel_rfl) (by simp only [List.size_toArray]; kernel_rfl)
                simp only [putAll, List.getD_cons_zero, List.getD_cons_succ, Nat.zero_add, Nat.reduceAdd] at ha2
                subst ha2
                refine wpIn_oper_yld (v := .slice L2 (kk + 1) cl2) (w' := w2) rfl ⟨rfl, .inl (by go_simp)⟩ ?_
                go_wp2
                exact ⟨⟨kk + 1, by go_num, by omega, HFIN⟩, by simp [intOf]; omega⟩
            · obtain rfl : k = n := by omega
              go_wp2
              refine bodyPost_ret (results_tmp3 rfl _ _ _) rfl ?_
              obtain ⟨h1, h2⟩ := HK.out
              have hB := HP.out.2.2.2.2.2.2.2.trans (HF.out.2.2.2.1.mono (by rw [HH.out]; exact HP.out.2.2.2.2.2.2.2.size))
              rw [List.take_of_length_le (by rw [HF.out.2.2.2.2]; exact Nat.le_refl _)] at h1
              unfold HeightsOut
              rw [HF.out.1]
              refine ⟨_, rfl, ?_, hB.trans (h2.mono hB.size)⟩
              dsimp only
              rw [HF.out.2.2.2.2]
              exact own_lower h1 hB.size
end Go.Proofs.YtfjmdffhfjnopaaDoor
