/- flow.right: may types, section and code be; what a pass over the section knows. -/
import Derived.Test.YtfjmdffhfjnopaaDoorFlowC
import Derived.Test.YtfjmdffhfjnopaaDoorGen
import Derived.Maps.OwnIn
import Derived.Laws.EntriesVeiled
import Derived.Sort.CutIn
import Derived.LoopIn
import Derived.BigRegionIn
namespace Vouch
open Go.Proofs.YtfjmdffhfjnopaaDoor
theorem reads_lt {bs : List Int} {l : List Ins} {p : Int} (h : Reads bs l p) : ∀ i ∈ l, 0 ≤ i.at_ ∧ i.at_ < p ∧ i.next ≤ p := by
  induction h with
  | nil => intro i hi; cases hi
  | snoc h1 h2 ih =>
    intro i hi
    have hn := read_next h2
    rcases List.mem_append.1 hi with hi | hi
    · have := ih i hi
      omega
    · rw [List.mem_singleton.1 hi]
      omega
theorem read_bytes {bs : List Int} {p : Int} {i : Ins} (hz : ∀ z ∈ bs, 0 ≤ z ∧ z < 256) (h : readE bs p = (0, i)) : ∀ z ∈ i.imm, 0 ≤ z ∧ z < 256 := by
  intro z hzi
  unfold readE at h
  split at h
  · cases h
  · split at h
    · cases h
    · split at h
      · cases h
      · split at h
        · cases h
        · injection h with _ h
          subst h
          exact hz z (List.mem_of_mem_drop (List.mem_of_mem_take hzi))
theorem reads_bytes {bs : List Int} {l : List Ins} {p : Int} (hz : ∀ z ∈ bs, 0 ≤ z ∧ z < 256) (h : Reads bs l p) : ∀ i ∈ l, ∀ z ∈ i.imm, 0 ≤ z ∧ z < 256 := by
  induction h with
  | nil => intro i hi; cases hi
  | snoc h1 h2 ih =>
    intro i hi
    rcases List.mem_append.1 hi with hi | hi
    · exact ih i hi
    · rw [List.mem_singleton.1 hi]
      exact read_bytes hz h2
theorem reads_imm7 {bs : List Int} {l : List Ins} {p : Int} (h : Reads bs l p) : ∀ i ∈ l, i.imm.length ≤ bs.length := by
  induction h with
  | nil => intro i hi; cases hi
  | snoc h1 h2 ih =>
    intro i hi
    rcases List.mem_append.1 hi with hi | hi
    · exact ih i hi
    · rw [List.mem_singleton.1 hi]
      exact (read_next h2).2.2.2.2.2
theorem reads_next7 {bs : List Int} {l : List Ins} {p : Int} (h : Reads bs l p) : ∀ i ∈ l, 0 ≤ i.next ∧ i.next ≤ bs.length := by
  induction h with
  | nil => intro i hi; cases hi
  | snoc h1 h2 ih =>
    intro i hi
    rcases List.mem_append.1 hi with hi | hi
    · exact ih i hi
    · rw [List.mem_singleton.1 hi]
      have := read_next h2
      omega
theorem named_nonneg {i : Ins} (hz : ∀ z ∈ i.imm, 0 ≤ z ∧ z < 256) : 0 ≤ namedN i := by
  have hg : ∀ j, 0 ≤ i.imm.getD j 0 := fun j => by
    rw [List.getD_eq_getElem?_getD]
    cases h : i.imm[j]? with
    | none => simp
    | some z => exact (hz z (List.mem_of_getElem? h)).1
  have h0 := hg 0
  have h1 := hg (0 + 1)
  unfold namedN pairN
  split
  · split
    · omega
    · split
      · exact h0
      · omega
  · omega
theorem tyOK_false {t : Ty} (h : tyOK t = false) : t.inn < 0 ∨ (¬ t.inn < 0 ∧ 127 < t.inn) ∨ (¬ t.inn < 0 ∧ ¬ 127 < t.inn ∧ t.out < 0) ∨ (¬ t.inn < 0 ∧ ¬ 127 < t.inn ∧ ¬ t.out < 0 ∧ 128 < t.out) ∨ (¬ t.inn < 0 ∧ ¬ 127 < t.inn ∧ ¬ t.out < 0 ∧ ¬ 128 < t.out ∧ t.most < 0) ∨ (¬ t.inn < 0 ∧ ¬ 127 < t.inn ∧ ¬ t.out < 0 ∧ ¬ 128 < t.out ∧ ¬ t.most < 0 ∧ 1023 < t.most) := by
  unfold tyOK at h
  simp only [Bool.and_eq_false_iff, decide_eq_false_iff_not] at h
  omega
end Vouch
namespace Go.Proofs.YtfjmdffhfjnopaaDoor
open Go.RowKit Vouch Go.Vk Go.Sort
attribute [local go_sem] Oper.semAt_some
/-- The numbers of instructions by their places. -/
def PlaceD (D : DataW Unit) (l : List Ins) : Prop := ∀ n (h : n < l.length), D.atKey (.int .i64 (l[n]).at_) (.lit (.int .i64 0)) = .lit (.int .i64 n)
theorem place_nil : PlaceD (.map []) [] := fun n h => by simp at h
/-- What right hands back. -/
def RightOut (ts : List Ty) (A : Option Addr) (capT : Nat) (s : Int) (bs : List Int) (w : World) (e : Ending) (w' : World) : Prop :=
  (mayB ts s bs = false ∧ e = .returned (.tuple #[.pointer none, .bool false]) ∧ Below w.heap.size w w') ∨
  (mayB ts s bs = true ∧ ∃ (g mb cl : Nat) (L : Option Addr) (xs : List El) (D : DataW Unit), e = .returned (.tuple #[.pointer (some ⟨g, 0, none⟩), .bool true]) ∧ xs.map Prod.fst = allI bs ∧ PassAt w' g A ts capT (tyAt ts s) L xs.length cl mb ∧
    w'.ownsRow w.heap.size 42 4 (.slice L xs.length cl) xs.length (insCells xs) ∧ RowsAt w.heap.size xs w' ∧ w'.ownsMap Tryd.prog 3 (plainElem Tryd.prog 3) mb xs.length D ∧ PlaceD D (xs.map Prod.fst) ∧ w.heap.size ≤ g ∧ w.heap.size ≤ mb ∧ Below w.heap.size w w')
theorem may_no {ts : List Ty} {s : Int} {bs : List Int} (h : ¬ (0 ≤ s ∧ s < ts.length)) : mayB ts s bs = false := by
  unfold mayB
  by_cases h1 : 0 ≤ s
  · rw [decide_eq_false (p := s < ts.length) (by omega)]; simp
  · rw [decide_eq_false h1]; simp
theorem may_ty {ts : List Ty} {s : Int} {bs : List Int} {k : Nat} (hk : k < ts.length) (h : tyOK (ts.getD k zeroT) = false) : mayB ts s bs = false := by
  have : ts.all tyOK = false := by
    rw [List.all_eq_false]
    refine ⟨ts[k], List.getElem_mem hk, ?_⟩
    rw [List.getD_eq_getElem?_getD, List.getElem?_eq_getElem hk] at h
    simpa using h
  unfold mayB
  rw [this]
  simp
theorem may_check {ts : List Ty} {s : Int} {bs : List Int} (h : ¬ (checkE bs (allI bs)).1 = 0) : mayB ts s bs = false := by
  unfold mayB
  rw [decide_eq_false h]
  simp
theorem may_named {ts : List Ty} {s : Int} {bs : List Int} {k : Nat} (hk : k < (allI bs).length) (h : namedOK ts (tyAt ts s) ((allI bs).getD k zeroI) = false) : mayB ts s bs = false := by
  have : (allI bs).all (namedOK ts (tyAt ts s)) = false := by
    rw [List.all_eq_false]
    refine ⟨(allI bs)[k], List.getElem_mem hk, ?_⟩
    rw [List.getD_eq_getElem?_getD, List.getElem?_eq_getElem hk] at h
    simpa using h
  unfold mayB
  rw [this]
  simp
theorem may_yes {ts : List Ty} {s : Int} {bs : List Int} (h1 : 0 ≤ s) (h2 : s < ts.length) (h3 : ∀ k, k < ts.length → tyOK (ts.getD k zeroT) = true) (h4 : (checkE bs (allI bs)).1 = 0) (h5 : ∀ k, k < (allI bs).length → namedOK ts (tyAt ts s) ((allI bs).getD k zeroI) = true) : mayB ts s bs = true := by
  have e1 : ts.all tyOK = true := by
    rw [List.all_eq_true]
    intro t ht
    obtain ⟨k, hk, rfl⟩ := List.mem_iff_getElem.1 ht
    have := h3 k hk
    rw [List.getD_eq_getElem?_getD, List.getElem?_eq_getElem hk] at this
    simpa using this
  have e2 : (allI bs).all (namedOK ts (tyAt ts s)) = true := by
    rw [List.all_eq_true]
    intro t ht
    obtain ⟨k, hk, rfl⟩ := List.mem_iff_getElem.1 ht
    have := h5 k hk
    rw [List.getD_eq_getElem?_getD, List.getElem?_eq_getElem hk] at this
    simpa using this
  unfold mayB
  rw [e1, e2, decide_eq_true h1, decide_eq_true h2, decide_eq_true h4]
  rfl
/-- What stands while the instructions are gathered. -/
def PInv (bs : List Int) (w : World) (B0 Bh g pp gp mb : Nat) (A : Option Addr) (ts : List Ty) (capT : Nat) (own : Ty) (pre : List El) (W : World) : Prop :=
  ∃ (L : Option Addr) (cl : Nat) (D : DataW Unit), W.heap[pp]? = some (.cells #[.pointer (some ⟨gp, 0, none⟩)] 67 (0, 0)) ∧ PassAt W gp A ts capT own L pre.length cl mb ∧ W.ownsRow B0 42 4 (.slice L pre.length cl) pre.length (insCells pre) ∧
    W.ownsMap Tryd.prog 3 (plainElem Tryd.prog 3) mb pre.length D ∧ PlaceD D (pre.map Prod.fst) ∧ HeldAt bs Bh g W ∧ Below w.heap.size w W ∧ RowsAt B0 pre W ∧ Rising pre ∧ B0 ≤ W.heap.size ∧ ∃ p, Reads bs (pre.map Prod.fst) p
theorem map_stays {B : Nat} {W W' : World} {row : Option Nat} {mb n : Nat} {D : DataW Unit} (h : W.ownsMap Tryd.prog 3 (plainElem Tryd.prog 3) mb n D) (hmb : mb < B) (hg : W.grownBy W' row) (hr : ∀ r, row = some r → B ≤ r ∧ ∃ o : Obj, W.heap[r]? = some o ∧ o.isCells = false) : W'.ownsMap Tryd.prog 3 (plainElem Tryd.prog 3) mb n D :=
  h.kept hg (fun e => by have := (hr mb e.symm).1; omega)
theorem pinv_kept {bs : List Int} {w : World} {B0 Bh g pp gp mb : Nat} {A : Option Addr} {ts : List Ty} {capT : Nat} {own : Ty} (hB : w.heap.size ≤ B0) (hmb : mb < B0) : OwnFrom B0 (PInv bs w B0 Bh g pp gp mb A ts capT own) := by
  intro pre W W' row ⟨L, cl, D, h1, h2, h3, h4, h5, ⟨q, q1, q2, q3, q4⟩, h7, h8, h9, h10, h11⟩ hg hr
  exact ⟨L, cl, D, blk_stays h1 hg hr, blk_stays h2 hg hr, own_stays h3 hg hr, map_stays h4 hmb hg hr, h5, ⟨q, q1, q2, blk_stays q3 hg hr, blk_stays q4 hg hr⟩, bel_stays h7 hB hg hr, fun x hx => own_stays (h8 x hx) hg hr, h9, Nat.le_trans h10 hg.size, h11⟩
theorem own_block7 {W : World} {B e size n b : Nat} {v : Value} {xs : List Value} (h : W.ownsRow B e size v n xs) (hb : v.ownBlock = some b) : ∃ cs, W.heap[b]? = some (.cells cs e (0, 0)) := by
  rcases h.2 with ⟨rfl, _⟩ | ⟨g, cap, cur, rfl, _, hh, _⟩
  · cases hb
  · cases hb
    exact ⟨_, hh⟩
theorem own_as7 {W W' : World} {B e size n : Nat} {v : Value} {xs : List Value} (h : W.ownsRow B e size v n xs) (hk : ∀ b, v.ownBlock = some b → W'.heap[b]? = W.heap[b]?) : W'.ownsRow B e size v n xs := by
  refine ⟨h.1, ?_⟩
  rcases h.2 with h2 | ⟨g, cap, cur, rfl, hB, hh, r⟩
  · exact .inl h2
  · exact .inr ⟨g, cap, cur, rfl, hB, (hk g rfl).trans hh, r⟩
theorem heap_set6_4 {w : World} {g t : Nat} {a0 a1 a2 a3 a4 a5 : Value} {fr : Nat × Nat} (hg : w.heap[g]? = some (.cells #[a0, a1, a2, a3, a4, a5] t fr)) (v : Value) : (w.setCell ⟨g, 4, none⟩ v).heap[g]? = some (.cells #[a0, a1, a2, a3, v, a5] t fr) := by
  rw [setCell_eq_setRow w g 4 _ t fr v hg]
  exact setRow_heap _ _ _ _ _ _ hg
theorem place_snoc {D : DataW Unit} {l : List Ins} {i : Ins} (h : PlaceD D l) (hm : Go.Maps.IsMap D) (hne : ∀ j ∈ l, j.at_ ≠ i.at_) : PlaceD (D.put (.int .i64 i.at_) (.lit (.int .i64 (l.length : Int)))) (l ++ [i]) := by
  intro n hn
  by_cases e : n < l.length
  · rw [List.getElem_append_left e, Go.Maps.atKey_put_other (fun e0 => hne _ (List.getElem_mem e) (by injection e0))]
    exact h n e
  · have e2 : n = l.length := by simp at hn; omega
    subst e2
    rw [List.getElem_append_right (Nat.le_refl _)]
    simp only [Nat.sub_self, List.getElem_cons_zero]
    exact Go.Maps.atKey_put_same hm (by trivial) _ _
theorem leaves_def1 {F : Fence} {n : Nat} {P : Program} {fn : Func} {tmps : Array Value} {R : Ending → World → Prop} {B : Nat} (D : Nat) (W : World) (h2 : B ≤ D) (h3 : W.heap[D]? = some (.deferred (some []))) (h : ∀ W', Below B W W' → (∀ (k : Nat) (o : Obj), k ≠ D → W.heap[k]? = some o → W'.heap[k]? = some o) → LeavesInM F n P fn tmps R [] .returning W') :
    LeavesInM F n P fn tmps R [{ target := .collected D, args := #[] }] .returning W := by
  refine ⟨by simp, .inl ⟨D, _, rfl, run_takeDeferred h3, ?_⟩⟩
  exact h _ ((Below.refl B W).grown (grownBy_putObj' W D (.deferred none)) (Nat.le_of_lt (Nat.lt_of_le_of_lt h2 (Array.getElem?_eq_some_iff.1 h3).1)) (fun k e => by cases e; exact h2)) fun k o hk ho => (World.putObj_heap_other (fun e => hk e)).trans ho
theorem int_key : Go.Maps.Keyed Tryd.prog 3 := Go.Maps.int_keyed Tryd.underlying3
set_option maxHeartbeats 2000000 in
set_option maxRecDepth 100000 in
theorem right_any (ts : List Ty) (A : Option Addr) (capT : Nat) (s : Int) (bs : List Int) (B : Option Addr) (capB : Nat) (w : World) (ht : TysAt w A ts) (hc : IntsAt w .u8 B bs) (hz : ∀ z ∈ bs, 0 ≤ z ∧ z < 256) (hn : bs.length ≤ 1048576) (hcap : bs.length ≤ capB) (htn : ts.length ≤ 1048576) :
    Calls Tryd.prog 35 #[.slice A ts.length capT, .int .i64 s, .slice B bs.length capB] w (RightOut ts A capT s bs w) := by
  obtain ⟨i0, hi0, hz0, hz1, hz2⟩ := info_parts infoIns
  have HT := Lib.hid ht
  have HZ := Lib.hid hz
  have HC := Lib.hid hc
  clear ht hz hc
  have hmm := @run_makeMap Tryd.prog
  refine (callsIn_wide (n := 8)).1 ?_
  refine callsIn_of_wp_marks Tryd.func35 rfl trivial ?_ rfl
  simp only [Tryd.ntmps35, List.size_toArray, List.length_cons, List.length_nil, Nat.reduceAdd, Nat.reduceSub, Array.replicate_succ, Array.replicate_zero, List.push_toArray, List.append_toArray, List.nil_append, List.cons_append]
  refine wpIn_wide.2 ?_
  by_cases h0 : s < 0
  · go_wp2
    refine ⟨_, results_tmp2 rfl _ _ _, ?_⟩
    exact .inl ⟨may_no (by omega), rfl, Below.refl _ _⟩
  · by_cases h1 : (ts.length : Int) ≤ s
    · go_wp2
      refine ⟨_, results_tmp2 rfl _ _ _, ?_⟩
      exact .inl ⟨may_no (by omega), rfl, Below.refl _ _⟩
    · have H01 := Lib.hid (⟨h0, h1⟩ : _ ∧ _)
      go_wp2
      go_loopw [26] (fun vi wr => ∃ k : Nat, vi = .int .i64 k ∧ k ≤ ts.length ∧ (∀ j, j < k → tyOK (ts.getD j zeroT) = true) ∧ Below w.heap.size w wr) (fun vi _ => ts.length - (intOf vi).toNat)
      case atStart => exact ⟨0, rfl, by omega, fun j hj => by omega, Below.refl _ _⟩
      case round =>
        obtain ⟨k, rfl, hk, hok, hB⟩ := hrel
        by_cases hkl : k < ts.length
        · have hki : (k : Int) < (ts.length : Int) := by omega
          obtain ⟨x, rfl, t0, t1, t2⟩ := HT.out k hkl
          replace t0 := cell_later hB t0
          replace t1 := cell_later hB t1
          replace t2 := cell_later hB t2
          have HOK := Lib.hid hok
          clear hok
          obtain ⟨ty, hty⟩ : ∃ ty, ty = ts.getD k zeroT := ⟨_, rfl⟩
          rw [← hty] at t0 t1 t2
          have HTY := Lib.hid hty
          clear hty
          have hba := hB.alloc hB.size (.cells #[.int .i64 ty.inn, .int .i64 ty.out, .int .i64 ty.most] 35)
          have HBA := Lib.hid hba
          obtain ⟨z0, z1, z2, zf, zl⟩ := cells3 (heap_alloc_new wr (.cells #[.int .i64 ty.inn, .int .i64 ty.out, .int .i64 ty.most] 35))
          clear hB hba
          cases hb : tyOK ty with
          | true =>
            have h6 := tyOK_iff hb
            have g0 : ¬ ty.inn < 0 := by omega
            have g1 : ¬ 127 < ty.inn := by omega
            have g2 : ¬ ty.out < 0 := by omega
            have g3 : ¬ 128 < ty.out := by omega
            have g4 : ¬ ty.most < 0 := by omega
            have g5 : ¬ 1023 < ty.most := by omega
            have HB := Lib.hid hb
            clear h6 hb
            go_wp2
            exact ⟨⟨k + 1, by go_num, by omega, fun j hj => by
              rcases (show j < k ∨ j = k by omega) with h | rfl
              · exact HOK.out j h
              · rw [← HTY.out]; exact HB.out, HBA.out⟩, by simp [intOf]; omega⟩
          | false =>
            have HM := Lib.hid (may_ty (s := s) (bs := bs) hkl (by rw [← HTY.out]; exact hb))
            rcases tyOK_false hb with h | h | h | h | h | h
            all_goals
              clear hb
              go_wp2
              refine ⟨_, results_tmp2 rfl _ _ _, ?_⟩
              exact .inl ⟨HM.out, rfl, HBA.out⟩
        · have hki : ¬ (k : Int) < (ts.length : Int) := by omega
          obtain rfl : k = ts.length := by omega
          have HOK := Lib.hid hok
          clear hok
          obtain ⟨W1, hW1⟩ : ∃ W1, W1 = wr := ⟨_, rfl⟩
          subst hW1
          have HCK := Lib.hid (check_any bs B capB W1 (ints_below hB HC.out) HZ.out (by omega) hcap)
          have HB := Lib.hid hB
          clear hB
          go_wp2_with (go_at_call 55; refine stop_o ?_)
          unfold StopO
          refine HCK.out.mono ?_
          rintro e W2 ⟨xs0, hall0, rfl, hb2⟩
          rw [allOf_allI hall0]
          have HB2 := Lib.hid (HB.out.trans (hb2.mono HB.out.size))
          clear hall0 hb2 HCK HB
          by_cases hck : (checkE bs (allI bs)).1 = 0
          · have HCE := Lib.hid hck
            rw [hck]
            clear hck
            obtain ⟨n, hnn⟩ : ∃ n : Nat, s = n := ⟨s.toNat, by omega⟩
            subst hnn
            have hnl : n < ts.length := by omega
            obtain ⟨x, rfl, t0, t1, t2⟩ := HT.out n hnl
            replace t0 := cell_later HB2.out t0
            replace t1 := cell_later HB2.out t1
            replace t2 := cell_later HB2.out t2
            obtain ⟨own, hown⟩ : ∃ own, own = ts.getD n zeroT := ⟨_, rfl⟩
            rw [← hown] at t0 t1 t2
            have HOWN := Lib.hid hown
            clear hown
            have hnl2 : (n : Int) < (ts.length : Int) := by omega
            go_wp2_with (go_at_call 41; refine stop_o ?_)
            unfold StopO
            have hmap := World.ownsMap_made (H := Unit) W2 Tryd.prog 3 (plainElem Tryd.prog 3)
            have hst := heap_alloc_before (heap_alloc_at (W2.alloc (.map #[] 0)) (.cells #[.slice (some x) ts.length capT, .int .i64 own.inn, .int .i64 own.out, .int .i64 own.most, .slice none 0 0, .map (some W2.heap.size)] 73) (W2.heap.size + 1) (by simp)) (.cells #[.pointer (some ⟨W2.heap.size + 1, 0, none⟩)] 67)
            have hpp := heap_alloc_at ((W2.alloc (.map #[] 0)).alloc (.cells #[.slice (some x) ts.length capT, .int .i64 own.inn, .int .i64 own.out, .int .i64 own.most, .slice none 0 0, .map (some W2.heap.size)] 73)) (.cells #[.pointer (some ⟨W2.heap.size + 1, 0, none⟩)] 67) (W2.heap.size + 1 + 1) (by simp)
            have hbA : Below W2.heap.size W2 (((W2.alloc (.map #[] 0)).alloc (.cells #[.slice (some x) ts.length capT, .int .i64 own.inn, .int .i64 own.out, .int .i64 own.most, .slice none 0 0, .map (some W2.heap.size)] 73)).alloc (.cells #[.pointer (some ⟨W2.heap.size + 1, 0, none⟩)] 67)) := (((Below.refl _ _).alloc (Nat.le_refl _) _).alloc (by simp) _).alloc (by simp; omega) _
            replace hmap := (hmap.alloc (.cells #[.slice (some x) ts.length capT, .int .i64 own.inn, .int .i64 own.out, .int .i64 own.most, .slice none 0 0, .map (some W2.heap.size)] 73)).alloc (.cells #[.pointer (some ⟨W2.heap.size + 1, 0, none⟩)] 67)
            have hs2 := HB2.out.size
            have hszA : (((W2.alloc (.map #[] 0)).alloc (.cells #[.slice (some x) ts.length capT, .int .i64 own.inn, .int .i64 own.out, .int .i64 own.most, .slice none 0 0, .map (some W2.heap.size)] 73)).alloc (.cells #[.pointer (some ⟨W2.heap.size + 1, 0, none⟩)] 67)).heap.size = W2.heap.size + 1 + 1 + 1 := by simp
            obtain ⟨mb, hmb⟩ : ∃ mb, mb = W2.heap.size := ⟨_, rfl⟩
            rw [← hmb] at hmap hst hpp hs2 hszA hbA ⊢
            generalize ((W2.alloc (.map #[] 0)).alloc (.cells #[.slice (some x) ts.length capT, .int .i64 own.inn, .int .i64 own.out, .int .i64 own.most, .slice none 0 0, .map (some mb)] 73)).alloc (.cells #[.pointer (some ⟨mb + 1, 0, none⟩)] 67) = W3 at hmap hst hpp hszA hbA ⊢
            have hB3 := HB2.out.trans (hbA.mono hs2)
            clear hbA hmb t0 t1 t2
            refine (codeall_any bs B capB W3 (ints_below hB3 HC.out) (by omega)).mono ?_
            rintro e W4 ⟨g, rfl, hheld, hb4⟩
            have hB4 := hB3.trans (hb4.mono hB3.size)
            have hst4 := kept_of hb4 hst
            have hpp4 := kept_of hb4 hpp
            have hmap4 := hmap.kept (grownBy_below hb4) (by simp)
            have hs4 := hb4.size
            have HX4 := Lib.hid (⟨hB4, hst4, hpp4, hmap4, hheld⟩ : _ ∧ _ ∧ _ ∧ _ ∧ _)
            have hmB0 : mb < W4.heap.size := by omega
            have hwB0 : w.heap.size ≤ W4.heap.size := by omega
            clear hB3 hst hpp hmap hb4 hB4 hst4 hpp4 hmap4 hheld hmm
            go_wp2
            refine (wpIn_wide (n := 8)).1 ?_
            refine wpIn_rangeF rfl (by omega) (gf := 59) (lb := #[.pointer (some ⟨g, 0, none⟩)]) rfl trivial (enters_of Tryd.func59 (by kernel_rfl) rfl) (all1_seq bs HZ.out (by omega) g W3.heap.size 4 W4) (Below.refl _ _) (fun _ => rfl)
              (PInv bs w W4.heap.size W3.heap.size g (mb + 1 + 1) (mb + 1) mb (some x) ts capT own) (fun _ _ _ => False) (pinv_kept hwB0 hmB0) (fun _ _ _ _ _ h _ _ => h)
              ⟨none, 0, .map [], HX4.out.2.2.1, HX4.out.2.1, World.ownsRow_nil _ _ _ _, HX4.out.2.2.2.1, place_nil, HX4.out.2.2.2.2, HX4.out.1, fun x hx => (by cases hx), List.Pairwise.nil, Nat.le_refl _, ⟨0, .nil⟩⟩
              (fun pre W h => h.choose_spec.choose_spec.choose_spec.2.2.2.2.2.1)
              (fun pre y r a' W => (a'.tmps.size = 113 ∧ a'.defers = []) ∧ ∃ Bx X c, mb + 1 + 1 < Bx ∧ mb + 1 + 1 < r ∧ Bx ≠ r ∧ W4.heap.size ≤ Bx ∧ W4.heap.size ≤ r ∧ y.2 = .slice X y.1.imm.length c ∧ W.heap[Bx]? = some (.cells #[.int .i64 y.1.at_, .int .i64 y.1.code, .slice X y.1.imm.length c, .int .i64 y.1.next] 42 (0, 0)) ∧
                W.ownsRow W4.heap.size 5 1 (.slice X y.1.imm.length c) y.1.imm.length (byteVs y.1.imm) ∧ (∃ L cl, PassAt W (mb + 1) (some x) ts capT own L pre.length cl mb ∧ ∀ b, (Value.slice L pre.length cl).ownBlock = some b → b < r ∧ b < Bx) ∧
                (∃ p, Reads bs (pre.map Prod.fst) p ∧ readE bs p = (0, y.1)) ∧ (∀ q ∈ pre, ∀ a b, q.2.ownBlock = some a → y.2.ownBlock = some b → a < b) ∧ a'.tmps.getD 12 undef = .pointer (some ⟨mb + 1 + 1, 0, none⟩) ∧ a'.tmps.getD 13 undef = .pointer (some ⟨Bx, 0, none⟩))
              (fun pre x r a' _ W W' row hs hg hr => by
                obtain ⟨h0, Bx, X, c, h1, h2, h3, h4, h5, h6, h7, h8, ⟨L, cl, h9, h10⟩, h11⟩ := hs
                exact ⟨h0, Bx, X, c, h1, h2, h3, h4, h5, h6, blk_stays h7 hg hr, own_stays h8 hg hr, ⟨L, cl, blk_stays h9 hg hr, h10⟩, h11⟩) ?assign ?body ?done ?stop
            case assign =>
              rintro l pre ⟨i, v⟩ W o K hi ⟨hr, hown, hris⟩ ho hK
              change W.ownsRow W4.heap.size 5 1 v i.imm.length (byteVs i.imm) at hown
              obtain ⟨X, c, rfl⟩ := owns_shape hown
              unfold elV insV
              gi_wp2
              have hsz2 : ((W.alloc o).alloc (.cells #[.int .i64 i.at_, .int .i64 i.code, .slice X i.imm.length c, .int .i64 i.next] 42)).heap[W.heap.size]? = some o := (Below.heap_alloc _ _ _ (by simp)).trans (heap_alloc_new _ _)
              have hg2 : W.grownBy ((W.alloc o).alloc (.cells #[.int .i64 i.at_, .int .i64 i.code, .slice X i.imm.length c, .int .i64 i.next] 42)) none := grownBy_below (((Below.refl _ W).alloc (Nat.le_refl _) _).alloc (by simp) _)
              have hi2 := pinv_kept hwB0 hmB0 pre _ _ none hi hg2 (fun r e => by cases e)
              have ho2 := own_stays (B := 0) hown hg2 (fun r e => by cases e)
              obtain ⟨L, cl, D, e0, e1, e2, _, _, _, eB, _, _, eS, _⟩ := hi
              exact hK _ _ ((KeepsOthers.alloc _ _).from _) hi2 ⟨⟨rfl, rfl⟩, W.heap.size + 1, X, c, by omega, by omega, by omega, by omega, by omega, rfl, heap_alloc_at _ _ _ (by simp), ho2, ⟨L, cl, blk_stays (B := 0) e1 hg2 (fun r e => by cases e), fun b hb' => by have := (e2.lt b hb').2; omega⟩, hr, hris, rfl, rfl⟩ hsz2
            case body =>
              rintro l pre ⟨i1, v⟩ r o ⟨tm, ds⟩ W hl hlr ⟨L, cl, D, e0, e1, e2, e3, e4, e5, eB, e7, e8, eS, e9⟩ ⟨⟨hsz, hds⟩, Bx, X, c, hBx, hr, hne, hBx4, hr4, hv, hx, hown, ⟨L', cl', e1', hvl⟩, ⟨p, hp1, hp2⟩, hris, f12, f13⟩ hro ho
              dsimp only at hsz hds hv hx hown hp2 hris f12 f13
              subst hv hds
              obtain ⟨u, hu, ha⟩ := frame_open (a := { tmps := tm, defers := [] }) hsz
              dsimp only at hu ha
              rw [hu] at f12 f13
              have ha2 : tm = #[u 0, u 1, u 2, u 3, u 4, u 5, u 6, u 7, u 8, u 9, u 10, u 11, u 12, u 13, u 14, u 15, u 16, u 17, u 18, u 19, u 20, u 21, u 22, u 23, u 24, u 25, u 26, u 27, u 28, u 29, u 30, u 31, u 32, u 33, u 34, u 35, u 36, u 37, u 38, u 39, u 40, u 41, u 42, u 43, u 44, u 45, u 46, u 47, u 48, u 49, u 50, u 51, u 52, u 53, u 54, u 55, u 56, u 57, u 58, u 59, u 60, u 61, u 62, u 63, u 64, u 65, u 66, u 67, u 68, u 69, u 70, u 71, u 72, u 73, u 74, u 75, u 76, u 77, u 78, u 79, u 80, u 81, u 82, u 83, u 84, u 85, u 86, u 87, u 88, u 89, u 90, u 91, u 92, u 93, u 94, u 95, u 96, u 97, u 98, u 99, u 100, u 101, u 102, u 103, u 104, u 105, u 106, u 107, u 108, u 109, u 110, u 111, u 112] := (Act.mk.inj ha).1
              rw [f12, f13] at ha2
              subst ha2
              have hLL := (show W.heap[mb + 1]? = _ from e1').symm.trans e1
              have hLL2 : L' = L ∧ cl' = cl := by simpa using hLL
              obtain ⟨rfl, rfl⟩ : L = L' ∧ cl = cl' := ⟨hLL2.1.symm, hLL2.2.symm⟩
              clear hLL hLL2 e1' hu ha f12 f13 hsz
              have hnx := read_next hp2
              have hpl : pre.length ≤ bs.length := by have := reads_length hp1; simpa using this
              obtain ⟨w1, hrun, hown1, hgrow1⟩ := World.ownsMap.update (H := Unit) e3.drew int_key Tryd.underlying71 (by unfold maxLen; omega) (Go.Maps.keyOf_int_mk Tryd.underlying3 (wf64 (n := i1.at_) (by omega) (by omega))) (plainElem_int Tryd.underlying3 (wf64 (n := (pre.length : Int)) (by omega) (by omega)))
              obtain ⟨p0, p1⟩ := cell_of1 e0
              obtain ⟨g0, g1, g2, g3, g4, g5⟩ := cells6 e1
              obtain ⟨k0, k1, k2, k3, kz, kl⟩ := cells4 hx
              have e3 := Lib.hid e3
              have HW := Lib.hid (⟨e0, e1, e2, e4, e5, eB, e7, e8, eS, hx, hown, hvl, hp1, hp2, hris, hro, ho, hown1, hgrow1, hnx⟩ : _ ∧ _ ∧ _ ∧ _ ∧ _ ∧ _ ∧ _ ∧ _ ∧ _ ∧ _ ∧ _ ∧ _ ∧ _ ∧ _ ∧ _ ∧ _ ∧ _ ∧ _ ∧ _ ∧ _)
              clear e0 e1 e2 e4 e5 eB e7 e8 eS e9 hx hown hvl hp1 hp2 hris hro ho hown1 hgrow1 hnx
              gi_wp2
              have F12 : Act.eval { tmps := #[u 0, u 1, u 2, u 3, u 4, u 5, u 6, u 7, u 8, u 9, u 10, u 11, .pointer (some ⟨mb + 1 + 1, 0, none⟩), .pointer (some ⟨Bx, 0, none⟩), u 14, u 15, u 16, u 17, u 18, u 19, u 20, u 21, u 22, u 23, u 24, u 25, u 26, u 27, u 28, u 29, u 30, u 31, u 32, u 33, u 34, u 35, u 36, u 37, u 38, u 39, u 40, u 41, u 42, u 43, u 44, u 45, u 46, u 47, u 48, u 49, u 50, u 51, u 52, u 53, u 54, u 55, u 56, u 57, u 58, u 59, u 60, u 61, u 62, u 63, u 64, u 65, u 66, u 67, u 68, u 69, u 70, u 71, u 72, u 73, u 74, u 75, u 76, u 77, u 78, u 79, u 80, u 81, u 82, u 83, u 84, u 85, u 86, u 87, u 88, u 89, u 90, u 91, u 92, u 93, u 94, u 95, u 96, u 97, u 98, u 99, u 100, u 101, u 102, u 103, u 104, u 105, u 106, u 107, u 108, u 109, u 110, u 111, u 112], defers := [] } (.tmp 12) = .pointer (some ⟨mb + 1 + 1, 0, none⟩) := rfl
              have F13 : Act.eval { tmps := #[u 0, u 1, u 2, u 3, u 4, u 5, u 6, u 7, u 8, u 9, u 10, u 11, .pointer (some ⟨mb + 1 + 1, 0, none⟩), .pointer (some ⟨Bx, 0, none⟩), u 14, u 15, u 16, u 17, u 18, u 19, u 20, u 21, u 22, u 23, u 24, u 25, u 26, u 27, u 28, u 29, u 30, u 31, u 32, u 33, u 34, u 35, u 36, u 37, u 38, u 39, u 40, u 41, u 42, u 43, u 44, u 45, u 46, u 47, u 48, u 49, u 50, u 51, u 52, u 53, u 54, u 55, u 56, u 57, u 58, u 59, u 60, u 61, u 62, u 63, u 64, u 65, u 66, u 67, u 68, u 69, u 70, u 71, u 72, u 73, u 74, u 75, u 76, u 77, u 78, u 79, u 80, u 81, u 82, u 83, u 84, u 85, u 86, u 87, u 88, u 89, u 90, u 91, u 92, u 93, u 94, u 95, u 96, u 97, u 98, u 99, u 100, u 101, u 102, u 103, u 104, u 105, u 106, u 107, u 108, u 109, u 110, u 111, u 112], defers := [] } (.tmp 13) = .pointer (some ⟨Bx, 0, none⟩) := rfl
              refine wpIn_region_last (vals := fun j => ([.pointer (some ⟨mb + 1, 0, none⟩), .pointer (some ⟨mb + 1, 0, none⟩), .pointer (some ⟨mb + 1, 5, none⟩), .map (some mb), .pointer (some ⟨Bx, 0, none⟩), .int .i64 i1.at_, .pointer (some ⟨mb + 1, 0, none⟩), .pointer (some ⟨mb + 1, 0, none⟩), .pointer (some ⟨mb + 1, 4, none⟩), .slice L pre.length cl, .int .i64 pre.length, undef] : List Value).getD j undef) (wB := w1) 11 (by kernel_rfl) (by kernel_rfl) (by kernel_rfl) (by kernel_rfl) (by kernel_rfl) rfl (by kernel_rfl) (fun i o hi ho ρ hr => ?_) (fun o ho ρ hr => ?_) ?_
              · rcases (show i = 0 ∨ i = 1 ∨ i = 2 ∨ i = 3 ∨ i = 4 ∨ i = 5 ∨ i = 6 ∨ i = 7 ∨ i = 8 ∨ i = 9 ∨ i = 10 by omega) with rfl | rfl | rfl | rfl | rfl | rfl | rfl | rfl | rfl | rfl | rfl
                · change (_ : List Oper)[0]? = some o at ho
                  simp only [List.getElem?_cons_zero, Option.some.injEq] at ho
                  subst ho
                  have e12 := (hr.rest 12 (by kernel_rfl)).trans F12
                  exact ⟨rfl, .inl (by go_simp)⟩
                · change (_ : List Oper)[1]? = some o at ho
                  simp only [List.getElem?_cons_succ, List.getElem?_cons_zero, Option.some.injEq] at ho
                  subst ho
                  have e77 : ρ (.tmp 77) = .pointer (some ⟨mb + 1, 0, none⟩) := hr.deps ⟨0, .data⟩ (by simp) rfl _ _ rfl rfl
                  exact ⟨rfl, .inl (by go_simp)⟩
                · change (_ : List Oper)[2]? = some o at ho
                  simp only [List.getElem?_cons_succ, List.getElem?_cons_zero, Option.some.injEq] at ho
                  subst ho
                  have e78 : ρ (.tmp 78) = .pointer (some ⟨mb + 1, 0, none⟩) := hr.deps ⟨1, .data⟩ (by simp) rfl _ _ rfl rfl
                  exact ⟨rfl, .inl (by go_simp)⟩
                · change (_ : List Oper)[3]? = some o at ho
                  simp only [List.getElem?_cons_succ, List.getElem?_cons_zero, Option.some.injEq] at ho
                  subst ho
                  have e79 : ρ (.tmp 79) = .pointer (some ⟨mb + 1, 5, none⟩) := hr.deps ⟨2, .data⟩ (by simp) rfl _ _ rfl rfl
                  exact ⟨rfl, .inl (by go_simp)⟩
                · change (_ : List Oper)[4]? = some o at ho
                  simp only [List.getElem?_cons_succ, List.getElem?_cons_zero, Option.some.injEq] at ho
                  subst ho
                  have e13 := (hr.rest 13 (by kernel_rfl)).trans F13
                  exact ⟨rfl, .inl (by go_simp)⟩
                · change (_ : List Oper)[5]? = some o at ho
                  simp only [List.getElem?_cons_succ, List.getElem?_cons_zero, Option.some.injEq] at ho
                  subst ho
                  have e81 : ρ (.tmp 81) = .pointer (some ⟨Bx, 0, none⟩) := hr.deps ⟨4, .data⟩ (by simp) rfl _ _ rfl rfl
                  exact ⟨rfl, .inl (by go_simp)⟩
                · change (_ : List Oper)[6]? = some o at ho
                  simp only [List.getElem?_cons_succ, List.getElem?_cons_zero, Option.some.injEq] at ho
                  subst ho
                  have e12 := (hr.rest 12 (by kernel_rfl)).trans F12
                  exact ⟨rfl, .inl (by go_simp)⟩
                · change (_ : List Oper)[7]? = some o at ho
                  simp only [List.getElem?_cons_succ, List.getElem?_cons_zero, Option.some.injEq] at ho
                  subst ho
                  have e83 : ρ (.tmp 83) = .pointer (some ⟨mb + 1, 0, none⟩) := hr.deps ⟨6, .data⟩ (by simp) rfl _ _ rfl rfl
                  exact ⟨rfl, .inl (by go_simp)⟩
                · change (_ : List Oper)[8]? = some o at ho
                  simp only [List.getElem?_cons_succ, List.getElem?_cons_zero, Option.some.injEq] at ho
                  subst ho
                  have e84 : ρ (.tmp 84) = .pointer (some ⟨mb + 1, 0, none⟩) := hr.deps ⟨7, .data⟩ (by simp) rfl _ _ rfl rfl
                  exact ⟨rfl, .inl (by go_simp)⟩
                · change (_ : List Oper)[9]? = some o at ho
                  simp only [List.getElem?_cons_succ, List.getElem?_cons_zero, Option.some.injEq] at ho
                  subst ho
                  have e85 : ρ (.tmp 85) = .pointer (some ⟨mb + 1, 4, none⟩) := hr.deps ⟨8, .data⟩ (by simp) rfl _ _ rfl rfl
                  exact ⟨rfl, .inl (by go_simp)⟩
                · change (_ : List Oper)[10]? = some o at ho
                  simp only [List.getElem?_cons_succ, List.getElem?_cons_zero, Option.some.injEq] at ho
                  subst ho
                  have e86 : ρ (.tmp 86) = .slice L pre.length cl := hr.deps ⟨9, .data⟩ (by simp) rfl _ _ rfl rfl
                  exact ⟨rfl, .inl (by go_simp)⟩
              · change (_ : List Oper)[11]? = some o at ho
                simp only [List.getElem?_cons_succ, List.getElem?_cons_zero, Option.some.injEq] at ho
                subst ho
                have e80 : ρ (.tmp 80) = .map (some mb) := hr.deps ⟨3, .data⟩ (by simp) rfl _ _ rfl rfl
                have e82 : ρ (.tmp 82) = .int .i64 i1.at_ := hr.deps ⟨5, .data⟩ (by simp) rfl _ _ rfl rfl
                have e87 : ρ (.tmp 87) = .int .i64 pre.length := hr.deps ⟨10, .data⟩ (by simp) rfl _ _ rfl rfl
                exact ⟨rfl, .inr ⟨by go_simp, rfl⟩⟩
              · intro listed2 a2 _ hJ
                have G12 : a2.eval (.tmp 12) = .pointer (some ⟨mb + 1 + 1, 0, none⟩) := (hJ.rest 12 (rest_of (by kernel_rfl))).trans F12
                have G13 : a2.eval (.tmp 13) = .pointer (some ⟨Bx, 0, none⟩) := (hJ.rest 13 (rest_of (by kernel_rfl))).trans F13
                have hsz2 : a2.tmps.size = 113 := hJ.size
                obtain ⟨e0, e1, e2, e4, e5, eB, e7, e8, eS, hx, hown, hvl, hp1, hp2, hris, hro, ho, hown1, hgrow1, hnx⟩ := HW.out
                have hmq : ∀ {q : Nat} {cs : Array Value} {t : Nat}, W.heap[q]? = some (.cells cs t (0, 0)) → w1.heap[q]? = some (.cells cs t (0, 0)) := fun {q} {cs} {t} hq => (hgrow1.block q (Array.getElem?_eq_some_iff.1 hq).1 (fun e => by
                  injection e with e
                  obtain ⟨es, ck, hm, _⟩ := e3.out
                  rw [← e, hq] at hm
                  cases hm)).trans hq
                have hmr : ∀ {B0 e sz k : Nat} {v : Value} {xs : List Value}, W.ownsRow B0 e sz v k xs → w1.ownsRow B0 e sz v k xs := fun ho => own_as7 ho fun b hb => by
                  obtain ⟨cs, hc⟩ := own_block7 ho hb
                  rw [hc]
                  exact hmq hc
                have x2 := World.ownsRow.alloc (w := w1.drew) (hmr e2) (.cells #[.int .i64 i1.at_, .int .i64 i1.code, .slice X i1.imm.length c, .int .i64 i1.next] 42)
                obtain ⟨v2, w2, hr2, hown2, hgrow2, hloc2, -⟩ := run_append_own_keep (P := Tryd.prog) _ W4.heap.size 32 32 42 i0 (.agg #[.int .i64 0, .int .i64 0, .slice none 0 0, .int .i64 0]) 4 48 Tryd.underlying32 hi0 hz0 hz1 hz2 rfl (by decide) _ _ _ x2 ⟨w1.heap.size, 0, none⟩ 1 1 [.int .i64 i1.at_, .int .i64 i1.code, .slice X i1.imm.length c, .int .i64 i1.next] rfl (cells_fresh w1.drew #[.int .i64 i1.at_, .int .i64 i1.code, .slice X i1.imm.length c, .int .i64 i1.next] _ _ rfl) (by intro u hu; simp at hu; rcases hu with rfl | rfl | rfl | rfl <;> rfl) (by unfold maxLen; omega) (by omega) (by have := hgrow1.size; simp at this ⊢; omega)
                obtain ⟨L2, cl2, rfl⟩ := owns_shape hown2
                have lo : ∀ q, (Value.slice L pre.length cl).ownBlock = some q → W4.heap.size ≤ q := fun q hq => (e2.lt q hq).1
                have hsw := hgrow1.size
                have hsv := hgrow2.size
                simp only [World.size_alloc, World.size_drew] at hsv hsw
                have kB : ∀ {q t : Nat} {cs : Array Value}, W.heap[q]? = some (.cells cs t (0, 0)) → (∀ b, (Value.slice L pre.length cl).ownBlock = some b → q ≠ b) → (w1.drew.alloc (.cells #[.int .i64 i1.at_, .int .i64 i1.code, .slice X i1.imm.length c, .int .i64 i1.next] 42)).heap[q]? = some (.cells cs t (0, 0)) ∧ w2.heap[q]? = some (.cells cs t (0, 0)) := fun {q} {t} {cs} hq hne => by
                  have h1 := heap_alloc_before (w := w1.drew) (hmq hq) (.cells #[.int .i64 i1.at_, .int .i64 i1.code, .slice X i1.imm.length c, .int .i64 i1.next] 42)
                  exact ⟨h1, (hgrow2.block q (Array.getElem?_eq_some_iff.1 h1).1 (fun e => hne q e.symm rfl)).trans h1⟩
                have b0 := kB e0 (fun b hb => by have := lo b hb; omega)
                have b1 := kB e1 (fun b hb => by have := lo b hb; omega)
                have bx := kB hx (fun b hb => by have := (hvl b hb).2; omega)
                obtain ⟨a0, a1⟩ := cell_of1 (hmq e0)
                obtain ⟨a2c, a3⟩ := cell_of1 (heap_alloc_before (hmq e0) (.cells #[.int .i64 i1.at_, .int .i64 i1.code, .slice X i1.imm.length c, .int .i64 i1.next] 42))
                obtain ⟨a4, a5⟩ := cell_of1 b0.2
                obtain ⟨_, _, _, _, a6, _⟩ := cells6 (hmq e1)
                obtain ⟨_, _, _, _, a7, _⟩ := cells6 (heap_alloc_before (hmq e1) (.cells #[.int .i64 i1.at_, .int .i64 i1.code, .slice X i1.imm.length c, .int .i64 i1.next] 42))
                obtain ⟨_, _, _, _, a8, _⟩ := cells6 b1.2
                obtain ⟨k0, k1, k2, k3, kz, kl⟩ := cells4 (hmq hx)
                obtain ⟨n0, n1, n2, n3, nz, nl⟩ := cells4 (heap_alloc_before (hmq hx) (.cells #[.int .i64 i1.at_, .int .i64 i1.code, .slice X i1.imm.length c, .int .i64 i1.next] 42))
                obtain ⟨o0, o1, o2, o3, oz, ol⟩ := cells4 bx.2
                have f2 : w2.frozen? ⟨mb + 1, 4, none⟩ = false := by simp [World.frozen?, (show w2.heap[mb + 1]? = _ from b1.2)]
                have eB1 : Below w.heap.size w w1 := (eB.drew).grown hgrow1 (by have := eB.size; simpa using this) (fun k e => by cases e; exact hs2)
                have HFIN : Hid (KeepsFrom W4.heap.size W (w2.setCell ⟨mb + 1, 4, none⟩ (.slice L2 (pre.length + 1) cl2)) ∧ PInv bs w W4.heap.size W3.heap.size g (mb + 1 + 1) (mb + 1) mb (some x) ts capT own (pre ++ [(i1, .slice X i1.imm.length c)]) (w2.setCell ⟨mb + 1, 4, none⟩ (.slice L2 (pre.length + 1) cl2)) ∧ (w2.setCell ⟨mb + 1, 4, none⟩ (.slice L2 (pre.length + 1) cl2)).heap[r]? = some o) := by
                  have hkr : ∀ {k : Nat} {o' : Obj}, W.heap[k]? = some o' → k ≠ mb → k ≠ mb + 1 → (∀ b, (Value.slice L pre.length cl).ownBlock = some b → k ≠ b) → (w2.setCell ⟨mb + 1, 4, none⟩ (.slice L2 (pre.length + 1) cl2)).heap[k]? = some o' := fun {k} {o'} hk h1 h2 h3 => by
                    have hkl := (Array.getElem?_eq_some_iff.1 hk).1
                    refine (heap_setKeep _ h2 _).trans ((hgrow2.block k (by simp; omega) (fun e => h3 k e.symm rfl)).trans ((Below.heap_alloc w1.drew _ k (by simp; omega)).trans ((hgrow1.block k hkl (fun e => h1 (Option.some.inj e))).trans hk)))
                  have hls : (pre ++ [(i1, Value.slice X i1.imm.length c)]).length = pre.length + 1 := by simp
                  have hmp : (pre ++ [(i1, Value.slice X i1.imm.length c)]).map Prod.fst = pre.map Prod.fst ++ [i1] := by simp
                  refine Lib.hid ⟨⟨by simp; omega, fun k o' hB hk hc => hkr hk (by omega) (by omega) (fun b hb e => ?_)⟩, ⟨L2, cl2, D.put (.int .i64 i1.at_) (.lit (.int .i64 (pre.length : Int))), heap_setOther b0.2 (by simp) _, ?_, ?_, ?_, ?_, ?_, ?_, ?_, rising_snoc e8 hris, by simp; omega, ⟨i1.next, by rw [hmp]; exact .snoc hp1 hp2⟩⟩, hkr hro (by omega) (by omega) (fun b hb => by have := (hvl b hb).1; omega)⟩
                  · obtain ⟨cs, hcs⟩ := own_block7 e2 hb
                    rw [e, hcs] at hk
                    cases hk
                    cases hc
                  · unfold PassAt
                    rw [hls]
                    exact heap_set6_4 b1.2 _
                  · rw [hls, insCells_snoc]
                    exact own_as7 hown2 (fun b hb => heap_setKeep _ (fun e => by have := (hown2.lt b hb).1; simp at e; omega) _)
                  · rw [hls]
                    exact World.ownsMap.setCell ((hown1.drew.alloc _).kept hgrow2 (fun e => by have := lo mb e.symm; omega)) (by simp) _
                  · rw [hmp]
                    have := place_snoc (i := i1) e4 (World.ownsMap.isMap e3.out) (fun j hj => by have := reads_lt hp1 j hj; omega)
                    rwa [List.length_map] at this
                  · obtain ⟨qh, hh1, hh2, hh3, hh4⟩ := e5
                    exact ⟨qh, hh1, hh2, hkr hh3 (by omega) (by omega) (own_type hh3 e2 (by decide)), hkr hh4 (by omega) (by omega) (own_type hh4 e2 (by decide))⟩
                  · exact (((eB1.drew).alloc (by have := eB1.size; simpa using this) _).grown hgrow2 (by have := eB1.size; simp; omega) (fun k e => by have := lo k e; omega)).setCell (p := ⟨mb + 1, 4, none⟩) (by dsimp only; omega) _
                  · intro y hy
                    have hy2 : W.ownsRow W4.heap.size 5 1 y.2 y.1.imm.length (byteVs y.1.imm) := by
                      rcases List.mem_append.1 hy with hy | hy
                      · exact e7 y hy
                      · rw [List.mem_singleton.1 hy]
                        exact hown
                    exact own_setOther (own_grow (World.ownsRow.alloc (w := w1.drew) (hmr hy2) _) x2 (by decide) hgrow2) (by dsimp only; omega) _
                clear hmr kB x2 hown2 hgrow2 hloc2 lo hsv hsw b0 b1 bx e0 e1 e2 e3 e4 e5 eB e7 e8 eS hx hvl hp1 hp2 hris hro ho hown1 hgrow1 hnx eB1 hmq HW
                gi_wp2
                refine wpIn_region_chain (vals := fun j => ([.pointer (some ⟨mb + 1, 0, none⟩), .pointer (some ⟨mb + 1, 0, none⟩), .pointer (some ⟨mb + 1, 0, none⟩), .pointer (some ⟨mb + 1, 4, none⟩), .slice L pre.length cl, .agg #[.int .i64 i1.at_, .int .i64 i1.code, .slice X i1.imm.length c, .int .i64 i1.next], .slice (some ⟨w1.heap.size, 0, none⟩) 1 1, .slice L2 (pre.length + 1) cl2, .pointer (some ⟨mb + 1, 0, none⟩), .pointer (some ⟨mb + 1, 4, none⟩), undef] : List Value).getD j undef) (fun k => ([w1.drew, w1.drew.alloc (.cells #[.int .i64 i1.at_, .int .i64 i1.code, .slice X i1.imm.length c, .int .i64 i1.next] 42), w2, w2.setCell ⟨mb + 1, 4, none⟩ (.slice L2 (pre.length + 1) cl2)] : List World).getD k default) [6, 7, 10] 2 (by kernel_rfl) (by kernel_rfl) (by kernel_rfl) (by kernel_rfl) ?hlt rfl (by kernel_rfl) (by kernel_rfl) (by kernel_rfl) (by kernel_rfl) rfl (fun i o hi ho k hk ρ hr => ?_) (fun j o hj ho ρ hr => ?_) ?_
                case hlt => simp only [hsz2]; kernel_rfl
                · have hil : i < 11 := (List.getElem?_eq_some_iff.1 ho).1
                  have hi0 : 6 ≠ i := hi 0 (by omega)
                  have hi1 : 7 ≠ i := hi 1 (by omega)
                  have hi2 : 10 ≠ i := hi 2 (by omega)
                  rcases (show i = 0 ∨ i = 1 ∨ i = 2 ∨ i = 3 ∨ i = 4 ∨ i = 5 ∨ i = 8 ∨ i = 9 by omega) with rfl | rfl | rfl | rfl | rfl | rfl | rfl | rfl
                  · change (_ : List Oper)[0]? = some o at ho
                    simp only [List.getElem?_cons_zero, Option.some.injEq] at ho
                    subst ho
                    have e12 := (hr.rest 12 (by kernel_rfl)).trans G12
                    rcases (show k = 0 ∨ k = 1 ∨ k = 2 by omega) with rfl | rfl | rfl
                    all_goals exact ⟨rfl, .inl (by go_simp)⟩
                  · change (_ : List Oper)[1]? = some o at ho
                    simp only [List.getElem?_cons_succ, List.getElem?_cons_zero, Option.some.injEq] at ho
                    subst ho
                    have e12 := (hr.rest 12 (by kernel_rfl)).trans G12
                    rcases (show k = 0 ∨ k = 1 ∨ k = 2 by omega) with rfl | rfl | rfl
                    all_goals exact ⟨rfl, .inl (by go_simp)⟩
                  · change (_ : List Oper)[2]? = some o at ho
                    simp only [List.getElem?_cons_succ, List.getElem?_cons_zero, Option.some.injEq] at ho
                    subst ho
                    have e89 : ρ (.tmp 89) = .pointer (some ⟨mb + 1, 0, none⟩) := hr.deps ⟨1, .data⟩ (by simp) rfl _ _ rfl rfl
                    rcases (show k = 0 ∨ k = 1 ∨ k = 2 by omega) with rfl | rfl | rfl
                    all_goals exact ⟨rfl, .inl (by go_simp)⟩
                  · change (_ : List Oper)[3]? = some o at ho
                    simp only [List.getElem?_cons_succ, List.getElem?_cons_zero, Option.some.injEq] at ho
                    subst ho
                    have e90 : ρ (.tmp 90) = .pointer (some ⟨mb + 1, 0, none⟩) := hr.deps ⟨2, .data⟩ (by simp) rfl _ _ rfl rfl
                    rcases (show k = 0 ∨ k = 1 ∨ k = 2 by omega) with rfl | rfl | rfl
                    all_goals exact ⟨rfl, .inl (by go_simp)⟩
                  · change (_ : List Oper)[4]? = some o at ho
                    simp only [List.getElem?_cons_succ, List.getElem?_cons_zero, Option.some.injEq] at ho
                    subst ho
                    have e91 : ρ (.tmp 91) = .pointer (some ⟨mb + 1, 4, none⟩) := hr.deps ⟨3, .data⟩ (by simp) rfl _ _ rfl rfl
                    rcases (show k = 0 ∨ k = 1 ∨ k = 2 by omega) with rfl | rfl | rfl
                    all_goals exact ⟨rfl, .inl (by go_simp)⟩
                  · change (_ : List Oper)[5]? = some o at ho
                    simp only [List.getElem?_cons_succ, List.getElem?_cons_zero, Option.some.injEq] at ho
                    subst ho
                    have e13 := (hr.rest 13 (by kernel_rfl)).trans G13
                    rcases (show k = 0 ∨ k = 1 ∨ k = 2 by omega) with rfl | rfl | rfl
                    all_goals exact ⟨rfl, .inl (by go_simp)⟩
                  · change (_ : List Oper)[8]? = some o at ho
                    simp only [List.getElem?_cons_succ, List.getElem?_cons_zero, Option.some.injEq] at ho
                    subst ho
                    have e88 : ρ (.tmp 88) = .pointer (some ⟨mb + 1, 0, none⟩) := hr.deps ⟨0, .data⟩ (by simp) rfl _ _ rfl rfl
                    rcases (show k = 0 ∨ k = 1 ∨ k = 2 by omega) with rfl | rfl | rfl
                    all_goals exact ⟨rfl, .inl (by go_simp)⟩
                  · change (_ : List Oper)[9]? = some o at ho
                    simp only [List.getElem?_cons_succ, List.getElem?_cons_zero, Option.some.injEq] at ho
                    subst ho
                    have e96 : ρ (.tmp 96) = .pointer (some ⟨mb + 1, 0, none⟩) := hr.deps ⟨8, .data⟩ (by simp) rfl _ _ rfl rfl
                    rcases (show k = 0 ∨ k = 1 ∨ k = 2 by omega) with rfl | rfl | rfl
                    all_goals exact ⟨rfl, .inl (by go_simp)⟩
                · rcases (show j = 0 ∨ j = 1 ∨ j = 2 by omega) with rfl | rfl | rfl
                  · change (_ : List Oper)[6]? = some o at ho
                    simp only [List.getElem?_cons_succ, List.getElem?_cons_zero, Option.some.injEq] at ho
                    subst ho
                    have e93 : ρ (.tmp 93) = .agg #[.int .i64 i1.at_, .int .i64 i1.code, .slice X i1.imm.length c, .int .i64 i1.next] := hr.deps ⟨5, .data⟩ (by simp) rfl _ _ rfl rfl
                    exact ⟨rfl, .inl (by go_simp)⟩
                  · change (_ : List Oper)[7]? = some o at ho
                    simp only [List.getElem?_cons_succ, List.getElem?_cons_zero, Option.some.injEq] at ho
                    subst ho
                    have e92 : ρ (.tmp 92) = .slice L pre.length cl := hr.deps ⟨4, .data⟩ (by simp) rfl _ _ rfl rfl
                    have e94 : ρ (.tmp 94) = .slice (some ⟨w1.heap.size, 0, none⟩) 1 1 := hr.deps ⟨6, .data⟩ (by simp) rfl _ _ rfl rfl
                    exact ⟨rfl, .inl (by show (execOp ρ _).run _ (w1.drew.alloc _) = .ok (.value (.slice L2 (pre.length + 1) cl2)) w2; unfold execOp; simp only [resolve, invoke, builtin, Sem.run_bind, Sem.run_pure, Result.andThen_ok, List.map_toArray, List.map_cons, List.map_nil, e92, e94]; rw [hr2]; rfl)⟩
                  · change (_ : List Oper)[10]? = some o at ho
                    simp only [List.getElem?_cons_succ, List.getElem?_cons_zero, Option.some.injEq] at ho
                    subst ho
                    have e97 : ρ (.tmp 97) = .pointer (some ⟨mb + 1, 4, none⟩) := hr.deps ⟨9, .data⟩ (by simp) rfl _ _ rfl rfl
                    have e95 : ρ (.tmp 95) = .slice L2 (pre.length + 1) cl2 := hr.deps ⟨7, .data⟩ (by simp) rfl _ _ rfl rfl
                    exact ⟨rfl, .inr ⟨by go_simp, rfl⟩⟩
                · intro listed3 a3 _ hJ3
                  gi_wp2
                  exact HFIN.out
            case done =>
              rintro D5 xs W5 hD5 hall ⟨L, cl, Dm, e0, e1, e2, e3, e4, e5, eB, e7, e8, eS, e9⟩ hK5
              have hfst := allOf_allI hall
              obtain ⟨pe, hrd, -⟩ := hall
              have hxl : xs.length ≤ bs.length := by have := reads_length hrd; simpa using this
              have HDS : Hid (DefsL w.heap.size [{ target := .collected D5, args := #[] }] W5) := Lib.hid ⟨⟨D5, rfl, by omega, hK5, fun d' hd' => by cases hd'⟩, trivial⟩
              have hpe := reads_pos hrd
              have HK5 := Lib.hid hK5
              have HIN : Hid (∀ k (h : k < xs.length), ∃ X c, (xs[k]).2 = .slice X (xs[k]).1.imm.length c ∧ InsOK W5 (xs[k]).1 X) := Lib.hid (fun k h => by
                have hm : xs[k] ∈ xs := List.getElem_mem h
                obtain ⟨X, c, hX⟩ := owns_shape (e7 _ hm)
                refine ⟨X, c, hX, owned_ints (by have := e7 _ hm; rwa [hX] at this), reads_bytes HZ.out hrd _ (List.mem_map.2 ⟨_, hm, rfl⟩), ?_, ?_⟩
                · have := reads_imm7 hrd _ (List.mem_map.2 ⟨_, hm, rfl⟩)
                  omega
                · have := reads_lt hrd _ (List.mem_map.2 ⟨_, hm, rfl⟩)
                  have h2 := (reads_next7 hrd _ (List.mem_map.2 ⟨_, hm, rfl⟩))
                  exact wf64 (by omega) (by omega))
              have HG : Hid (∀ k (h : k < xs.length), (allI bs).getD k zeroI = (xs[k]).1) := Lib.hid (fun k h => by
                rw [← hfst, List.getD_eq_getElem?_getD, List.getElem?_map, List.getElem?_eq_getElem h]
                rfl)
              have hal : (allI bs).length = xs.length := by rw [← hfst]; simp
              obtain ⟨p0, p1⟩ := cell_of1 e0
              obtain ⟨g0, g1, g2, g3, g4, g5⟩ := cells6 e1
              have HE := Lib.hid (⟨e0, e1, e2, e3, e4, eB, e7⟩ : _ ∧ _ ∧ _ ∧ _ ∧ _ ∧ _ ∧ _)
              have HF := Lib.hid hfst
              have HAL := Lib.hid hal
              clear e0 e1 e2 e3 e4 e5 eB e7 e8 e9 hrd hK5 hfst hal hpe
              dsimp only
              go_wp2
              clear p0 p1 g0 g1 g2 g3 g4 g5
              go_loopw [103] (fun vi wr => ∃ k : Nat, vi = .int .i64 k ∧ k ≤ xs.length ∧ (∀ j, j < k → namedOK ts own ((allI bs).getD j zeroI) = true) ∧ Below W5.heap.size W5 wr) (fun vi _ => xs.length - (intOf vi).toNat)
              case atStart => exact ⟨0, rfl, by omega, fun j hj => by omega, Below.refl _ _⟩
              case round =>
                obtain ⟨k, rfl, hk, hok, hB⟩ := hrel
                have HOK2 := Lib.hid hok
                clear hok
                by_cases hkl : k < xs.length
                · have hki : (k : Int) < (xs.length : Int) := by omega
                  obtain ⟨X, c, hX, hin⟩ := HIN.out k hkl
                  have hg := HG.out k hkl
                  have hrow := own_below HE.out.2.2.1 hB
                  obtain ⟨gl, rfl⟩ := own_head hrow (by omega)
                  obtain ⟨d0, d1, d2, d3⟩ := insCells_at (List.getElem?_eq_getElem hkl)
                  have c0 := (hrow.cellAt (k * 4) (by omega)).trans d0
                  have c1 := (hrow.cellAt (k * 4 + 1) (by omega)).trans d1
                  have c2 := (hrow.cellAt (k * 4 + 2) (by omega)).trans d2
                  have c3 := (hrow.cellAt (k * 4 + 3) (by omega)).trans d3
                  rw [hX] at c2
                  have hinr := insok_below hin hB
                  have hn0 := named_nonneg hin.2.1
                  obtain ⟨i1, hi1⟩ : ∃ i1, (xs[k]).1 = i1 := ⟨_, rfl⟩
                  rw [hi1] at c0 c1 c2 c3 hinr hn0 hg
                  have hba := (Below.refl wr.heap.size wr).alloc (Nat.le_refl _) (.cells #[.int .i64 i1.at_, .int .i64 i1.code, .slice X i1.imm.length c, .int .i64 i1.next] 42)
                  have hBa := hB.trans (hba.mono hB.size)
                  have hp1 := kept_of hBa HE.out.1
                  have hp2 : PassAt _ (mb + 1) (some x) ts capT own (some ⟨gl, 0, none⟩) xs.length cl mb := kept_of hBa HE.out.2.1
                  obtain ⟨p0, p1⟩ := cell_of1 hp1
                  obtain ⟨k0, k1, k2, k3, kz, kl⟩ := cells4 (heap_alloc_new wr (.cells #[.int .i64 i1.at_, .int .i64 i1.code, .slice X i1.imm.length c, .int .i64 i1.next] 42))
                  have HN := Lib.hid (named7_any (mb + 1) (some x) ts capT own (some ⟨gl, 0, none⟩) xs.length cl mb i1 X c _ hp2 (tys_below HT.out ((HE.out.2.2.2.2.2.1).trans (hBa.mono HE.out.2.2.2.2.2.1.size))) (insok_below hinr hba) hn0)
                  have HBA := Lib.hid hBa
                  have HGK := Lib.hid hg
                  unfold insV at HN
                  clear d0 d1 d2 d3 hX hin hg hrow hinr hn0 hba hp1 hp2 hBa hB
                  go_wp2_with (go_at_call 56; refine stop_o ?_)
                  unfold StopO
                  refine HN.out.mono ?_
                  rintro e W6 ⟨rfl, hb6⟩
                  have HB6 := Lib.hid (HBA.out.trans (hb6.mono HBA.out.size))
                  clear hb6 HN p0 p1 k0 k1 k2 k3 kz kl c0 c1 c2 c3
                  cases hb : namedOK ts own i1 with
                  | true =>
                    have HB := Lib.hid hb
                    clear hb
                    go_wp2
                    exact ⟨⟨k + 1, by go_num, by omega, fun j hj => by
                      rcases (show j < k ∨ j = k by omega) with h | rfl
                      · exact HOK2.out j h
                      · rw [HGK.out]; exact HB.out, HB6.out⟩, by simp [intOf]; omega⟩
                  | false =>
                    have HM := Lib.hid (may_named (s := (n : Int)) (ts := ts) (bs := bs) (k := k) (by rw [HAL.out]; exact hkl) (by rw [HGK.out, show tyAt ts (n : Int) = own from by unfold tyAt; rw [HOWN.out]; rfl]; exact hb))
                    clear hb
                    go_wp2
                    refine leaves_defs _ _ (defsl_below HDS.out HB6.out) fun W' hbW hkW => ?_
                    refine ⟨_, results_tmp2 rfl _ _ _, ?_⟩
                    exact .inl ⟨HM.out, rfl, ((HE.out.2.2.2.2.2.1).trans (HB6.out.mono HE.out.2.2.2.2.2.1.size)).trans hbW⟩
                · have hki : ¬ (k : Int) < (xs.length : Int) := by omega
                  obtain rfl : k = xs.length := by omega
                  obtain ⟨p0, p1⟩ := cell_of1 (kept_of hB HE.out.1)
                  have HB6 := Lib.hid hB
                  clear hB
                  go_wp2
                  refine leaves_def1 (B := w.heap.size) D5 _ (by omega) (kept_of HB6.out HK5.out) fun W' hbW hkW => ?_
                  refine ⟨_, results_tmp2 rfl _ _ _, ?_⟩
                  have hkc : ∀ {q t : Nat} {cs : Array Value}, W5.heap[q]? = some (.cells cs t (0, 0)) → W'.heap[q]? = some (.cells cs t (0, 0)) := fun {q} {t} {cs} hq => hkW q _ (fun e => by rw [e, HK5.out] at hq; cases hq) (kept_of HB6.out hq)
                  have hko : ∀ {B e sz k : Nat} {v : Value} {xs : List Value}, W5.ownsRow B e sz v k xs → W'.ownsRow B e sz v k xs := fun ho => own_as7 ho fun b hb => by
                    obtain ⟨cs, hc⟩ := own_block7 ho hb
                    rw [hc]
                    exact hkc hc
                  have hbe : Below w.heap.size w W' := ((HE.out.2.2.2.2.2.1).trans (HB6.out.mono HE.out.2.2.2.2.2.1.size)).trans hbW
                  have hown : tyAt ts (n : Int) = own := by unfold tyAt; rw [HOWN.out]; rfl
                  refine .inr ⟨may_yes (by omega) (by omega) HOK.out HCE.out (fun k hk => by rw [hown]; exact HOK2.out k (by rw [HAL.out] at hk; exact hk)), mb + 1, mb, cl, L, xs, Dm, rfl, HF.out, ?_, owns_le (hko HE.out.2.2.1) hwB0, fun y hy => owns_le (hko (HE.out.2.2.2.2.2.2 y hy)) hwB0, ?_, ?_, by omega, by omega, hbe⟩
                  · rw [hown]
                    exact hkc HE.out.2.1
                  · obtain ⟨es, ck, hm, r1, r2, r3⟩ := HE.out.2.2.2.1
                    exact ⟨es, ck, hkW mb _ (fun e => by rw [e, HK5.out] at hm; cases hm) (kept_of HB6.out hm), r1, r2, r3⟩
                  · exact HE.out.2.2.2.2.1
            case stop =>
              rintro D c pre W hD hpre hn hK
              exact hn.elim
          · have HM := Lib.hid (may_check (ts := ts) (s := s) hck)
            have e1 : ((checkE bs (allI bs)).1 != 0) = true := by rw [bne_iff_ne]; exact hck
            clear hck
            go_wp2
            refine ⟨_, results_tmp2 rfl _ _ _, ?_⟩
            exact .inl ⟨HM.out, rfl, HB2.out⟩
end Go.Proofs.YtfjmdffhfjnopaaDoor
