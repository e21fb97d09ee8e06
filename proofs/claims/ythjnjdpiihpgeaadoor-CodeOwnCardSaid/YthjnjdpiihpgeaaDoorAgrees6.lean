/- vouchlaw6.CodeAgrees: the walk. -/
import Derived.Test.YthjnjdpiihpgeaaDoorStarts
import Derived.Test.YthjnjdpiihpgeaaDoorSame6
import Derived.Test.YthjnjdpiihpgeaaDoorOwnSet
import Derived.Test.YthjnjdpiihpgeaaDoorCut6
import Derived.Deep.DeepCutAuto
import Derived.LoopIn
import Derived.Sort.CutIn
namespace Vouch
theorem reads_split {bs : List Int} {l' : List Ins} {p' : Int} (h' : Reads bs l' p') : ∀ k, k < l'.length → ∃ q i, Reads bs (l'.take k) q ∧ readE bs q = (0, i) ∧ l'.take (k + 1) = l'.take k ++ [i] := by
  induction h' with
  | nil => intro k hk; simp at hk
  | snoc g1 g2 gih =>
    rename_i pre' r j
    intro k hk
    rw [List.length_append, List.length_singleton] at hk
    by_cases e : k < pre'.length
    · obtain ⟨q', i', a1, a2, a3⟩ := gih k e
      refine ⟨q', i', ?_, a2, ?_⟩
      · rw [List.take_append_of_le_length (by omega)]; exact a1
      · rw [List.take_append_of_le_length (by omega), List.take_append_of_le_length (by omega)]; exact a3
    · obtain rfl : k = pre'.length := by omega
      refine ⟨r, j, ?_, g2, ?_⟩
      · rw [List.take_left]; exact g1
      · rw [List.take_left, List.take_of_length_le (by simp)]
theorem reads_det {bs : List Int} {l l' : List Ins} {p p' : Int} (h : Reads bs l p) (h' : Reads bs l' p') (hle : l.length ≤ l'.length) : l = l'.take l.length := by
  induction h with
  | nil => rfl
  | snoc h1 h2 ih =>
    rename_i pre q i
    rw [List.length_append, List.length_singleton] at hle ⊢
    obtain ⟨q', i', hq1, hq2, hq3⟩ := reads_split h' pre.length (by omega)
    have e1 := ih (by omega)
    rw [hq3, ← e1]
    rw [← e1] at hq1
    rw [(reads_next hq1).trans (reads_next h1).symm, h2] at hq2
    cases hq2
    rfl
end Vouch
namespace Go.Proofs.YthjnjdpiihpgeaaDoor
open Go.RowKit Vouch Go.Vk Go.Sort
attribute [local go_sem] Oper.semAt_some
theorem reads_in {bs : List Int} {l : List Ins} {p : Int} {xs : List El} (h : Reads bs l p) (hall : AllOf bs xs) : l.length ≤ xs.length ∧ l = (xs.map Prod.fst).take l.length := by
  obtain ⟨q, h1, h2⟩ := hall
  have hle : l.length ≤ (xs.map Prod.fst).length := by
    refine Nat.le_of_not_lt fun hlt => ?_
    obtain ⟨q', i, a1, a2, _⟩ := reads_split h (xs.map Prod.fst).length hlt
    have e := reads_det h1 h (by omega)
    rw [← e] at a1
    rw [(reads_next a1).trans (reads_next h1).symm] at a2
    rw [a2] at h2
    exact h2 rfl
  exact ⟨by simpa using hle, reads_det h h1 hle⟩
theorem reads_mono {bs : List Int} {l : List Ins} {p : Int} (h : Reads bs l p) : ∀ k, k ≤ l.length → nextOf (l.take k) ≤ p := by
  induction h with
  | nil => intro k hk; rw [List.take_nil]; decide
  | snoc h1 h2 ih =>
    rename_i pre q i
    intro k hk
    rw [List.length_append, List.length_singleton] at hk
    have hr := read_next h2
    by_cases e : k ≤ pre.length
    · rw [List.take_append_of_le_length e]
      have := ih k e
      omega
    · rw [List.take_of_length_le (by simp; omega), nextOf_snoc]
      exact Int.le_refl _
theorem reads_kth {bs : List Int} {l : List Ins} {p : Int} (h : Reads bs l p) {k : Nat} (hk : k < l.length) : readE bs (nextOf (l.take k)) = (0, l[k]) ∧ Reads bs (l.take k) (nextOf (l.take k)) := by
  obtain ⟨q, i, h1, h2, h3⟩ := reads_split h k hk
  have e : l[k] = i := by
    have := congrArg (fun l => l[k]?) h3
    rw [List.getElem?_take, if_pos (by omega), List.getElem?_append_right (by rw [List.length_take]; omega), List.length_take, show k - min k l.length = 0 by omega, List.getElem?_eq_getElem hk] at this
    simpa using this
  rw [← reads_next h1, e]
  exact ⟨h2, h1⟩
theorem starts_at {bs : List Int} {xs : List El} (hall : AllOf bs xs) {pre : List Ins} {p : Nat} {i : Ins} (h1 : Reads bs pre p) (h2 : readE bs p = (0, i)) (j : Nat) (hj : p ≤ j) (hj2 : (j : Int) < i.next) : startAt (xs.map Prod.fst) j = (j == p) := by
  have h3 : Reads bs (pre ++ [i]) i.next := .snoc h1 h2
  obtain ⟨hin1, hin2⟩ := reads_in h3 hall
  obtain ⟨q, hq1, hq2⟩ := hall
  have hat := (read_next h2).2.2.2.1
  generalize xs.map Prod.fst = l at hin2 hq1
  rw [List.length_append, List.length_singleton] at hin2
  have hlen : pre.length + 1 ≤ l.length := by
    have := congrArg List.length hin2
    rw [List.length_append, List.length_singleton, List.length_take] at this
    omega
  have epre : l.take pre.length = pre := by
    have := congrArg (fun m => m.take pre.length) hin2
    rw [List.take_left, List.take_take, Nat.min_eq_left (by omega)] at this
    exact this.symm
  have ei : l[pre.length] = i := by
    have := congrArg (fun m => m[pre.length]?) hin2
    rw [List.getElem?_append_right (Nat.le_refl _), Nat.sub_self, List.getElem?_take_of_lt (show pre.length < pre.length + 1 by omega), List.getElem?_eq_getElem (show pre.length < l.length by omega)] at this
    exact (Option.some.inj this).symm
  have hp := reads_next h1
  rw [Bool.eq_iff_iff]
  unfold startAt
  rw [List.any_eq_true]
  constructor
  · rintro ⟨y, hy, hyj⟩
    obtain ⟨k, hk, rfl⟩ := List.mem_iff_getElem.1 hy
    have hyj : l[k].at_ = j := by simpa using hyj
    obtain ⟨a1, a2⟩ := reads_kth hq1 hk
    have ha := read_next a1
    rcases Nat.lt_trichotomy k pre.length with e | e | e
    · exfalso
      have hm := reads_mono h1 (k + 1) (by omega)
      have e2 : pre.take (k + 1) = l.take (k + 1) := by
        have h := congrArg (fun m => m.take (k + 1)) epre
        rw [List.take_take, Nat.min_eq_left (by omega)] at h
        exact h.symm
      rw [e2, List.take_succ_eq_append_getElem hk, nextOf_snoc] at hm
      omega
    · subst e
      rw [ei, hat] at hyj
      simp
      omega
    · exfalso
      have hm := reads_mono a2 (pre.length + 1) (by rw [List.length_take]; omega)
      rw [List.take_take, Nat.min_eq_left (by omega), ← hin2, nextOf_snoc] at hm
      omega
  · intro e
    have e : j = p := by simpa using e
    exact ⟨i, by rw [← ei]; exact List.getElem_mem _, by rw [hat, e]; simp⟩
theorem starts_none {bs : List Int} {xs : List El} (hall : AllOf bs xs) (j : Nat) (hj : nextOf (xs.map Prod.fst) ≤ j) : startAt (xs.map Prod.fst) j = false := by
  obtain ⟨q, hq1, hq2⟩ := hall
  have hp := reads_next hq1
  unfold startAt
  rw [List.any_eq_false]
  intro y hy hyj
  obtain ⟨k, hk, rfl⟩ := List.mem_iff_getElem.1 hy
  have hyj : (xs.map Prod.fst)[k].at_ = j := by simpa using hyj
  obtain ⟨a1, a2⟩ := reads_kth hq1 hk
  have ha := read_next a1
  have hm := reads_mono hq1 (k + 1) (by omega)
  rw [List.take_succ_eq_append_getElem hk, nextOf_snoc] at hm
  omega
/-- What a round of the range over All finds: the three variables tell what was read, all else is as it was. -/
def AgrInv (bs : List Int) (w W0 : World) (b : Nat) (pre : List El) (W : World) : Prop :=
  Below w.heap.size w W ∧ W0.heap.size ≤ W.heap.size ∧ (∀ k, k < W0.heap.size → k ≠ b → k ≠ b + 1 → k ≠ b + 1 + 1 → W.heap[k]? = W0.heap[k]?) ∧ W.heap[b]? = some (.cells #[.int .i64 (nextOf (pre.map Prod.fst))] 3 (0, 0)) ∧
    W.heap[b + 1]? = some (.cells #[.int .i64 (pre.length : Int)] 3 (0, 0)) ∧ W.heap[b + 1 + 1]? = some (.cells #[.int .i64 (lastOf6 (pre.map Prod.fst))] 3 (0, 0)) ∧ ∃ p, Reads bs (pre.map Prod.fst) p
theorem agr_kept {bs : List Int} {w W0 : World} {b : Nat} (hw : w.heap.size ≤ W0.heap.size) : OwnFrom W0.heap.size (AgrInv bs w W0 b) := by
  intro pre W W' row ⟨h1, h2, h3, h4, h5, h6, h7⟩ hg hr
  refine ⟨bel_stays h1 hw hg hr, Nat.le_trans h2 hg.size, fun k hk k1 k2 k3 => (hg.block k (by omega) (fun e => by have := (hr k e.symm).1; omega)).trans (h3 k hk k1 k2 k3), blk_stays h4 hg hr, blk_stays h5 hg hr, blk_stays h6 hg hr, h7⟩
theorem agr_end {W : World} {g : Nat} {b : Bool} {tmps : Array Value} (h2 : tmps.getD 2 undef = .pointer (some ⟨g, 0, none⟩)) (hA : W.heap[g]? = some (.cells #[.bool b] 4 (0, 0))) :
    (results Tryd.f7 tmps).run Tryd.prog W = .ok (.bool b) W := by
  have hc : W.cell? ⟨g, 0, none⟩ = some (.bool b) := by simp [World.cell?, hA]
  have h2' : tmps[2]?.getD undef = .pointer (some ⟨g, 0, none⟩) := by simpa using h2
  simp [results, h2', asAddr, loadVar, go_sem, hc]
theorem agr_own {W0 W : World} {b t B e size n : Nat} {v : Value} {xs : List Value} {c7 c8 c9 : Array Value} (h7 : W0.heap[b]? = some (.cells c7 t (0, 0))) (h8 : W0.heap[b + 1]? = some (.cells c8 t (0, 0))) (h9 : W0.heap[b + 1 + 1]? = some (.cells c9 t (0, 0)))
    (hK : ∀ k, k < W0.heap.size → k ≠ b → k ≠ b + 1 → k ≠ b + 1 + 1 → W.heap[k]? = W0.heap[k]?) (ho : W0.ownsRow B e size v n xs) (hne : t ≠ e) : W.ownsRow B e size v n xs := by
  have e7 := own_type h7 ho hne
  have e8 := own_type h8 ho hne
  have e9 := own_type h9 ho hne
  refine ⟨ho.1, ?_⟩
  rcases ho.2 with h2 | ⟨q, cap, cur, rfl, hB, hh, r⟩
  · exact .inl h2
  · exact .inr ⟨q, cap, cur, rfl, hB, (hK q (Array.getElem?_eq_some_iff.1 hh).1 (fun e => e7 q rfl e.symm) (fun e => e8 q rfl e.symm) (fun e => e9 q rfl e.symm)).trans hh, r⟩
theorem agr_row {W0 W : World} {b t e g n : Nat} {f : Nat → Value} {c7 c8 c9 : Array Value} (h7 : W0.heap[b]? = some (.cells c7 t (0, 0))) (h8 : W0.heap[b + 1]? = some (.cells c8 t (0, 0))) (h9 : W0.heap[b + 1 + 1]? = some (.cells c9 t (0, 0)))
    (hK : ∀ k, k < W0.heap.size → k ≠ b → k ≠ b + 1 → k ≠ b + 1 + 1 → W.heap[k]? = W0.heap[k]?) (ho : W0.rowIs g e n f) (hne : t ≠ e) : W.rowIs g e n f := by
  obtain ⟨c, hb, hn, hc⟩ := ho
  refine ⟨c, (hK g (Array.getElem?_eq_some_iff.1 hb).1 ?_ ?_ ?_).trans hb, hn, hc⟩
  all_goals
    rintro rfl
    simp_all
theorem all_sameA {bs : List Int} {xs ys : List El} (h : AllOf bs xs) (h' : AllOf bs ys) : ys.map Prod.fst = xs.map Prod.fst := by
  obtain ⟨p, h1, h2⟩ := h
  obtain ⟨q, h3, h4⟩ := h'
  exact (reads_all h1 h2 h3 h4).1
set_option maxHeartbeats 2000000 in
set_option maxRecDepth 100000 in
theorem agrees_walk (A : Option Addr) (capA : Nat) (za : List Int) (w : World) (hca : IntsAt w .u8 A za) (hza : ∀ n ∈ za, (Lit.int .u8 n).wf = true) (hcap0 : za.length ≤ capA) (hnil : A = none → capA = 0) :
    Calls Tryd.prog 7 #[.slice A za.length capA] w fun e w' => e = .returned (.bool true) ∧ Below w.heap.size w w' := by
  have hz' : ∀ z ∈ za.take 70000, 0 ≤ z ∧ z < 256 := fun z hz2 => byte_wf (hza z (List.mem_of_mem_take hz2))
  have hbl : (za.take 70000).length ≤ 70000 := by rw [List.length_take]; omega
  have hB0 : Below w.heap.size w ((w.alloc (.cells #[.slice A za.length capA] 22)).alloc (.cells #[.bool false] 4)) := ((Below.refl _ _).alloc (Nat.le_refl _) _).alloc (by simp) _
  have HCUT := Lib.hid (cut_any za A capA _ (ints_below hB0 hca) hcap0 hnil)
  have hg1 : ((w.alloc (.cells #[.slice A za.length capA] 22)).alloc (.cells #[.bool false] 4)).heap[w.heap.size]? = some (.cells #[.slice A za.length capA] 22 (0, 0)) := heap_alloc2_old _ _ _
  have hg2 : ((w.alloc (.cells #[.slice A za.length capA] 22)).alloc (.cells #[.bool false] 4)).heap[w.heap.size + 1]? = some (.cells #[.bool false] 4 (0, 0)) := by
    have := heap_alloc_new (w.alloc (.cells #[.slice A za.length capA] 22)) (.cells #[.bool false] 4)
    simpa using this
  have hsz : ((w.alloc (.cells #[.slice A za.length capA] 22)).alloc (.cells #[.bool false] 4)).heap.size = w.heap.size + 1 + 1 := by simp
  clear hca hza
  generalize za.take 70000 = bs at hz' hbl HCUT
  have HZ := Lib.hid hz'
  clear hz'
  have c1 := (show ((w.alloc (.cells #[.slice A za.length capA] 22)).alloc (.cells #[.bool false] 4)).cell? ⟨w.heap.size, 0, none⟩ = some (.slice A za.length capA) by simp [World.cell?, hg1])
  refine (callsIn_wide (n := 8)).1 ?_
  refine callsIn_of_wp_marks Tryd.func7 rfl trivial ?_ rfl
  simp only [Tryd.ntmps7, List.size_toArray, List.length_cons, List.length_nil, Nat.reduceAdd, Nat.reduceSub, Array.replicate_succ, Array.replicate_zero, List.push_toArray, List.append_toArray, List.nil_append, List.cons_append]
  gi_wp2_with (refine ⟨trivial, ?_⟩; gi_at_call 15; refine stop_o ?_)
  unfold StopO
  refine (callsIn_wide.2 HCUT.out).mono ?_
  rintro e w1 ⟨v, rfl, hb, hb1⟩
  obtain ⟨Xb, cb, rfl⟩ := owns_shape hb
  rw [hsz] at hb
  have k1 := kept_of hb1 hg1
  have k2 := kept_of hb1 hg2
  have hB1 := hB0.trans (hb1.mono hB0.size)
  have hcb := owned_cap hb
  obtain ⟨c1, f1⟩ := cell_of1 k1
  have m1 := heap_set1 k1 (.slice Xb bs.length cb)
  have m2 := heap_setOther k2 (a := ⟨w.heap.size, 0, none⟩) (by dsimp only; omega) (.slice Xb bs.length cb)
  have mb := own_setOther hb (a := ⟨w.heap.size, 0, none⟩) (by dsimp only; omega) (.slice Xb bs.length cb)
  have mB := hB1.setCell (p := ⟨w.heap.size, 0, none⟩) (Nat.le_refl _) (.slice Xb bs.length cb)
  obtain ⟨d1, e1⟩ := cell_of1 m1
  gi_wp2_with (refine ⟨trivial, ?_⟩; gi_at_call 16; refine stop_o ?_)
  generalize w1.setCell ⟨w.heap.size, 0, none⟩ (.slice Xb bs.length cb) = W1 at m1 m2 mb mB d1 e1 ⊢
  clear c1 f1 k1 k2 hb hb1 hB1 hg1 hg2 HCUT hB0 hsz
  unfold StopO
  refine (callsIn_wide.2 (scan_any bs Xb cb W1 (owned_ints mb) HZ.out (by omega) hcb)).mono ?_
  rintro e w2 ⟨xs, ys, vl, hall, rfl, hown, hrows, hris, hys, hb2⟩
  obtain ⟨sc, hsc⟩ : ∃ sc, sc = scanE bs (xs.map Prod.fst) := ⟨_, rfl⟩
  rw [← hsc] at hys ⊢
  have HSC := Lib.hid hsc
  clear hsc
  obtain ⟨Xl, cl, rfl⟩ := owns_shape hown
  have HALL := Lib.hid hall
  have HIB := Lib.hid (owned_ints mb)
  obtain ⟨b3, hb3⟩ : ∃ b3, b3 = w2.heap.size := ⟨_, rfl⟩
  have n1 := heap_alloc_before (heap_alloc_before (kept_of hb2 m1) (.cells #[.slice Xl ys.length cl] 24)) (.cells #[.int .i64 sc.1] 25)
  have n2 := heap_alloc_before (heap_alloc_before (kept_of hb2 m2) (.cells #[.slice Xl ys.length cl] 24)) (.cells #[.int .i64 sc.1] 25)
  have n3 := heap_alloc_before (heap_alloc_at w2 (.cells #[.slice Xl ys.length cl] 24) b3 hb3) (.cells #[.int .i64 sc.1] 25)
  have n4 := heap_alloc_at (w2.alloc (.cells #[.slice Xl ys.length cl] 24)) (.cells #[.int .i64 sc.1] 25) (b3 + 1) (by simp [hb3])
  have nb := ((own_below mb hb2).alloc (.cells #[.slice Xl ys.length cl] 24)).alloc (.cells #[.int .i64 sc.1] 25)
  have nl := (hown.alloc (.cells #[.slice Xl ys.length cl] 24)).alloc (.cells #[.int .i64 sc.1] 25)
  have nr : RowsAt W1.heap.size ys _ := fun x hx => ((hrows x hx).alloc (.cells #[.slice Xl ys.length cl] 24)).alloc (.cells #[.int .i64 sc.1] 25)
  have nB2 := mB.trans (hb2.mono mB.size)
  have nB := (nB2.alloc nB2.size (.cells #[.slice Xl ys.length cl] 24)).alloc (by have := nB2.size; simp; omega) (.cells #[.int .i64 sc.1] 25)
  have hN3 : w.heap.size + 1 < b3 := by have h := (Array.getElem?_eq_some_iff.1 (kept_of hb2 m2)).1; omega
  obtain ⟨d1, e1⟩ := cell_of1 n1
  gi_wp2_with (refine ⟨trivial, ?_⟩; gi_at_call 25; refine stop_o ?_)
  unfold StopO
  rw [← hb3]
  generalize (w2.alloc (.cells #[.slice Xl ys.length cl] 24)).alloc (.cells #[.int .i64 sc.1] 25) = W2 at n1 n2 n3 n4 nb nl nr nB d1 e1 ⊢
  clear m1 m2 mb mB hown hrows hb2 nB2 hb3 hall
  refine (callsIn_wide.2 (starts_any bs Xb cb W2 (owned_ints nb) HZ.out (by omega))).mono ?_
  rintro e w3 ⟨rfl, xs', hall', hrow, hb3⟩
  rw [all_sameA HALL.out hall'] at hrow
  obtain ⟨gs, hgs⟩ : ∃ gs, gs = W2.heap.size := ⟨_, rfl⟩
  obtain ⟨b6, hb6⟩ : ∃ b6, b6 = w3.heap.size := ⟨_, rfl⟩
  rw [← hgs] at hrow ⊢
  have o1 := heap_alloc_before (kept_of hb3 n1) (.cells #[.slice (some ⟨gs, 0, none⟩) bs.length bs.length] 45)
  have o2 := heap_alloc_before (kept_of hb3 n2) (.cells #[.slice (some ⟨gs, 0, none⟩) bs.length bs.length] 45)
  have o3 := heap_alloc_before (kept_of hb3 n3) (.cells #[.slice (some ⟨gs, 0, none⟩) bs.length bs.length] 45)
  have o4 := heap_alloc_before (kept_of hb3 n4) (.cells #[.slice (some ⟨gs, 0, none⟩) bs.length bs.length] 45)
  have o6 := heap_alloc_at w3 (.cells #[.slice (some ⟨gs, 0, none⟩) bs.length bs.length] 45) b6 hb6
  have oS := hrow.alloc (.cells #[.slice (some ⟨gs, 0, none⟩) bs.length bs.length] 45)
  have ob := (own_below nb hb3).alloc (.cells #[.slice (some ⟨gs, 0, none⟩) bs.length bs.length] 45)
  have ol := (own_below nl hb3).alloc (.cells #[.slice (some ⟨gs, 0, none⟩) bs.length bs.length] 45)
  have oR : RowsAt W1.heap.size ys _ := fun x hx => (own_below (nr x hx) hb3).alloc (.cells #[.slice (some ⟨gs, 0, none⟩) bs.length bs.length] 45)
  have oB2 := nB.trans (hb3.mono nB.size)
  have oB := oB2.alloc oB2.size (.cells #[.slice (some ⟨gs, 0, none⟩) bs.length bs.length] 45)
  have hN6 : b3 + 1 < b6 := by have h := (Array.getElem?_eq_some_iff.1 (kept_of hb3 n4)).1; omega
  have hsz : (w3.alloc (.cells #[.slice (some ⟨gs, 0, none⟩) bs.length bs.length] 45)).heap.size = b6 + 1 := by simp [hb6]
  obtain ⟨d1, e1⟩ := cell_of1 o1
  obtain ⟨d6, e6⟩ := cell_of1 o6
  have HB6 := Lib.hid hb6
  clear hgs hb6
  gi_upto_region 6 with fail
  rw [← HB6.out]
  generalize w3.alloc (.cells #[.slice (some ⟨gs, 0, none⟩) bs.length bs.length] 45) = W3 at o1 o2 o3 o4 o6 oS ob ol oR oB d1 e1 d6 e6 hsz ⊢
  clear n1 n2 n3 n4 nb nl nr nB hrow hb3 oB2 HB6 hall'
  have q1 := heap_alloc_before (heap_alloc_before (heap_alloc_before o1 (.cells #[.int .i64 0] 3)) (.cells #[.int .i64 0] 3)) (.cells #[.int .i64 0] 3)
  have q2 := heap_alloc_before (heap_alloc_before (heap_alloc_before o2 (.cells #[.int .i64 0] 3)) (.cells #[.int .i64 0] 3)) (.cells #[.int .i64 0] 3)
  have q3 := heap_alloc_before (heap_alloc_before (heap_alloc_before o3 (.cells #[.int .i64 0] 3)) (.cells #[.int .i64 0] 3)) (.cells #[.int .i64 0] 3)
  have q4 := heap_alloc_before (heap_alloc_before (heap_alloc_before o4 (.cells #[.int .i64 0] 3)) (.cells #[.int .i64 0] 3)) (.cells #[.int .i64 0] 3)
  have q6 := heap_alloc_before (heap_alloc_before (heap_alloc_before o6 (.cells #[.int .i64 0] 3)) (.cells #[.int .i64 0] 3)) (.cells #[.int .i64 0] 3)
  have q7 := heap_alloc_before (heap_alloc_before (heap_alloc_at W3 (.cells #[.int .i64 0] 3) (b6 + 1) hsz.symm) (.cells #[.int .i64 0] 3)) (.cells #[.int .i64 0] 3)
  have q8 := heap_alloc_before (heap_alloc_at (W3.alloc (.cells #[.int .i64 0] 3)) (.cells #[.int .i64 0] 3) (b6 + 1 + 1) (by simp [hsz])) (.cells #[.int .i64 0] 3)
  have q9 := heap_alloc_at ((W3.alloc (.cells #[.int .i64 0] 3)).alloc (.cells #[.int .i64 0] 3)) (.cells #[.int .i64 0] 3) (b6 + 1 + 1 + 1) (by simp [hsz])
  have qS := ((oS.alloc (.cells #[.int .i64 0] 3)).alloc (.cells #[.int .i64 0] 3)).alloc (.cells #[.int .i64 0] 3)
  have qb := ((ob.alloc (.cells #[.int .i64 0] 3)).alloc (.cells #[.int .i64 0] 3)).alloc (.cells #[.int .i64 0] 3)
  have ql := ((ol.alloc (.cells #[.int .i64 0] 3)).alloc (.cells #[.int .i64 0] 3)).alloc (.cells #[.int .i64 0] 3)
  have qR : RowsAt W1.heap.size ys _ := fun x hx => (((oR x hx).alloc (.cells #[.int .i64 0] 3)).alloc (.cells #[.int .i64 0] 3)).alloc (.cells #[.int .i64 0] 3)
  have qB := ((oB.alloc oB.size (.cells #[.int .i64 0] 3)).alloc (by have := oB.size; simp; omega) (.cells #[.int .i64 0] 3)).alloc (by have := oB.size; simp; omega) (.cells #[.int .i64 0] 3)
  obtain ⟨d1, e1⟩ := cell_of1 q1
  gi_wp2_with (refine ⟨trivial, ?_⟩; gi_at_call 19; refine stop_o ?_)
  generalize (((W3.alloc (.cells #[.int .i64 0] 3)).alloc (.cells #[.int .i64 0] 3)).alloc (.cells #[.int .i64 0] 3)) = W4 at q1 q2 q3 q4 q6 q7 q8 q9 qS qb ql qR qB d1 e1 ⊢
  clear o1 o2 o3 o4 o6 oS ob ol oR oB d6 e6 hsz
  unfold StopO
  refine (callsIn_wide.2 (codeall_any bs Xb cb W4 (owned_ints qb) (by omega))).mono ?_
  rintro e W0 ⟨g, rfl, hheld, hb0⟩
  have r1 := kept_of hb0 q1
  have r2 := kept_of hb0 q2
  have r3 := kept_of hb0 q3
  have r4 := kept_of hb0 q4
  have r6 := kept_of hb0 q6
  have r7 := kept_of hb0 q7
  have r8 := kept_of hb0 q8
  have r9 := kept_of hb0 q9
  have rS := row_below qS hb0
  have rb := own_below qb hb0
  have rl := own_below ql hb0
  have rR : RowsAt W1.heap.size ys W0 := fun x hx => own_below (qR x hx) hb0
  have rB := qB.trans (hb0.mono qB.size)
  have hW4 : b6 + 1 + 1 + 1 < W4.heap.size := (Array.getElem?_eq_some_iff.1 q9).1
  have hWs := hb0.size
  clear q1 q2 q3 q4 q6 q7 q8 q9 qS qb ql qR qB d1 e1 hb0
  have hrun : Sem.run Tryd.prog (binOp BinOp.eql 37 (.func (.func 40) #[] #[.pointer (some ⟨g, 0, none⟩)]) .nilFunc) W0 = .ok (.bool false) W0 := by kernel_rfl
  gi_wp2
  clear hrun
  have hlt : b6 + 1 + 1 + 1 < W0.heap.size := by omega
  have hwW : w.heap.size ≤ W0.heap.size := rB.size
  have HYS := Lib.hid hys
  clear hys
  refine wpIn_rangeF rfl (by omega) (gf := 40) (lb := #[.pointer (some ⟨g, 0, none⟩)]) rfl trivial (enters_of Tryd.func40 (by kernel_rfl) rfl) (all1_seq bs HZ.out (by omega) g W4.heap.size 4 W0) (Below.refl _ _) (fun _ => rfl)
    (AgrInv bs w W0 (b6 + 1)) (fun _ _ _ => False) (agr_kept hwW) (fun _ _ _ _ _ h _ _ => h)
    ⟨rB, Nat.le_refl _, fun _ _ _ _ _ => rfl, r7, r8, r9, ⟨0, .nil⟩⟩
    (fun pre W h => by
      obtain ⟨q, h1, h2, h3, h4⟩ := hheld
      have hgl := (Array.getElem?_eq_some_iff.1 h3).1
      have hql := (Array.getElem?_eq_some_iff.1 h4).1
      exact ⟨q, h1, h2, (h.2.2.1 g hgl (by omega) (by omega) (by omega)).trans h3, (h.2.2.1 q hql (by omega) (by omega) (by omega)).trans h4⟩)
    (fun pre x r a' W => ∃ Bx X c, W0.heap.size ≤ Bx ∧ W0.heap.size ≤ r ∧ x.2 = .slice X x.1.imm.length c ∧ W.heap[Bx]? = some (.cells #[.int .i64 x.1.at_, .int .i64 x.1.code, .slice X x.1.imm.length c, .int .i64 x.1.next] 34 (0, 0)) ∧ W.ownsRow W0.heap.size 5 1 (.slice X x.1.imm.length c) x.1.imm.length (byteVs x.1.imm) ∧
      (∃ p, Reads bs (pre.map Prod.fst) p ∧ readE bs p = (0, x.1)) ∧
      a' = { tmps := #[.slice A za.length capA, .pointer (some ⟨w.heap.size, 0, none⟩), .pointer (some ⟨w.heap.size + 1, 0, none⟩), .pointer (some ⟨b3, 0, none⟩), .pointer (some ⟨b3 + 1, 0, none⟩), .int .i64 sc.2, .pointer (some ⟨b6, 0, none⟩), .pointer (some ⟨b6 + 1, 0, none⟩), .pointer (some ⟨b6 + 1 + 1, 0, none⟩), .pointer (some ⟨b6 + 1 + 1 + 1, 0, none⟩), .func (.func 40) #[] #[.pointer (some ⟨g, 0, none⟩)], .pointer (some ⟨Bx, 0, none⟩), undef, undef, undef, undef, undef, undef, .slice A za.length capA, .slice Xb bs.length cb, .tuple #[.slice Xl ys.length cl, .int .i64 sc.1, .int .i64 sc.2], .slice Xb bs.length cb, .tuple #[.slice Xl ys.length cl, .int .i64 sc.1, .int .i64 sc.2], .slice Xl ys.length cl, .int .i64 sc.1, .int .i64 sc.2, .slice Xb bs.length cb, .slice (some ⟨gs, 0, none⟩) bs.length bs.length, .slice (some ⟨gs, 0, none⟩) bs.length bs.length, .int .i64 (bs.length : Int), .slice Xb bs.length cb, .int .i64 (bs.length : Int), .bool false, .slice Xb bs.length cb, .func (.func 40) #[] #[.pointer (some ⟨g, 0, none⟩)], .func (.func 40) #[] #[.pointer (some ⟨g, 0, none⟩)], .bool false, .func (.func 40) #[] #[.pointer (some ⟨g, 0, none⟩)], insV x.1 (.slice X x.1.imm.length c), undef, undef, undef, undef, undef, undef, undef, undef, undef, undef, undef, undef, undef, undef, undef, undef, undef, undef, undef, undef, undef, undef, undef, undef, undef, undef, undef, undef, undef, undef, undef, undef, undef, undef, undef, undef, undef, undef, undef, undef, undef, undef, undef, undef, undef, undef, undef, undef, undef, undef, undef, undef, undef, undef, undef, undef, undef, undef, undef, undef, undef, undef, undef, undef, undef, undef, undef, undef, undef, undef, undef, undef, undef, undef, undef, undef, undef, undef, undef, undef, undef, undef, undef, undef, undef, undef, undef, undef, undef, undef, undef, undef, undef, undef, undef, undef, undef, undef, undef, undef, undef, undef, undef, undef, undef, undef, undef, undef, undef, undef, undef, undef, undef, undef, undef, undef, undef, undef, undef, undef, undef, undef, undef, undef, undef, undef, undef, undef, undef, undef, undef, undef], defers := [] })
    (fun pre x r a' _ W W' row hs hg hr => by
      obtain ⟨Bx, X, c, h1, h2, h4, h5, h6, h9⟩ := hs
      exact ⟨Bx, X, c, h1, h2, h4, blk_stays h5 hg hr, own_stays h6 hg hr, h9⟩) ?assign ?body ?done ?stop
  case assign =>
    rintro l pre ⟨i, v⟩ W o K hi ⟨hr, hown, _⟩ ho hK
    change W.ownsRow W0.heap.size 5 1 v i.imm.length (byteVs i.imm) at hown
    obtain ⟨X, c, rfl⟩ := owns_shape hown
    unfold elV insV
    gi_wp2
    have hsz2 : ((W.alloc o).alloc (.cells #[.int .i64 i.at_, .int .i64 i.code, .slice X i.imm.length c, .int .i64 i.next] 34)).heap[W.heap.size]? = some o := (Below.heap_alloc _ _ _ (by simp)).trans (heap_alloc_new _ _)
    have hg2 : W.grownBy ((W.alloc o).alloc (.cells #[.int .i64 i.at_, .int .i64 i.code, .slice X i.imm.length c, .int .i64 i.next] 34)) none := grownBy_below (((Below.refl _ W).alloc (Nat.le_refl _) _).alloc (by simp) _)
    have hi2 := agr_kept hwW pre _ _ none hi hg2 (fun r e => by cases e)
    have hWs := hi.2.1
    exact hK _ _ ((KeepsOthers.alloc _ _).from _) hi2 ⟨W.heap.size + 1, X, c, by omega, hWs, rfl, by have := heap_alloc_new (W.alloc o) (.cells #[.int .i64 i.at_, .int .i64 i.code, .slice X i.imm.length c, .int .i64 i.next] 34); simpa using this, (hown.alloc _).alloc _, hr, rfl⟩ hsz2
  case body =>
    rintro l pre ⟨i, v⟩ r o a' W hl hlr hinv ⟨Bx, X, c, hBx, hrr, hv, hx, hox, hrd, rfl⟩ hro ho
    have hinv' := hinv
    obtain ⟨iB, iS, iK, i7, i8, i9, iR⟩ := hinv
    dsimp only at hv hx hrd hox
    subst hv
    obtain ⟨p, hp1, hp2⟩ := hrd
    obtain ⟨p, rfl⟩ : ∃ pn : Nat, p = pn := ⟨p.toNat, by have := (read_next hp2).1; omega⟩
    have hpn := reads_next hp1
    rw [← hpn] at i7
    obtain ⟨hp0, hpq, hp5, hat, hnx, hil⟩ := read_next hp2
    have x1 := (iK w.heap.size (by omega) (by omega) (by omega) (by omega)).trans r1
    have x3 := (iK b3 (by omega) (by omega) (by omega) (by omega)).trans r3
    have x4 := (iK (b3 + 1) (by omega) (by omega) (by omega) (by omega)).trans r4
    have x6 := (iK b6 (by omega) (by omega) (by omega) (by omega)).trans r6
    have xb := agr_own r7 r8 r9 iK rb (by decide)
    have xl := agr_own r7 r8 r9 iK rl (by decide)
    have xR : RowsAt W1.heap.size ys W := fun y hy => agr_own r7 r8 r9 iK (rR y hy) (by decide)
    have HO := Lib.hid (one_any bs Xb cb p W (owned_ints xb) HZ.out (by omega) hcb)
    rw [hp2] at HO
    obtain ⟨g1, z1⟩ := cell_of1 x1
    obtain ⟨g3, z3⟩ := cell_of1 x3
    obtain ⟨g4, z4⟩ := cell_of1 x4
    obtain ⟨g6, z6⟩ := cell_of1 x6
    obtain ⟨g7, z7⟩ := cell_of1 i7
    obtain ⟨g8, z8⟩ := cell_of1 i8
    obtain ⟨g9, z9⟩ := cell_of1 i9
    have HP1 := Lib.hid hp1
    have HP2 := Lib.hid hp2
    have HPN := Lib.hid hpn
    have HAT := Lib.hid hat
    have HNX := Lib.hid hnx
    clear hp1 hp2 hpn hat hnx
    unfold insV at HO ⊢
    gi_wp2_with (refine ⟨trivial, ?_⟩; gi_at_call 22; refine (CallsIn.inRound l (callsIn_wide.2 HO.out)).mono ?_; rintro e w5 ⟨v5, rfl, ho5, hb5⟩; obtain ⟨X5, c5, rfl⟩ := owns_shape ho5)
    have hb6 := hb5.alloc hb5.size (.cells #[.int .i64 i.at_, .int .i64 i.code, .slice X5 i.imm.length c5, .int .i64 i.next] 34)
    have hg12 := heap_alloc_new w5 (.cells #[.int .i64 i.at_, .int .i64 i.code, .slice X5 i.imm.length c5, .int .i64 i.next] 34)
    have ho6 := ho5.alloc (.cells #[.int .i64 i.at_, .int .i64 i.code, .slice X5 i.imm.length c5, .int .i64 i.next] 34)
    obtain ⟨bk, hbk⟩ : ∃ bk, bk = w5.heap.size := ⟨_, rfl⟩
    rw [← hbk] at hg12 ⊢
    have hbkW : W.heap.size ≤ bk := by rw [hbk]; exact hb5.size
    clear hbk
    generalize w5.alloc (.cells #[.int .i64 i.at_, .int .i64 i.code, .slice X5 i.imm.length c5, .int .i64 i.next] 34) = W5 at hb6 hg12 ho6 ⊢
    clear ho5 hb5 g1 z1 g3 z3 g4 z4 g6 z6 g7 z7 g8 z8 g9 z9
    have hxx := kept_of hb6 hx
    have y1 := kept_of hb6 x1
    have y3 := kept_of hb6 x3
    have y4 := kept_of hb6 x4
    have y6 := kept_of hb6 x6
    have y7 := kept_of hb6 i7
    have y8 := kept_of hb6 i8
    have y9 := kept_of hb6 i9
    have yl := own_below xl hb6
    have HOX := Lib.hid (owned_ints (own_below hox hb6))
    have HO6 := Lib.hid (owned_ints ho6)
    have HGO : ∀ (W6 : World), Below W5.heap.size W5 W6 → True := fun _ _ => trivial
    obtain ⟨a0, a1, a2, a3, az, al⟩ := cells4 hxx
    obtain ⟨k0, k1, k2, k3, kz, kl⟩ := cells4 hg12
    have u0 := fun d os => cell_regrown a0 d os
    have u1 := fun d os => cell_regrown a1 d os
    have u2 := fun d os => cell_regrown a2 d os
    have u3 := fun d os => cell_regrown a3 d os
    have v0 := fun d os => cell_regrown k0 d os
    have v1 := fun d os => cell_regrown k1 d os
    have v2 := fun d os => cell_regrown k2 d os
    have v3 := fun d os => cell_regrown k3 d os
    have t3 := fun d os => cell_regrown (cell_of1 y3).1 d os
    have t4 := fun d os => cell_regrown (cell_of1 y4).1 d os
    have t8 := fun d os => cell_regrown (cell_of1 y8).1 d os
    have uS := fun rr d os => callsIn_grown (w := W5) (r := rr) (fun w1 hb => same_eq i X X5 c c5 w1 (ints_below hb HOX.out) (ints_below hb HO6.out)) d os
    unfold insV at uS
    by_cases hs0 : sc.1 = 0
    · obtain ⟨hs1, rfl⟩ : sc.1 = 0 ∧ ys = xs := HYS.out.resolve_right (fun h => h.1 hs0)
      have hrd2 : Reads bs ((pre ++ [(i, Value.slice X i.imm.length c)]).map Prod.fst) i.next := by rw [List.map_append]; exact .snoc HP1.out HP2.out
      obtain ⟨hin1, hin2⟩ := reads_in hrd2 HALL.out
      have hlt2 : pre.length < ys.length := by rw [List.length_map, List.length_append, List.length_singleton] at hin1; omega
      obtain ⟨yv, hyy⟩ : ∃ yv, ys[pre.length]? = some (i, yv) := by
        have e : (ys.map Prod.fst)[pre.length]? = some i := by
          rw [List.length_map, List.length_append] at hin2
          have := congrArg (fun l => l[pre.length]?) hin2
          rw [List.map_append, List.getElem?_append_right (by simp), List.length_map, Nat.sub_self] at this
          rw [List.getElem?_take, if_pos (by simp)] at this
          exact this.symm
        rw [List.getElem?_map] at e
        cases hq : ys[pre.length]? with
        | none => rw [hq] at e; cases e
        | some y => rw [hq] at e; exact ⟨y.2, by rw [← Option.some.inj e]⟩
      obtain ⟨hr1, hr2, hr3, hr4⟩ := insCells_at hyy
      dsimp only at hr1 hr2 hr3 hr4
      obtain ⟨gl, rfl⟩ := own_head yl (by omega)
      have hyw := own_below (show W.ownsRow W1.heap.size 5 1 yv i.imm.length (byteVs i.imm) from xR _ (List.mem_of_getElem? hyy)) hb6
      obtain ⟨Xn, cn, rfl⟩ := owns_shape hyw
      have HYW := Lib.hid (owned_ints hyw)
      have l0 := fun d os => cell_regrown ((yl.cellAt (pre.length * 4) (by omega)).trans hr1) d os
      have l1 := fun d os => cell_regrown ((yl.cellAt (pre.length * 4 + 1) (by omega)).trans hr2) d os
      have l2 := fun d os => cell_regrown ((yl.cellAt (pre.length * 4 + 2) (by omega)).trans hr3) d os
      have l3 := fun d os => cell_regrown ((yl.cellAt (pre.length * 4 + 3) (by omega)).trans hr4) d os
      have uT := fun rr d os => callsIn_grown (w := W5) (r := rr) (fun w1 hb => same_eq i Xn X cn c w1 (ints_below hb HYW.out) (ints_below hb HOX.out)) d os
      unfold insV at uT
      rw [hs0] at t4
      have HLT2 := Lib.hid hlt2
      have hd1 : decide (ys.length ≤ pre.length) = false := decide_eq_false (by omega)
      have hd2 : decide ((ys.length : Int) ≤ (pre.length : Int)) = false := decide_eq_false (by omega)
      have hd3 : (pre.length : Int) < (ys.length : Int) := by omega
      clear hr1 hr2 hr3 hr4 hin1 hin2 hrd2 hyw hyy
      refine wpIn_region_round rfl (by kernel_rfl) (by kernel_rfl) (by kernel_rfl) ?_
      repeat (refine wpQuietIn_step (fun _ _ _ _ => trivial) (fun K hK => ?_); go_simp; first | (refine hK _ ?_; clear hK K) | (apply Exists.intro; refine ⟨fun _ => ?_, hK _ ?_⟩; first | with_reducible exact uS _ _ _ | with_reducible exact uT _ _ _; clear hK K))
      refine wpQuietIn_nil ?_
      rintro _ ⟨pq, rfl⟩
      have hbq := below_regrown W5 pq.d pq.os
      clear u0 u1 u2 u3 v0 v1 v2 v3 t3 t4 t8 uS
      generalize grow (redrawn W5 pq.d) pq.os = W6 at hbq ⊢
      have hbW := hb6.trans (hbq.mono hb6.size)
      obtain ⟨g1, z1⟩ := cell_of1 (kept_of hbW x1)
      obtain ⟨g6, z6⟩ := cell_of1 (kept_of hbW x6)
      obtain ⟨g7, z7⟩ := cell_of1 (kept_of hbW i7)
      obtain ⟨a0, a1, a2, a3, az, al⟩ := cells4 (kept_of hbq hxx)
      have hSW := row_below (agr_row r7 r8 r9 iK rS (by decide)) hbW
      have HSA := Lib.hid (fun j => starts_at HALL.out HP1.out HP2.out j)
      have hNr := hbW.size
      gi_wp2
      gi_loopw [14] (fun vj wx => ∃ j : Nat, vj = .int .i64 j ∧ p ≤ j ∧ (j : Int) ≤ i.next ∧ Below W6.heap.size W6 wx) (fun vj _ => i.next.toNat - (intOf vj).toNat)
      case atStart => exact ⟨p, rfl, Nat.le_refl _, by omega, Below.refl _ _⟩
      case round =>
        obtain ⟨j, rfl, hpj, hjn, hBj⟩ := hrel
        have d1 := cell_later hBj g1
        have d6 := cell_later hBj g6
        have d7 := cell_later hBj g7
        have b3' := cell_later hBj a3
        by_cases hjl : (j : Int) < i.next
        · have hjb : j < bs.length := by omega
          have hjb2 : (j : Int) < (bs.length : Int) := by omega
          have hst := (row_below hSW hBj).cell (i := j) hjb
          rw [HSA.out j hpj hjl] at hst
          have hpi : (p : Int) ≤ (j : Int) := by omega
          have hji0 : (0 : Int) ≤ (j : Int) := by omega
          by_cases hjp : j = p
          · subst hjp
            rw [show (j == j) = true by simp] at hst
            gi_wp2
            have uA := fun d os => cell_regrown d6 d os
            have uB := fun d os => cell_regrown hst d os
            have uC := fun d os => cell_regrown d7 d os
            refine wpIn_region_round rfl (by kernel_rfl) (by kernel_rfl) (by kernel_rfl) ?_
            repeat (refine wpQuietIn_step (fun _ _ _ _ => trivial) (fun K hK => ?_); go_simp; refine hK _ ?_; clear hK K)
            refine wpQuietIn_nil ?_
            rintro _ ⟨pr, rfl⟩
            have hbr := below_regrown wr pr.d pr.os
            generalize grow (redrawn wr pr.d) pr.os = W7 at hbr ⊢
            clear uA uB uC
            gi_wp2
            exact ⟨⟨j + 1, by go_num, by omega, by omega, hBj.trans (hbr.mono hBj.size)⟩, by simp [intOf]; omega⟩
          · rw [show (j == p) = false by simpa using hjp] at hst
            have e3 : ((j : Int) == (p : Int)) = false := by simp; omega
            have e4 : ¬ (j : Int) = (p : Int) := by omega
            gi_wp2
            have uA := fun d os => cell_regrown d6 d os
            have uB := fun d os => cell_regrown hst d os
            have uC := fun d os => cell_regrown d7 d os
            refine wpIn_region_round rfl (by kernel_rfl) (by kernel_rfl) (by kernel_rfl) ?_
            repeat (refine wpQuietIn_step (fun _ _ _ _ => trivial) (fun K hK => ?_); go_simp; refine hK _ ?_; clear hK K)
            refine wpQuietIn_nil ?_
            rintro _ ⟨pr, rfl⟩
            have hbr := below_regrown wr pr.d pr.os
            generalize grow (redrawn wr pr.d) pr.os = W7 at hbr ⊢
            clear uA uB uC
            gi_wp2
            exact ⟨⟨j + 1, by go_num, by omega, by omega, hBj.trans (hbr.mono hBj.size)⟩, by simp [intOf]; omega⟩
        · have hbx := hbW.trans (hBj.mono hbW.size)
          have m7 := kept_of hbx i7
          have m8 := kept_of hbx i8
          have m9 := kept_of hbx i9
          have mx := kept_of hbx hx
          have mr := kept_of hbx hro
          have hIK := hbx.block
          obtain ⟨q9, f9⟩ := cell_of1 m9
          gi_upto_region 23 with fail
          have n7 := heap_setOther m7 (a := ⟨b6 + 1 + 1 + 1, 0, none⟩) (by dsimp only; omega) (.int .i64 p)
          have n8 := heap_setOther m8 (a := ⟨b6 + 1 + 1 + 1, 0, none⟩) (by dsimp only; omega) (.int .i64 p)
          have n9 := heap_set1 m9 (.int .i64 p)
          have nx := heap_setOther mx (a := ⟨b6 + 1 + 1 + 1, 0, none⟩) (by dsimp only; omega) (.int .i64 p)
          have nr := heap_setOther mr (a := ⟨b6 + 1 + 1 + 1, 0, none⟩) (by dsimp only; omega) (.int .i64 p)
          have nB := (iB.trans (hbx.mono iB.size)).setCell (p := ⟨b6 + 1 + 1 + 1, 0, none⟩) (by have := iB.size; dsimp only; omega) (.int .i64 p)
          have nK : KeepsFrom W0.heap.size W (wr.setCell ⟨b6 + 1 + 1 + 1, 0, none⟩ (.int .i64 p)) := (KeepsFrom.of_grownBy (grownBy_below hbx) (fun _ h => by cases h)).trans ((KeepsOthers.setCell _ _ _).from _)
          have nI : ∀ k, k < W0.heap.size → k ≠ b6 + 1 + 1 + 1 → (wr.setCell ⟨b6 + 1 + 1 + 1, 0, none⟩ (.int .i64 p)).heap[k]? = W.heap[k]? := fun k hk h => (Below.heap_setCell _ _ _ _ (by dsimp only; omega)).trans (hIK k (by omega))
          have nS : W.heap.size ≤ (wr.setCell ⟨b6 + 1 + 1 + 1, 0, none⟩ (.int .i64 p)).heap.size := by have := hbx.size; simp; omega
          generalize wr.setCell ⟨b6 + 1 + 1 + 1, 0, none⟩ (.int .i64 p) = W7 at n7 n8 n9 nx nr nB nK nI nS ⊢
          clear m7 m8 m9 mx mr hIK q9 f9 d1 d6 d7 b3'
          obtain ⟨q7, f7⟩ := cell_of1 n7
          obtain ⟨a0, a1, a2, a3, az, al⟩ := cells4 nx
          gi_upto_region 24 with fail
          have o7 := heap_set1 n7 (.int .i64 i.next)
          have o8 := heap_setOther n8 (a := ⟨b6 + 1, 0, none⟩) (by dsimp only; omega) (.int .i64 i.next)
          have o9 := heap_setOther n9 (a := ⟨b6 + 1, 0, none⟩) (by dsimp only; omega) (.int .i64 i.next)
          have or' := heap_setOther nr (a := ⟨b6 + 1, 0, none⟩) (by dsimp only; omega) (.int .i64 i.next)
          have oB := nB.setCell (p := ⟨b6 + 1, 0, none⟩) (by have := iB.size; dsimp only; omega) (.int .i64 i.next)
          have oK : KeepsFrom W0.heap.size W (W7.setCell ⟨b6 + 1, 0, none⟩ (.int .i64 i.next)) := nK.trans ((KeepsOthers.setCell _ _ _).from _)
          have oI : ∀ k, k < W0.heap.size → k ≠ b6 + 1 → k ≠ b6 + 1 + 1 + 1 → (W7.setCell ⟨b6 + 1, 0, none⟩ (.int .i64 i.next)).heap[k]? = W.heap[k]? := fun k hk h h' => (Below.heap_setCell _ _ _ _ (by dsimp only; omega)).trans (nI k hk h')
          have oS : W.heap.size ≤ (W7.setCell ⟨b6 + 1, 0, none⟩ (.int .i64 i.next)).heap.size := by simp; omega
          generalize W7.setCell ⟨b6 + 1, 0, none⟩ (.int .i64 i.next) = W8 at o7 o8 o9 or' oB oK oI oS ⊢
          clear n7 n8 n9 nx nr nB nK nI nS q7 f7 a0 a1 a2 a3 az al
          obtain ⟨q8, f8⟩ := cell_of1 o8
          have hpl : pre.length ≤ 70000 := by
            have := reads_length HP1.out
            rw [List.length_map] at this
            omega
          have hmap : (pre ++ [(i, Value.slice X i.imm.length c)]).map Prod.fst = pre.map Prod.fst ++ [i] := by rw [List.map_append]; rfl
          have fin : KeepsFrom W0.heap.size W (W8.setCell ⟨b6 + 1 + 1, 0, none⟩ (.int .i64 ((pre.length : Int) + 1))) ∧ AgrInv bs w W0 (b6 + 1) (pre ++ [(i, .slice X i.imm.length c)]) (W8.setCell ⟨b6 + 1 + 1, 0, none⟩ (.int .i64 ((pre.length : Int) + 1))) ∧ (W8.setCell ⟨b6 + 1 + 1, 0, none⟩ (.int .i64 ((pre.length : Int) + 1))).heap[r]? = some o := by
            refine ⟨oK.trans ((KeepsOthers.setCell _ _ _).from _), ⟨oB.setCell (p := ⟨b6 + 1 + 1, 0, none⟩) (by have := iB.size; dsimp only; omega) _, by simp; omega, fun k hk h1 h2 h3 => (Below.heap_setCell _ _ _ _ (by dsimp only; omega)).trans ((oI k hk h1 h3).trans (iK k hk h1 h2 h3)), ?_, ?_, ?_, ⟨i.next, by rw [hmap]; exact .snoc HP1.out HP2.out⟩⟩, heap_setOther or' (by dsimp only; omega) _⟩
            · rw [hmap, nextOf_snoc]
              exact heap_setOther o7 (by dsimp only; omega) _
            · rw [List.length_append, List.length_singleton, Int.natCast_add]
              exact heap_set1 o8 _
            · rw [hmap, lastOf6_snoc, HAT.out]
              exact heap_setOther o9 (by dsimp only; omega) _
          clear hmap
          gi_wp2
          exact fin
    · have e4 : (sc.1 == 0) = false := beq_eq_false_iff_ne.2 hs0
      refine wpIn_region_round rfl (by kernel_rfl) (by kernel_rfl) (by kernel_rfl) ?_
      repeat (refine wpQuietIn_step (fun _ _ _ _ => trivial) (fun K hK => ?_); go_simp; first | (refine hK _ ?_; clear hK K) | (apply Exists.intro; refine ⟨fun _ => ?_, hK _ ?_⟩; with_reducible exact uS _ _ _; clear hK K))
      refine wpQuietIn_nil ?_
      rintro _ ⟨pq, rfl⟩
      have hbq := below_regrown W5 pq.d pq.os
      clear u0 u1 u2 u3 v0 v1 v2 v3 t3 t4 t8 uS
      generalize grow (redrawn W5 pq.d) pq.os = W6 at hbq ⊢
      have hbW := hb6.trans (hbq.mono hb6.size)
      obtain ⟨g1, z1⟩ := cell_of1 (kept_of hbW x1)
      obtain ⟨g6, z6⟩ := cell_of1 (kept_of hbW x6)
      obtain ⟨g7, z7⟩ := cell_of1 (kept_of hbW i7)
      obtain ⟨a0, a1, a2, a3, az, al⟩ := cells4 (kept_of hbq hxx)
      have hSW := row_below (agr_row r7 r8 r9 iK rS (by decide)) hbW
      have HSA := Lib.hid (fun j => starts_at HALL.out HP1.out HP2.out j)
      have hNr := hbW.size
      gi_wp2
      gi_loopw [14] (fun vj wx => ∃ j : Nat, vj = .int .i64 j ∧ p ≤ j ∧ (j : Int) ≤ i.next ∧ Below W6.heap.size W6 wx) (fun vj _ => i.next.toNat - (intOf vj).toNat)
      case atStart => exact ⟨p, rfl, Nat.le_refl _, by omega, Below.refl _ _⟩
      case round =>
        obtain ⟨j, rfl, hpj, hjn, hBj⟩ := hrel
        have d1 := cell_later hBj g1
        have d6 := cell_later hBj g6
        have d7 := cell_later hBj g7
        have b3' := cell_later hBj a3
        by_cases hjl : (j : Int) < i.next
        · have hjb : j < bs.length := by omega
          have hjb2 : (j : Int) < (bs.length : Int) := by omega
          have hst := (row_below hSW hBj).cell (i := j) hjb
          rw [HSA.out j hpj hjl] at hst
          have hpi : (p : Int) ≤ (j : Int) := by omega
          have hji0 : (0 : Int) ≤ (j : Int) := by omega
          by_cases hjp : j = p
          · subst hjp
            rw [show (j == j) = true by simp] at hst
            gi_wp2
            have uA := fun d os => cell_regrown d6 d os
            have uB := fun d os => cell_regrown hst d os
            have uC := fun d os => cell_regrown d7 d os
            refine wpIn_region_round rfl (by kernel_rfl) (by kernel_rfl) (by kernel_rfl) ?_
            repeat (refine wpQuietIn_step (fun _ _ _ _ => trivial) (fun K hK => ?_); go_simp; refine hK _ ?_; clear hK K)
            refine wpQuietIn_nil ?_
            rintro _ ⟨pr, rfl⟩
            have hbr := below_regrown wr pr.d pr.os
            generalize grow (redrawn wr pr.d) pr.os = W7 at hbr ⊢
            clear uA uB uC
            gi_wp2
            exact ⟨⟨j + 1, by go_num, by omega, by omega, hBj.trans (hbr.mono hBj.size)⟩, by simp [intOf]; omega⟩
          · rw [show (j == p) = false by simpa using hjp] at hst
            have e3 : ((j : Int) == (p : Int)) = false := by simp; omega
            have e4 : ¬ (j : Int) = (p : Int) := by omega
            gi_wp2
            have uA := fun d os => cell_regrown d6 d os
            have uB := fun d os => cell_regrown hst d os
            have uC := fun d os => cell_regrown d7 d os
            refine wpIn_region_round rfl (by kernel_rfl) (by kernel_rfl) (by kernel_rfl) ?_
            repeat (refine wpQuietIn_step (fun _ _ _ _ => trivial) (fun K hK => ?_); go_simp; refine hK _ ?_; clear hK K)
            refine wpQuietIn_nil ?_
            rintro _ ⟨pr, rfl⟩
            have hbr := below_regrown wr pr.d pr.os
            generalize grow (redrawn wr pr.d) pr.os = W7 at hbr ⊢
            clear uA uB uC
            gi_wp2
            exact ⟨⟨j + 1, by go_num, by omega, by omega, hBj.trans (hbr.mono hBj.size)⟩, by simp [intOf]; omega⟩
        · have hbx := hbW.trans (hBj.mono hbW.size)
          have m7 := kept_of hbx i7
          have m8 := kept_of hbx i8
          have m9 := kept_of hbx i9
          have mx := kept_of hbx hx
          have mr := kept_of hbx hro
          have hIK := hbx.block
          obtain ⟨q9, f9⟩ := cell_of1 m9
          gi_upto_region 23 with fail
          have n7 := heap_setOther m7 (a := ⟨b6 + 1 + 1 + 1, 0, none⟩) (by dsimp only; omega) (.int .i64 p)
          have n8 := heap_setOther m8 (a := ⟨b6 + 1 + 1 + 1, 0, none⟩) (by dsimp only; omega) (.int .i64 p)
          have n9 := heap_set1 m9 (.int .i64 p)
          have nx := heap_setOther mx (a := ⟨b6 + 1 + 1 + 1, 0, none⟩) (by dsimp only; omega) (.int .i64 p)
          have nr := heap_setOther mr (a := ⟨b6 + 1 + 1 + 1, 0, none⟩) (by dsimp only; omega) (.int .i64 p)
          have nB := (iB.trans (hbx.mono iB.size)).setCell (p := ⟨b6 + 1 + 1 + 1, 0, none⟩) (by have := iB.size; dsimp only; omega) (.int .i64 p)
          have nK : KeepsFrom W0.heap.size W (wr.setCell ⟨b6 + 1 + 1 + 1, 0, none⟩ (.int .i64 p)) := (KeepsFrom.of_grownBy (grownBy_below hbx) (fun _ h => by cases h)).trans ((KeepsOthers.setCell _ _ _).from _)
          have nI : ∀ k, k < W0.heap.size → k ≠ b6 + 1 + 1 + 1 → (wr.setCell ⟨b6 + 1 + 1 + 1, 0, none⟩ (.int .i64 p)).heap[k]? = W.heap[k]? := fun k hk h => (Below.heap_setCell _ _ _ _ (by dsimp only; omega)).trans (hIK k (by omega))
          have nS : W.heap.size ≤ (wr.setCell ⟨b6 + 1 + 1 + 1, 0, none⟩ (.int .i64 p)).heap.size := by have := hbx.size; simp; omega
          generalize wr.setCell ⟨b6 + 1 + 1 + 1, 0, none⟩ (.int .i64 p) = W7 at n7 n8 n9 nx nr nB nK nI nS ⊢
          clear m7 m8 m9 mx mr hIK q9 f9 d1 d6 d7 b3'
          obtain ⟨q7, f7⟩ := cell_of1 n7
          obtain ⟨a0, a1, a2, a3, az, al⟩ := cells4 nx
          gi_upto_region 24 with fail
          have o7 := heap_set1 n7 (.int .i64 i.next)
          have o8 := heap_setOther n8 (a := ⟨b6 + 1, 0, none⟩) (by dsimp only; omega) (.int .i64 i.next)
          have o9 := heap_setOther n9 (a := ⟨b6 + 1, 0, none⟩) (by dsimp only; omega) (.int .i64 i.next)
          have or' := heap_setOther nr (a := ⟨b6 + 1, 0, none⟩) (by dsimp only; omega) (.int .i64 i.next)
          have oB := nB.setCell (p := ⟨b6 + 1, 0, none⟩) (by have := iB.size; dsimp only; omega) (.int .i64 i.next)
          have oK : KeepsFrom W0.heap.size W (W7.setCell ⟨b6 + 1, 0, none⟩ (.int .i64 i.next)) := nK.trans ((KeepsOthers.setCell _ _ _).from _)
          have oI : ∀ k, k < W0.heap.size → k ≠ b6 + 1 → k ≠ b6 + 1 + 1 + 1 → (W7.setCell ⟨b6 + 1, 0, none⟩ (.int .i64 i.next)).heap[k]? = W.heap[k]? := fun k hk h h' => (Below.heap_setCell _ _ _ _ (by dsimp only; omega)).trans (nI k hk h')
          have oS : W.heap.size ≤ (W7.setCell ⟨b6 + 1, 0, none⟩ (.int .i64 i.next)).heap.size := by simp; omega
          generalize W7.setCell ⟨b6 + 1, 0, none⟩ (.int .i64 i.next) = W8 at o7 o8 o9 or' oB oK oI oS ⊢
          clear n7 n8 n9 nx nr nB nK nI nS q7 f7 a0 a1 a2 a3 az al
          obtain ⟨q8, f8⟩ := cell_of1 o8
          have hpl : pre.length ≤ 70000 := by
            have := reads_length HP1.out
            rw [List.length_map] at this
            omega
          have hmap : (pre ++ [(i, Value.slice X i.imm.length c)]).map Prod.fst = pre.map Prod.fst ++ [i] := by rw [List.map_append]; rfl
          have fin : KeepsFrom W0.heap.size W (W8.setCell ⟨b6 + 1 + 1, 0, none⟩ (.int .i64 ((pre.length : Int) + 1))) ∧ AgrInv bs w W0 (b6 + 1) (pre ++ [(i, .slice X i.imm.length c)]) (W8.setCell ⟨b6 + 1 + 1, 0, none⟩ (.int .i64 ((pre.length : Int) + 1))) ∧ (W8.setCell ⟨b6 + 1 + 1, 0, none⟩ (.int .i64 ((pre.length : Int) + 1))).heap[r]? = some o := by
            refine ⟨oK.trans ((KeepsOthers.setCell _ _ _).from _), ⟨oB.setCell (p := ⟨b6 + 1 + 1, 0, none⟩) (by have := iB.size; dsimp only; omega) _, by simp; omega, fun k hk h1 h2 h3 => (Below.heap_setCell _ _ _ _ (by dsimp only; omega)).trans ((oI k hk h1 h3).trans (iK k hk h1 h2 h3)), ?_, ?_, ?_, ⟨i.next, by rw [hmap]; exact .snoc HP1.out HP2.out⟩⟩, heap_setOther or' (by dsimp only; omega) _⟩
            · rw [hmap, nextOf_snoc]
              exact heap_setOther o7 (by dsimp only; omega) _
            · rw [List.length_append, List.length_singleton, Int.natCast_add]
              exact heap_set1 o8 _
            · rw [hmap, lastOf6_snoc, HAT.out]
              exact heap_setOther o9 (by dsimp only; omega) _
          clear hmap
          gi_wp2
          exact fin
  case done =>
    rintro D xs' W hD hall' hinv hK
    obtain ⟨iB, iS, iK, i7, i8, i9, iR⟩ := hinv
    have hsame := all_sameA HALL.out hall'
    have hlen : xs'.length = xs.length := by simpa using congrArg List.length hsame
    rw [hsame] at i7 i9 iR
    rw [hlen] at i8
    clear hall' hsame hlen
    obtain ⟨pq, hrdq, hneq⟩ := HALL.out
    have hpn := reads_next hrdq
    subst hpn
    have hps := reads_pos hrdq
    have hxl : xs.length ≤ bs.length := by have := reads_length hrdq; simpa using this
    have HSN := Lib.hid (fun j hj => starts_none HALL.out j hj)
    obtain ⟨P, hP⟩ : ∃ P : Nat, nextOf (xs.map Prod.fst) = P := ⟨(nextOf (xs.map Prod.fst)).toNat, by omega⟩
    rw [hP] at i7 hps hneq HSN
    have HP := Lib.hid hP
    have x1 := (iK w.heap.size (by omega) (by omega) (by omega) (by omega)).trans r1
    have x2 := (iK (w.heap.size + 1) (by omega) (by omega) (by omega) (by omega)).trans r2
    have x3 := (iK b3 (by omega) (by omega) (by omega) (by omega)).trans r3
    have x4 := (iK (b3 + 1) (by omega) (by omega) (by omega) (by omega)).trans r4
    have x6 := (iK b6 (by omega) (by omega) (by omega) (by omega)).trans r6
    have xb := agr_own r7 r8 r9 iK rb (by decide)
    have hSW := agr_row r7 r8 r9 iK rS (by decide)
    obtain ⟨g1, z1⟩ := cell_of1 x1
    obtain ⟨g6, z6⟩ := cell_of1 x6
    obtain ⟨g7, z7⟩ := cell_of1 i7
    have HRDQ := Lib.hid hrdq
    have HNEQ := Lib.hid hneq
    clear hrdq hneq hP iR
    gi_wp2
    gi_loopw [15] (fun vj wx => ∃ j : Nat, vj = .int .i64 j ∧ P ≤ j ∧ j ≤ bs.length ∧ Below W.heap.size W wx) (fun vj _ => bs.length - (intOf vj).toNat)
    case atStart => exact ⟨P, rfl, Nat.le_refl _, by omega, Below.refl _ _⟩
    case round =>
      obtain ⟨j, rfl, hpj, hjn, hBj⟩ := hrel
      have d1 := cell_later hBj g1
      have d6 := cell_later hBj g6
      by_cases hjl : j < bs.length
      · have hst := (row_below hSW hBj).cell (i := j) hjl
        rw [HSN.out j (by omega)] at hst
        have hj1 : (j : Int) < (bs.length : Int) := by omega
        gi_wp2
        exact ⟨⟨j + 1, by go_num, by omega, by omega, hBj⟩, by simp [intOf]; omega⟩
      · have hj1 : ¬ (j : Int) < (bs.length : Int) := by omega
        have d7 := cell_later hBj g7
        have HO := Lib.hid (one_any bs Xb cb P wr (ints_below hBj (owned_ints xb)) HZ.out (by omega) hcb)
        generalize hrd : readE bs P = rp at HO HNEQ
        obtain ⟨er, ir⟩ := rp
        have HRD := Lib.hid hrd
        clear hrd
        unfold insV at HO
        gi_upto_region 31 with (refine ⟨trivial, ?_⟩; gi_at_call 22; refine (callsIn_wide.2 HO.out).mono ?_; rintro e w5 ⟨v5, rfl, ho5, hb5⟩; obtain ⟨X5, c5, rfl⟩ := owns_shape ho5)
        have hBz := (hBj.trans (hb5.mono hBj.size)).alloc (Nat.le_trans hBj.size hb5.size) (.cells #[.int .i64 ir.at_, .int .i64 ir.code, .slice X5 ir.imm.length c5, .int .i64 ir.next] 34)
        generalize w5.alloc (.cells #[.int .i64 ir.at_, .int .i64 ir.code, .slice X5 ir.imm.length c5, .int .i64 ir.next] 34) = W6 at hBz ⊢
        clear hb5 ho5 d1 d6 d7 HO g1 z1 g6 z6 g7 z7
        have y2 := kept_of hBz x2
        obtain ⟨d1, f1⟩ := cell_of1 (kept_of hBz x1)
        obtain ⟨d3, f3⟩ := cell_of1 (kept_of hBz x3)
        obtain ⟨d4, f4⟩ := cell_of1 (kept_of hBz x4)
        obtain ⟨d7, f7⟩ := cell_of1 (kept_of hBz i7)
        obtain ⟨d8, f8⟩ := cell_of1 (kept_of hBz i8)
        obtain ⟨d9, f9⟩ := cell_of1 (kept_of hBz i9)
        obtain ⟨d2, f2⟩ := cell_of1 y2
        have hsc := HSC.out
        have hner : er ≠ 0 := HNEQ.out
        have HJ := Lib.hid hjl
        unfold scanE at hsc
        rw [HP.out, HRD.out] at hsc
        by_cases h1 : P < bs.length
        · have h1i : (P : Int) < (bs.length : Int) := by omega
          rw [if_pos h1i] at hsc
          have e1 : sc.1 = er := by rw [hsc]
          have e2 : sc.2 = P := by rw [hsc]
          have e3 : (er != 0) = true := by simpa using hner
          clear hsc hner
          rw [e1] at d4
          gi_wp2_with (refine ⟨trivial, ?_⟩; gi_at_call 17; refine (callsIn_wide.2 (awake6 _)).mono ?_; rintro e w9 ⟨rfl, hb9⟩; obtain ⟨d2, f2⟩ := cell_of1 (kept_of hb9 y2))
          have hBe := hBz.trans (hb9.mono hBz.size)
          have hKD := kept_of hBe hK
          have hK' := (KeepsOthers.setCell w9 ⟨w.heap.size + 1, 0, none⟩ (.bool true)).same D _ hKD rfl
          have hv2 := blk_stays (B := W0.heap.size) (heap_set1 (kept_of hb9 y2) (.bool true)) (grownBy_putObj' _ D (.deferred none)) (fun r e => by cases e; exact ⟨hD, _, hK', rfl⟩)
          refine ⟨by simp, .inl ⟨_, _, rfl, run_takeDeferred hK', ?_⟩⟩
          refine ⟨_, agr_end rfl hv2, rfl, bel_stays (B := W0.heap.size) ((iB.trans (hBe.mono iB.size)).setCell (p := ⟨w.heap.size + 1, 0, none⟩) (by dsimp only; omega) _) hwW (grownBy_putObj' _ D (.deferred none)) (fun r e => by cases e; exact ⟨hD, _, hK', rfl⟩)⟩
        · have h1i : ¬ (P : Int) < (bs.length : Int) := by omega
          rw [if_neg h1i] at hsc
          by_cases h2 : xs = []
          · subst h2
            rw [if_pos (show ([] : List El).map Prod.fst = [] from rfl)] at hsc
            have e1 : sc.1 = 62 := by rw [hsc]
            have e2 : sc.2 = 0 := by rw [hsc]
            have hP0 : P = 0 := by have : (0 : Int) = P := HP.out; omega
            have hr1 : er = 1 := by
              have h := HRD.out
              unfold readE at h
              rw [if_pos (.inr (by omega))] at h
              exact (congrArg Prod.fst h).symm
            subst hr1
            clear hsc hner
            rw [e1] at d4
            gi_wp2_with (refine ⟨trivial, ?_⟩; gi_at_call 17; refine (callsIn_wide.2 (awake6 _)).mono ?_; rintro e w9 ⟨rfl, hb9⟩; obtain ⟨d2, f2⟩ := cell_of1 (kept_of hb9 y2))
            have hBe := hBz.trans (hb9.mono hBz.size)
            have hKD := kept_of hBe hK
            have hK' := (KeepsOthers.setCell w9 ⟨w.heap.size + 1, 0, none⟩ (.bool true)).same D _ hKD rfl
            have hv2 := blk_stays (B := W0.heap.size) (heap_set1 (kept_of hb9 y2) (.bool true)) (grownBy_putObj' _ D (.deferred none)) (fun r e => by cases e; exact ⟨hD, _, hK', rfl⟩)
            refine ⟨by simp, .inl ⟨_, _, rfl, run_takeDeferred hK', ?_⟩⟩
            refine ⟨_, agr_end rfl hv2, rfl, bel_stays (B := W0.heap.size) ((iB.trans (hBe.mono iB.size)).setCell (p := ⟨w.heap.size + 1, 0, none⟩) (by dsimp only; omega) _) hwW (grownBy_putObj' _ D (.deferred none)) (fun r e => by cases e; exact ⟨hD, _, hK', rfl⟩)⟩
          · have hx1 : ((xs.length : Int) == 0) = false := by
              rw [beq_eq_false_iff_ne]
              intro h
              exact h2 (List.eq_nil_of_length_eq_zero (by omega))
            have hx2 : ¬ (xs.length : Int) = 0 := fun h => h2 (List.eq_nil_of_length_eq_zero (by omega))
            rw [if_neg (by simpa using h2)] at hsc
            cases hends : (opR (((xs.map Prod.fst).getLast?.map Ins.code).getD 0)).ends with
            | false =>
              rw [if_pos hends] at hsc
              have e1 : sc.1 = 62 := by rw [hsc]
              have e2 : sc.2 = lastOf6 (xs.map Prod.fst) := by rw [hsc]
              clear hsc hner hends h2
              rw [e1] at d4
              gi_wp2_with (refine ⟨trivial, ?_⟩; gi_at_call 17; refine (callsIn_wide.2 (awake6 _)).mono ?_; rintro e w9 ⟨rfl, hb9⟩; obtain ⟨d2, f2⟩ := cell_of1 (kept_of hb9 y2))
              have hBe := hBz.trans (hb9.mono hBz.size)
              have hKD := kept_of hBe hK
              have hK' := (KeepsOthers.setCell w9 ⟨w.heap.size + 1, 0, none⟩ (.bool true)).same D _ hKD rfl
              have hv2 := blk_stays (B := W0.heap.size) (heap_set1 (kept_of hb9 y2) (.bool true)) (grownBy_putObj' _ D (.deferred none)) (fun r e => by cases e; exact ⟨hD, _, hK', rfl⟩)
              refine ⟨by simp, .inl ⟨_, _, rfl, run_takeDeferred hK', ?_⟩⟩
              refine ⟨_, agr_end rfl hv2, rfl, bel_stays (B := W0.heap.size) ((iB.trans (hBe.mono iB.size)).setCell (p := ⟨w.heap.size + 1, 0, none⟩) (by dsimp only; omega) _) hwW (grownBy_putObj' _ D (.deferred none)) (fun r e => by cases e; exact ⟨hD, _, hK', rfl⟩)⟩
            | true =>
              rw [if_neg (by rw [hends]; simp)] at hsc
              have e1 : sc.1 = 0 := by rw [hsc]
              have hyx : ys.length = xs.length := by
                rcases HYS.out with ⟨_, h⟩ | ⟨h, _⟩
                · rw [h]
                · exact absurd e1 h
              clear hsc hner hends h2
              rw [e1] at d4
              rw [hyx] at d3
              gi_wp2_with (refine ⟨trivial, ?_⟩; gi_at_call 17; refine (callsIn_wide.2 (awake6 _)).mono ?_; rintro e w9 ⟨rfl, hb9⟩; obtain ⟨d2, f2⟩ := cell_of1 (kept_of hb9 y2))
              have hBe := hBz.trans (hb9.mono hBz.size)
              have hKD := kept_of hBe hK
              have hK' := (KeepsOthers.setCell w9 ⟨w.heap.size + 1, 0, none⟩ (.bool true)).same D _ hKD rfl
              have hv2 := blk_stays (B := W0.heap.size) (heap_set1 (kept_of hb9 y2) (.bool true)) (grownBy_putObj' _ D (.deferred none)) (fun r e => by cases e; exact ⟨hD, _, hK', rfl⟩)
              refine ⟨by simp, .inl ⟨_, _, rfl, run_takeDeferred hK', ?_⟩⟩
              refine ⟨_, agr_end rfl hv2, rfl, bel_stays (B := W0.heap.size) ((iB.trans (hBe.mono iB.size)).setCell (p := ⟨w.heap.size + 1, 0, none⟩) (by dsimp only; omega) _) hwW (grownBy_putObj' _ D (.deferred none)) (fun r e => by cases e; exact ⟨hD, _, hK', rfl⟩)⟩
  case stop =>
    rintro D c pre W hD hpre hn hK
    exact hn.elim
end Go.Proofs.YthjnjdpiihpgeaaDoor
