/- vouchlaw6.CodeWithin: the walk. -/
import Derived.Test.YthjnjdpiihpgeaaDoorRangeN
import Derived.Test.YthjnjdpiihpgeaaDoorAgrees6
import Derived.Test.YthjnjdpiihpgeaaDoorRound
import Derived.Test.YthjnjdpiihpgeaaDoorSame6
import Derived.Test.YthjnjdpiihpgeaaDoorOwnSet
import Derived.Test.YthjnjdpiihpgeaaDoorCount
import Derived.Test.YthjnjdpiihpgeaaDoorCut6
import Derived.Deep.DeepCutAuto
import Derived.LoopIn
import Derived.Sort.LoopGhostIn
import Derived.Sort.CutIn
import Derived.Laws.EntriesVeiled
namespace Go.Proofs.YthjnjdpiihpgeaaDoor
open Go.RowKit Vouch Go.Vk Go.Sort
attribute [local go_sem] Oper.semAt_some
/-- What the first range leaves: the list that it made. -/
def WantInv (bs : List Int) (w W0 : World) (b : Nat) (pre : List El) (W : World) : Prop :=
  ∃ vl, OneInv w W0 b 24 vl W ∧ W.ownsRow W0.heap.size 34 4 vl pre.length (insCells pre) ∧ RowsAt W0.heap.size pre W ∧ ∃ p, Reads bs (pre.map Prod.fst) p
theorem want_kept {bs : List Int} {w W0 : World} {b : Nat} (hw : w.heap.size ≤ W0.heap.size) : OwnFrom W0.heap.size (WantInv bs w W0 b) := by
  intro pre W W' row ⟨vl, h1, h2, h3, h4⟩ hg hr
  exact ⟨vl, one_kept hw h1 hg hr, own_stays h2 hg hr, fun x hx => own_stays (h3 x hx) hg hr, h4⟩
theorem held_one {bs : List Int} {w W0 W : World} {b t B g : Nat} {v : Value} (h : OneInv w W0 b t v W) (hb : b < B) (hh : HeldAt bs B g W0) : HeldAt bs B g W := by
  obtain ⟨k, h1, h2, h3, h4⟩ := hh
  exact ⟨k, h1, h2, (h.2.2.1 g (Array.getElem?_eq_some_iff.1 h3).1 (by omega)).trans h3, (h.2.2.1 k (Array.getElem?_eq_some_iff.1 h4).1 (by omega)).trans h4⟩
theorem held_keep {bs : List Int} {w W0 W : World} {b B g : Nat} {v : Value} (h : OneInv w W0 b 3 v W) (hh : HeldAt bs B g W0) (hc : W0.heap[b]? = some (.cells #[.int .i64 0] 3 (0, 0))) : HeldAt bs B g W := by
  obtain ⟨k, h1, h2, h3, h4⟩ := hh
  refine ⟨k, h1, h2, (h.2.2.1 g (Array.getElem?_eq_some_iff.1 h3).1 ?_).trans h3, (h.2.2.1 k (Array.getElem?_eq_some_iff.1 h4).1 ?_).trans h4⟩
  · rintro rfl
    rw [hc] at h3
    cases h3
  · rintro rfl
    rw [hc] at h4
    simp at h4
theorem want_at {bs : List Int} {xs pre : List El} {p : Int} {i : Ins} (hall : AllOf bs xs) (h1 : Reads bs (pre.map Prod.fst) p) (h2 : readE bs p = (0, i)) : pre.length < xs.length ∧ ∃ yv, xs[pre.length]? = some (i, yv) := by
  have hrd2 : Reads bs (pre.map Prod.fst ++ [i]) i.next := .snoc h1 h2
  obtain ⟨hin1, hin2⟩ := reads_in hrd2 hall
  have hlt2 : pre.length < xs.length := by rw [List.length_append, List.length_map, List.length_singleton] at hin1; omega
  refine ⟨hlt2, ?_⟩
  have e : (xs.map Prod.fst)[pre.length]? = some i := by
    rw [List.length_append, List.length_map] at hin2
    have := congrArg (fun l => l[pre.length]?) hin2
    rw [List.getElem?_append_right (by simp), List.length_map, Nat.sub_self] at this
    rw [List.getElem?_take, if_pos (by simp)] at this
    exact this.symm
  rw [List.getElem?_map] at e
  cases hq : xs[pre.length]? with
  | none => rw [hq] at e; cases e
  | some y => rw [hq] at e; exact ⟨y.2, by rw [← Option.some.inj e]⟩
/-- The defers that the rounds have laid. -/
def DefsOK (V : World) (D rn : Nat) (ds : List Deferred) (W : World) : Prop :=
  (rn = 0 ∧ ds = [{ target := .collected D, args := #[] }] ∧ W.heap[D]? = some (.deferred (some []))) ∨
  (rn = 1 ∧ ∃ D1, V.heap.size ≤ D1 ∧ ds = [{ target := .collected D1, args := #[] }, { target := .collected D, args := #[] }] ∧ W.heap[D]? = some (.deferred (some [])) ∧ W.heap[D1]? = some (.deferred (some []))) ∨
  (rn = 2 ∧ ∃ D1 D2, V.heap.size ≤ D1 ∧ D1 < D2 ∧ ds = [{ target := .collected D2, args := #[] }, { target := .collected D1, args := #[] }, { target := .collected D, args := #[] }] ∧ W.heap[D]? = some (.deferred (some [])) ∧ W.heap[D1]? = some (.deferred (some [])) ∧ W.heap[D2]? = some (.deferred (some [])))
theorem kept_of2 {W w1 : World} {k : Nat} {o : Obj} (hb : Below W.heap.size W w1) (h : W.heap[k]? = some o) : w1.heap[k]? = some o := (hb.block k (Array.getElem?_eq_some_iff.1 h).1).trans h
theorem defs_step {V W W' : World} {D rn D' : Nat} {ds : List Deferred} (h : DefsOK V D rn ds W) (hrn : rn < 2) (hV : V.heap.size ≤ W.heap.size) (_hDV : D < V.heap.size) (h1 : ∀ k, k < W.heap.size → ∀ o, W.heap[k]? = some o → o.isCells = false → W'.heap[k]? = some o) (h3 : W.heap.size ≤ D') (h4 : W'.heap[D']? = some (.deferred (some []))) :
    DefsOK V D (rn + 1) ({ target := .collected D', args := #[] } :: ds) W' := by
  have hup : ∀ k, W.heap[k]? = some (Obj.deferred (some [])) → W'.heap[k]? = some (Obj.deferred (some [])) := fun k hk => h1 k (Array.getElem?_eq_some_iff.1 hk).1 _ hk rfl
  rcases h with ⟨rfl, rfl, a⟩ | ⟨rfl, D1, h5, rfl, a, b⟩ | ⟨rfl, _⟩
  · exact .inr (.inl ⟨rfl, D', by omega, rfl, hup _ a, h4⟩)
  · exact .inr (.inr ⟨rfl, D1, D', h5, by have := (Array.getElem?_eq_some_iff.1 b).1; omega, rfl, hup _ a, hup _ b, h4⟩)
  · omega
theorem own_cells {W : World} {B e size n b : Nat} {v : Value} {xs : List Value} (h : W.ownsRow B e size v n xs) (hb : v.ownBlock = some b) : ∃ cs t, W.heap[b]? = some (.cells cs t (0, 0)) := by
  rcases h.2 with ⟨rfl, _⟩ | ⟨g, cap, cur, rfl, _, hh, _⟩
  · cases hb
  · cases hb
    exact ⟨_, _, hh⟩
theorem all_len {bs : List Int} {xs ys : List El} (h : AllOf bs xs) (h' : AllOf bs ys) : ys.length = xs.length := by
  obtain ⟨p, h1, h2⟩ := h
  obtain ⟨q, g1, g2⟩ := h'
  have := congrArg List.length (reads_all h1 h2 g1 g2).1
  simpa using this
theorem turn_fin {wv V1 wr W : World} {bn r n m t : Nat} {o : Obj} (hm : m = n + 1) (h1 : OneInv wv V1 bn t (.int .i64 n) wr) (hbw : wv.heap.size ≤ bn) (hb : bn < V1.heap.size) (hr : V1.heap.size ≤ r) (h2 : wr.heap[r]? = some o) (h3 : KeepsFrom V1.heap.size W wr) :
    KeepsFrom V1.heap.size W (wr.setCell ⟨bn, 0, none⟩ (.int .i64 ((n : Int) + 1))) ∧ OneInv wv V1 bn t (.int .i64 (m : Int)) (wr.setCell ⟨bn, 0, none⟩ (.int .i64 ((n : Int) + 1))) ∧ (wr.setCell ⟨bn, 0, none⟩ (.int .i64 ((n : Int) + 1))).heap[r]? = some o := by
  subst hm
  refine ⟨h3.trans ((KeepsOthers.setCell _ _ _).from _), ?_, heap_setOther h2 (by dsimp only; omega) _⟩
  have := one_set hbw hb h1 (Below.refl _ _) (.int .i64 ((n : Int) + 1))
  simpa using this
theorem within_end {W : World} {g : Nat} {b : Bool} {tmps : Array Value} (h2 : tmps.getD 4 undef = .pointer (some ⟨g, 0, none⟩)) (hA : W.heap[g]? = some (.cells #[.bool b] 4 (0, 0))) :
    (results Tryd.f4 tmps).run Tryd.prog W = .ok (.bool b) W := by
  have hc : W.cell? ⟨g, 0, none⟩ = some (.bool b) := by simp [World.cell?, hA]
  have h2' : tmps[4]?.getD undef = .pointer (some ⟨g, 0, none⟩) := by simpa using h2
  simp [results, h2', asAddr, loadVar, go_sem, hc]
set_option maxHeartbeats 2000000 in
set_option maxRecDepth 100000 in
theorem within_walk (A : Option Addr) (capA : Nat) (za : List Int) (stop : Int) (w : World) (hca : IntsAt w .u8 A za) (hza : ∀ n ∈ za, (Lit.int .u8 n).wf = true) (hcap0 : za.length ≤ capA) (hnil : A = none → capA = 0) (_hst : (Lit.int .i64 stop).wf = true) :
    Calls Tryd.prog 4 #[.slice A za.length capA, .int .i64 stop] w fun e w' => e = .returned (.bool true) ∧ Below w.heap.size w w' := by
  obtain ⟨i0, hi, hz0, hz1, hz2⟩ := info_parts infoIns
  have hz' : ∀ z ∈ za.take 70000, 0 ≤ z ∧ z < 256 := fun z hz2 => byte_wf (hza z (List.mem_of_mem_take hz2))
  have hbl : (za.take 70000).length ≤ 70000 := by rw [List.length_take]; omega
  have hB0 : Below w.heap.size w ((w.alloc (.cells #[.int .i64 stop] 3)).alloc (.cells #[.bool false] 4)) := ((Below.refl _ _).alloc (Nat.le_refl _) _).alloc (by simp) _
  have HCUT := Lib.hid (cut_any za A capA _ (ints_below hB0 hca) hcap0 hnil)
  have hg0 : ((w.alloc (.cells #[.int .i64 stop] 3)).alloc (.cells #[.bool false] 4)).heap[w.heap.size]? = some (.cells #[.int .i64 stop] 3 (0, 0)) := heap_alloc_before (heap_alloc_at _ _ _ rfl) _
  have hg1 : ((w.alloc (.cells #[.int .i64 stop] 3)).alloc (.cells #[.bool false] 4)).heap[w.heap.size + 1]? = some (.cells #[.bool false] 4 (0, 0)) := heap_alloc_at _ _ _ (by simp)
  have hsz : ((w.alloc (.cells #[.int .i64 stop] 3)).alloc (.cells #[.bool false] 4)).heap.size = w.heap.size + 1 + 1 := by simp
  clear hca hza
  generalize za.take 70000 = bs at hz' hbl HCUT
  have HZ := Lib.hid hz'
  clear hz'
  refine (callsIn_wide (n := 8)).1 ?_
  refine callsIn_of_wp_marks Tryd.func4 rfl trivial ?_ rfl
  simp only [Tryd.ntmps4, List.size_toArray, List.length_cons, List.length_nil, Nat.reduceAdd, Nat.reduceSub, Array.replicate_succ, Array.replicate_zero, List.push_toArray, List.append_toArray, List.nil_append, List.cons_append]
  gi_wp2_with (refine ⟨trivial, ?_⟩; gi_at_call 15; refine stop_o ?_)
  unfold StopO
  refine (callsIn_wide.2 HCUT.out).mono ?_
  rintro e w1 ⟨v, rfl, hb, hb1⟩
  obtain ⟨Xb, cb, rfl⟩ := owns_shape hb
  rw [hsz] at hb
  have k0 := kept_of hb1 hg0
  have k1 := kept_of hb1 hg1
  have hB1 := hB0.trans (hb1.mono hB0.size)
  have hcb := owned_cap hb
  obtain ⟨b2, hb2⟩ : ∃ b2, b2 = w1.heap.size := ⟨_, rfl⟩
  have n0 := heap_alloc_before k0 (.cells #[.slice none 0 0] 24)
  have n1 := heap_alloc_before k1 (.cells #[.slice none 0 0] 24)
  have n2 := heap_alloc_at w1 (.cells #[.slice none 0 0] 24) b2 hb2
  have nb := hb.alloc (.cells #[.slice none 0 0] 24)
  have nB := hB1.alloc hB1.size (.cells #[.slice none 0 0] 24)
  have hsz2 : (w1.alloc (.cells #[.slice none 0 0] 24)).heap.size = b2 + 1 := by simp [hb2]
  have hN2 : w.heap.size + 1 < b2 := by have := (Array.getElem?_eq_some_iff.1 k1).1; omega
  have hX2 := owned_lt hb
  rw [← hb2] at hX2
  gi_wp2_with (refine ⟨trivial, ?_⟩; gi_at_call 19; refine stop_o ?_)
  unfold StopO
  rw [← hb2]
  generalize w1.alloc (.cells #[.slice none 0 0] 24) = W1 at n0 n1 n2 nb nB hsz2 ⊢
  clear hb hb1 k0 k1 hB1 hb2 hg0 hg1 hB0 hsz HCUT
  refine (callsIn_wide.2 (codeall_any bs Xb cb W1 (owned_ints nb) (by omega))).mono ?_
  rintro e w2 ⟨g1, rfl, hheld1, hbb⟩
  rw [hsz2] at hheld1
  have o0 := kept_of hbb n0
  have o1 := kept_of hbb n1
  have o2 := kept_of hbb n2
  have ob := own_below nb hbb
  have oB := nB.trans (hbb.mono nB.size)
  have oS : b2 + 1 ≤ w2.heap.size := by have := hbb.size; omega
  clear n0 n1 n2 nb nB hbb hsz2
  gi_wp2_with (refine ⟨trivial, ?_⟩; gi_at_call 19; refine stop_o ?_)
  unfold StopO
  refine (callsIn_wide.2 (codeall_any bs Xb cb w2 (owned_ints ob) (by omega))).mono ?_
  rintro e w3 ⟨g2, rfl, hheld2, hbb⟩
  have hheld3 : HeldAt bs (b2 + 1) g1 w3 := by
    obtain ⟨h, q1, q2, q3, q4⟩ := hheld1
    exact ⟨h, q1, q2, kept_of hbb q3, kept_of hbb q4⟩
  obtain ⟨b3, hb3⟩ : ∃ b3, b3 = w3.heap.size := ⟨_, rfl⟩
  have p0 := heap_alloc_before (kept_of hbb o0) (.cells #[.func (.func 40) #[] #[.pointer (some ⟨g2, 0, none⟩)]] 37)
  have p1 := heap_alloc_before (kept_of hbb o1) (.cells #[.func (.func 40) #[] #[.pointer (some ⟨g2, 0, none⟩)]] 37)
  have p2 := heap_alloc_before (kept_of hbb o2) (.cells #[.func (.func 40) #[] #[.pointer (some ⟨g2, 0, none⟩)]] 37)
  have p3 := heap_alloc_at w3 (.cells #[.func (.func 40) #[] #[.pointer (some ⟨g2, 0, none⟩)]] 37) b3 hb3
  have pb := (own_below ob hbb).alloc (.cells #[.func (.func 40) #[] #[.pointer (some ⟨g2, 0, none⟩)]] 37)
  have ph1 : HeldAt bs (b2 + 1) g1 (w3.alloc (.cells #[.func (.func 40) #[] #[.pointer (some ⟨g2, 0, none⟩)]] 37)) := by
    obtain ⟨h, q1, q2, q3, q4⟩ := hheld3
    exact ⟨h, q1, q2, heap_alloc_before q3 _, heap_alloc_before q4 _⟩
  have ph2 : HeldAt bs w2.heap.size g2 (w3.alloc (.cells #[.func (.func 40) #[] #[.pointer (some ⟨g2, 0, none⟩)]] 37)) := by
    obtain ⟨h, q1, q2, q3, q4⟩ := hheld2
    exact ⟨h, q1, q2, heap_alloc_before q3 _, heap_alloc_before q4 _⟩
  have hB3 := oB.trans (hbb.mono oB.size)
  have pB := hB3.alloc hB3.size (.cells #[.func (.func 40) #[] #[.pointer (some ⟨g2, 0, none⟩)]] 37)
  have hN3 : b2 + 1 ≤ b3 := by have := hbb.size; omega
  have hsz3 : (w3.alloc (.cells #[.func (.func 40) #[] #[.pointer (some ⟨g2, 0, none⟩)]] 37)).heap.size = b3 + 1 := by simp [hb3]
  have HB3 := Lib.hid hb3
  clear hb3
  obtain ⟨q3, f3⟩ := cell_of1 p3
  gi_upto_region 5 with fail
  rw [← HB3.out]
  generalize w3.alloc (.cells #[.func (.func 40) #[] #[.pointer (some ⟨g2, 0, none⟩)]] 37) = W0 at p0 p1 p2 p3 pb ph1 ph2 pB hsz3 q3 f3 ⊢
  clear o0 o1 o2 ob oB hbb hB3 hheld1 hheld2 hheld3 HB3
  have hwW : w.heap.size ≤ W0.heap.size := pB.size
  have hrun1 : Sem.run Tryd.prog (binOp BinOp.eql 37 (.func (.func 40) #[] #[.pointer (some ⟨g1, 0, none⟩)]) .nilFunc) W0 = .ok (.bool false) W0 := by kernel_rfl
  have hrun2 : Sem.run Tryd.prog (binOp BinOp.eql 37 (.func (.func 40) #[] #[.pointer (some ⟨g2, 0, none⟩)]) .nilFunc) W0 = .ok (.bool false) W0 := by kernel_rfl
  have hb20 : b2 < W0.heap.size := by omega
  have hb30 : b3 < W0.heap.size := by omega
  clear hsz3
  gi_wp2
  clear hrun1 hrun2
  refine wpIn_rangeF rfl (by omega) (gf := 40) (lb := #[.pointer (some ⟨g1, 0, none⟩)]) rfl trivial (enters_of Tryd.func40 (by kernel_rfl) rfl) (all1_seq bs HZ.out (by omega) g1 (b2 + 1) 4 W0) (Below.refl _ _) (fun _ => rfl)
    (WantInv bs w W0 b2) (fun _ _ _ => False) (want_kept hwW) (fun _ _ _ _ _ h _ _ => h)
    ⟨_, ⟨pB, Nat.le_refl _, fun _ _ _ => rfl, p2⟩, World.ownsRow_nil _ _ _ _, fun x hx => (by cases hx), ⟨0, .nil⟩⟩
    (fun pre W h => held_one h.choose_spec.1 (by omega) ph1)
    (fun pre x r a' W => ∃ Bx X c, W0.heap.size ≤ Bx ∧ W0.heap.size ≤ r ∧ Bx ≠ r ∧ x.2 = .slice X x.1.imm.length c ∧ W.heap[Bx]? = some (.cells #[.int .i64 x.1.at_, .int .i64 x.1.code, .slice X x.1.imm.length c, .int .i64 x.1.next] 34 (0, 0)) ∧
      W.ownsRow W0.heap.size 5 1 (.slice X x.1.imm.length c) x.1.imm.length (byteVs x.1.imm) ∧ (∃ vl, W.heap[b2]? = some (.cells #[vl] 24 (0, 0)) ∧ ∀ b, vl.ownBlock = some b → b < r ∧ b < Bx) ∧
      (∃ p, Reads bs (pre.map Prod.fst) p ∧ readE bs p = (0, x.1)) ∧ (∀ q ∈ pre, ∀ a b, q.2.ownBlock = some a → x.2.ownBlock = some b → a < b) ∧
      a' = { tmps := #[.slice Xb bs.length cb, .int .i64 stop, undef, .pointer (some ⟨w.heap.size, 0, none⟩), .pointer (some ⟨w.heap.size + 1, 0, none⟩), .pointer (some ⟨b2, 0, none⟩), .func (.func 40) #[] #[.pointer (some ⟨g1, 0, none⟩)], .pointer (some ⟨b3, 0, none⟩), .pointer (some ⟨Bx, 0, none⟩), undef, undef, undef, undef, undef, undef, undef, .slice A za.length capA, .slice Xb bs.length cb, .slice Xb bs.length cb, .func (.func 40) #[] #[.pointer (some ⟨g1, 0, none⟩)], .slice Xb bs.length cb, .func (.func 40) #[] #[.pointer (some ⟨g2, 0, none⟩)], .func (.func 40) #[] #[.pointer (some ⟨g1, 0, none⟩)], .bool false, .bool false, .func (.func 40) #[] #[.pointer (some ⟨g2, 0, none⟩)], .bool false, .bool false, .func (.func 40) #[] #[.pointer (some ⟨g1, 0, none⟩)], insV x.1 (.slice X x.1.imm.length c), undef, undef, undef, undef, undef, undef, undef, undef, undef, undef, undef, undef, undef, undef, undef, undef, undef, undef, undef, undef, undef, undef, undef, undef, undef, undef, undef, undef, undef, undef, undef, undef, undef, undef, undef, undef, undef, undef, undef, undef, undef, undef, undef, undef, undef, undef, undef, undef, undef, undef, undef, undef, undef, undef, undef, undef, undef, undef, undef, undef, undef, undef, undef, undef, undef, undef, undef, undef, undef, undef, undef, undef, undef, undef, undef, undef, undef, undef, undef, undef, undef, undef, undef, undef, undef, undef, undef, undef, undef, undef, undef, undef], defers := [] })
    (fun pre x r a' _ W W' row hs hg hr => by
      obtain ⟨Bx, X, c, h1, h2, h3, h4, h5, h6, ⟨vl, h7, h8⟩, h9⟩ := hs
      exact ⟨Bx, X, c, h1, h2, h3, h4, blk_stays h5 hg hr, own_stays h6 hg hr, ⟨vl, blk_stays h7 hg hr, h8⟩, h9⟩) ?assign ?body ?done ?stop
  case assign =>
    rintro l pre ⟨i, v⟩ W o K hi ⟨hr, hown, hris⟩ ho hK
    change W.ownsRow W0.heap.size 5 1 v i.imm.length (byteVs i.imm) at hown
    obtain ⟨X, c, rfl⟩ := owns_shape hown
    unfold elV insV
    gi_wp2
    have hsz2 : ((W.alloc o).alloc (.cells #[.int .i64 i.at_, .int .i64 i.code, .slice X i.imm.length c, .int .i64 i.next] 34)).heap[W.heap.size]? = some o := (Below.heap_alloc _ _ _ (by simp)).trans (heap_alloc_new _ _)
    have hg2 : W.grownBy ((W.alloc o).alloc (.cells #[.int .i64 i.at_, .int .i64 i.code, .slice X i.imm.length c, .int .i64 i.next] 34)) none := grownBy_below (((Below.refl _ W).alloc (Nat.le_refl _) _).alloc (by simp) _)
    have hi2 := want_kept hwW pre _ _ none hi hg2 (fun r e => by cases e)
    have ho2 := own_stays (B := 0) hown hg2 (fun r e => by cases e)
    obtain ⟨vl, hone, e1, _⟩ := hi
    have hWs := hone.2.1
    refine hK _ _ ((KeepsOthers.alloc _ _).from _) hi2 ⟨W.heap.size + 1, X, c, by omega, hWs, by omega, rfl, heap_alloc_at _ _ _ (by simp), ho2, ⟨vl, blk_stays (B := 0) hone.2.2.2 hg2 (fun r e => by cases e), fun b hb' => by have := (e1.lt b hb').2; omega⟩, hr, hris, ?_⟩ hsz2
    rfl
  case body =>
    rintro l pre ⟨i, v⟩ r o a' W hl hlr ⟨vl, hone, e1, e6, eR⟩ ⟨Bx, X, c, hBx, hr, hne, hv, hx, hown, ⟨vl', e9, hvl⟩, hrd, hris, rfl⟩ hro ho
    dsimp only at hv hx hown hrd hris
    subst hv
    rw [hone.2.2.2] at e9
    cases e9
    obtain ⟨p, hp1, hp2⟩ := hrd
    have hpl : pre.length ≤ bs.length := by have := reads_length hp1; simpa using this
    obtain ⟨Y, cv, rfl⟩ := owns_shape e1
    obtain ⟨k0, k1, k2, k3, kz, kl⟩ := cells4 hx
    obtain ⟨c0, f0⟩ := cell_of1 hone.2.2.2
    unfold insV
    gi_wp2_with (gi_at_builtin; refine wpListIn_append_own _ rfl _ _ 24 rfl W0.heap.size 34 i0 (.agg #[.int .i64 0, .int .i64 0, .slice none 0 0, .int .i64 0]) 4 48 Tryd.underlying24 hi hz0 hz1 hz2 rfl (by decide) _ _ _ rfl (e1.alloc _) ⟨W.heap.size, 0, none⟩ 1 1 [.int .i64 i.at_, .int .i64 i.code, .slice X i.imm.length c, .int .i64 i.next] rfl rfl ?c1 ?c2 ?c3 ?c4 ?c5 ?_)
    case c1 => exact cells_fresh W #[.int .i64 i.at_, .int .i64 i.code, .slice X i.imm.length c, .int .i64 i.next] _ _ rfl
    case c2 => intro u hu; simp at hu; rcases hu with rfl | rfl | rfl | rfl <;> rfl
    case c3 => unfold maxLen; omega
    case c4 => omega
    case c5 => have := hone.2.1; simp; omega
    intro v' w2' hown2 hgrow _
    obtain ⟨Y', cv', rfl⟩ := owns_shape hown2
    have e1' : (W.alloc (.cells #[.int .i64 i.at_, .int .i64 i.code, .slice X i.imm.length c, .int .i64 i.next] 34)).ownsRow W0.heap.size 34 4 (.slice Y pre.length cv) pre.length (insCells pre) := e1.alloc _
    have gA : W.grownBy (W.alloc (.cells #[.int .i64 i.at_, .int .i64 i.code, .slice X i.imm.length c, .int .i64 i.next] 34)) none := grownBy_below ((Below.refl _ _).alloc (Nat.le_refl _) _)
    have kA : ∀ {b t : Nat} {cs : Array Value}, W.heap[b]? = some (.cells cs t (0, 0)) → (∀ q, (Value.slice Y pre.length cv).ownBlock = some q → b ≠ q) → w2'.heap[b]? = some (.cells cs t (0, 0)) := fun h hne => blk_own (blk_stays (B := 0) h gA (fun r e => by cases e)) e1' hne hgrow
    have lo : ∀ q, (Value.slice Y pre.length cv).ownBlock = some q → W0.heap.size ≤ q := fun q hq => (e1.lt q hq).1
    have d0 := kA hone.2.2.2 (fun q hq => by have := lo q hq; omega)
    have dB := bel_own (hone.1.alloc hone.1.size (.cells #[.int .i64 i.at_, .int .i64 i.code, .slice X i.imm.length c, .int .i64 i.next] 34)) e1' hwW hgrow
    have dR : ∀ y : El, W.ownsRow W0.heap.size 5 1 y.2 y.1.imm.length (byteVs y.1.imm) → w2'.ownsRow W0.heap.size 5 1 y.2 y.1.imm.length (byteVs y.1.imm) := fun y hy => own_grow (hy.alloc _) e1' (by decide) hgrow
    have dr : w2'.heap[r]? = some o := by
      have hrl := (Array.getElem?_eq_some_iff.1 hro).1
      exact (hgrow.block r (by simp; omega) (fun e => by have := (hvl r e.symm).1; omega)).trans ((Below.heap_alloc _ _ _ hrl).trans hro)
    have dK : ∀ k, k < W0.heap.size → w2'.heap[k]? = W.heap[k]? := fun k hk => by
      have := hone.2.1
      exact (hgrow.block k (by simp; omega) (fun e => by have := lo k e.symm; omega)).trans (Below.heap_alloc _ _ _ (by omega))
    have dS : W.heap.size ≤ w2'.heap.size := by have := hgrow.size; simp at this; omega
    have fin : KeepsFrom W0.heap.size W (w2'.setCell ⟨b2, 0, none⟩ (.slice Y' (pre.length + 1) cv')) ∧ WantInv bs w W0 b2 (pre ++ [(i, .slice X i.imm.length c)]) (w2'.setCell ⟨b2, 0, none⟩ (.slice Y' (pre.length + 1) cv')) ∧ (w2'.setCell ⟨b2, 0, none⟩ (.slice Y' (pre.length + 1) cv')).heap[r]? = some o := by
      have hs2 := hone.2.1
      have ha1 : b2 < W0.heap.size := by omega
      refine ⟨(((KeepsOthers.alloc W _).from _).trans (keeps_own e1' hgrow)).trans ((KeepsOthers.setCell _ _ _).from _), ⟨.slice Y' (pre.length + 1) cv', ⟨dB.setCell (p := ⟨b2, 0, none⟩) (by dsimp only; omega) _, by simp; omega, fun k hk hkb => (Below.heap_setCell _ _ _ _ (by dsimp only; omega)).trans ((dK k hk).trans (hone.2.2.1 k hk hkb)), heap_set1 d0 _⟩, ?_, ?_, ⟨i.next, by rw [List.map_append]; exact .snoc hp1 hp2⟩⟩, heap_setOther dr (by dsimp only; omega) _⟩
      · rw [List.length_append, insCells_snoc]
        exact own_setOther hown2 (a := ⟨b2, 0, none⟩) ha1 _
      · intro y hy
        refine own_setOther (B := W0.heap.size) (a := ⟨b2, 0, none⟩) ?_ ha1 _
        rcases List.mem_append.1 hy with hy | hy
        · exact dR y (e6 y hy)
        · rw [List.mem_singleton.1 hy]
          exact dR _ hown
    obtain ⟨m0, g0⟩ := cell_of1 d0
    gi_wp2
    exact fin
  case stop =>
    rintro D c pre W hD hpre hn hK
    exact hn.elim
  case done =>
    rintro D xs W hD hall ⟨vw, hone, e1, e6, _⟩ hK
    obtain ⟨Y, cv, rfl⟩ := owns_shape e1
    have hxl : xs.length ≤ bs.length := by
      obtain ⟨p, h1, _⟩ := hall
      have := reads_length h1
      simpa using this
    have hone2 := hone.2.2.1
    have hs2 := hone.2.1
    have x0 := (hone2 w.heap.size (by omega) (by omega)).trans p0
    have x1 := (hone2 (w.heap.size + 1) (by omega) (by omega)).trans p1
    have x2 := hone.2.2.2
    have x3 := (hone2 b3 (by omega) (by omega)).trans p3
    have xb := one_own hone p2 pb (by decide)
    have xh := held_one hone (by omega) ph2
    have xB := hone.1
    have HALL := Lib.hid hall
    clear hall hone hone2 p0 p1 p2 p3 pb ph1 ph2 pB q3 f3
    gi_wp2
    gi_loopw [9] (fun vj wx => ∃ (j : Nat) (zs : List Value), vj = .int .i64 j ∧ j ≤ bs.length ∧ wx.ownsRow (w.heap.size + 1 + 1) 5 1 (.slice Xb bs.length cb) bs.length zs ∧ W.heap.size = wx.heap.size ∧ Below w.heap.size w wx ∧ ∀ k, (∀ q, (Value.slice Xb bs.length cb).ownBlock = some q → k ≠ q) → wx.heap[k]? = W.heap[k]?) (fun vj _ => bs.length - (intOf vj).toNat)
    case atStart => exact ⟨0, _, rfl, by omega, xb, rfl, xB, fun _ _ => rfl⟩
    case round =>
      obtain ⟨j, zs, rfl, hj, yb, yS, yB, yK⟩ := hrel
      by_cases hjl : j < bs.length
      · have hj1 : (j : Int) < (bs.length : Int) := by omega
        obtain ⟨gb, rfl⟩ := own_head yb (by omega)
        have hzl : zs.length = bs.length := by have := yb.1; simpa using this
        have hgb := own_lt yb
        have hyz : zs[j]? = some zs[j] := List.getElem?_eq_getElem (by omega)
        obtain ⟨d1, d2⟩ := own_cell yb hyz
        gi_wp2
        exact ⟨⟨j + 1, _, by go_num, by omega, own_set yb j _, by simpa using yS, yB.setCell (p := ⟨gb, j, none⟩) (by dsimp only; omega) _, fun k hk => (heap_setKeep _ (by exact hk gb rfl) _).trans (yK k hk)⟩, by simp [intOf]; omega⟩
      · have hj1 : ¬ (j : Int) < (bs.length : Int) := by omega
        have lo : ∀ q, (Value.slice Xb bs.length cb).ownBlock = some q → w.heap.size + 1 + 1 ≤ q ∧ q < b2 := fun q hq => ⟨(yb.lt q hq).1, hX2 q hq⟩
        have y0 := (yK w.heap.size (fun q hq => by have := lo q hq; omega)).trans x0
        have y1 := (yK (w.heap.size + 1) (fun q hq => by have := lo q hq; omega)).trans x1
        have y2 := (yK b2 (fun q hq => by have := lo q hq; omega)).trans x2
        have y3 := (yK b3 (fun q hq => by have := lo q hq; omega)).trans x3
        have yo := owns_same e1 (fun k hk _ => yK k (fun q hq => by have := lo q hq; omega))
        have yr : RowsAt W0.heap.size xs wr := fun x hx => owns_same (e6 x hx) (fun k hk _ => yK k (fun q hq => by have := lo q hq; omega))
        have yh : HeldAt bs w2.heap.size g2 wr := by
          obtain ⟨h, q1, q2, q3, q4⟩ := xh
          exact ⟨h, q1, q2, (yK _ (fun q hq => by have := lo q hq; omega)).trans q3, (yK _ (fun q hq => by have := lo q hq; omega)).trans q4⟩
        have yD := (yK D (fun q hq => by have := lo q hq; omega)).trans hK
        have hDl := (Array.getElem?_eq_some_iff.1 yD).1
        clear x0 x1 x2 x3 e1 e6 xb xh xB hK yK lo
        have hS : W0.heap.size ≤ wr.heap.size := by omega
        clear yS
        gi_wp2
        obtain ⟨wv, hwv⟩ : ∃ wv, wv = wr := ⟨_, rfl⟩
        subst hwv
        refine wpIn_loop_ghost_k (fun k a' w' => ∃ (rn br : Nat) (ds : List Deferred) (u11 u43 u44 u45 u46 u47 u107 u108 u109 u110 u111 u112 u113 u114 u115 u116 u117 u118 u119 u120 : Value), rn + k = 2 ∧ DefsOK wv D rn ds w' ∧ Below wv.heap.size wv w' ∧ wv.heap.size ≤ br ∧ w'.heap[br]? = some (.cells #[.int .i64 rn] 3 (0, 0)) ∧ a' = { tmps := #[.slice Xb bs.length cb, .int .i64 stop, undef, .pointer (some ⟨w.heap.size, 0, none⟩), .pointer (some ⟨w.heap.size + 1, 0, none⟩), .pointer (some ⟨b2, 0, none⟩), .func (.func 40) #[] #[.pointer (some ⟨g1, 0, none⟩)], .pointer (some ⟨b3, 0, none⟩), undef, .int .i64 (j : Int), .pointer (some ⟨br, 0, none⟩), u11, undef, undef, undef, undef, .slice A za.length capA, .slice Xb bs.length cb, .slice Xb bs.length cb, .func (.func 40) #[] #[.pointer (some ⟨g1, 0, none⟩)], .slice Xb bs.length cb, .func (.func 40) #[] #[.pointer (some ⟨g2, 0, none⟩)], .func (.func 40) #[] #[.pointer (some ⟨g1, 0, none⟩)], .bool false, .bool false, .func (.func 40) #[] #[.pointer (some ⟨g2, 0, none⟩)], .bool false, .bool false, .func (.func 40) #[] #[.pointer (some ⟨g1, 0, none⟩)], undef, undef, undef, undef, undef, .int .i64 (j : Int), .slice Xb bs.length cb, .int .i64 (bs.length : Int), .bool false, u38, u39, u40, u41, u42, u43, u44, u45, u46, u47, undef, undef, undef, undef, undef, undef, undef, undef, undef, undef, undef, undef, undef, undef, undef, undef, undef, undef, undef, undef, undef, undef, undef, undef, undef, undef, undef, undef, undef, undef, undef, undef, undef, undef, undef, undef, undef, undef, undef, undef, undef, undef, undef, undef, undef, undef, undef, undef, undef, undef, undef, undef, undef, undef, undef, undef, undef, undef, undef, u107, u108, u109, u110, u111, u112, u113, u114, u115, u116, u117, u118, u119, u120, undef], defers := ds }) 2 ?start ?round
        case start =>
          refine ⟨0, wv.heap.size, _, _, _, _, _, _, _, _, _, _, _, _, _, _, _, _, _, _, _, _, _, rfl, .inl ⟨rfl, rfl, heap_alloc_before yD _⟩, (Below.refl _ _).alloc (Nat.le_refl _) _, Nat.le_refl _, heap_alloc_at _ _ _ rfl, rfl⟩
        case round =>
          rintro k a' w' ⟨rn, br, ds, u11, u43, u44, u45, u46, u47, u107, u108, u109, u110, u111, u112, u113, u114, u115, u116, u117, u118, u119, u120, hk, hDs, vB, hbr, vr, rfl⟩ J K hJ hKK
          have hwr0 : w.heap.size + 1 + 1 ≤ wv.heap.size := by omega
          obtain ⟨r1, r2⟩ := cell_of1 vr
          have z0 := kept_of2 vB y0
          have z1 := kept_of2 vB y1
          have z2 := kept_of2 vB y2
          have z3 := kept_of2 vB y3
          by_cases h2 : rn < 2
          · have h2i : (rn : Int) < 2 := by omega
            have hvs := vB.size
            obtain ⟨bn, hbn⟩ : ∃ bn, bn = w'.heap.size := ⟨_, rfl⟩
            have s0 := heap_alloc_before z0 (.cells #[.int .i64 0] 3)
            have s1 := heap_alloc_before z1 (.cells #[.int .i64 0] 3)
            have s2 := heap_alloc_before z2 (.cells #[.int .i64 0] 3)
            have s3 := heap_alloc_before z3 (.cells #[.int .i64 0] 3)
            have sr := heap_alloc_before vr (.cells #[.int .i64 0] 3)
            have sn := heap_alloc_at w' (.cells #[.int .i64 0] 3) bn hbn
            have so := (own_below yo vB).alloc (.cells #[.int .i64 0] 3)
            have sR : RowsAt W0.heap.size xs (w'.alloc (.cells #[.int .i64 0] 3)) := fun x hx => (own_below (yr x hx) vB).alloc _
            have sh : HeldAt bs w2.heap.size g2 (w'.alloc (.cells #[.int .i64 0] 3)) := by
              obtain ⟨h, q1, q2, q3, q4⟩ := yh
              exact ⟨h, q1, q2, heap_alloc_before (kept_of2 vB q3) _, heap_alloc_before (kept_of2 vB q4) _⟩
            have sB := vB.alloc vB.size (.cells #[.int .i64 0] 3)
            have hsz : bn < (w'.alloc (.cells #[.int .i64 0] 3)).heap.size := by simp [hbn]
            have hbrl := (Array.getElem?_eq_some_iff.1 vr).1
            have hnr : br < bn := by omega
            have hnw : wv.heap.size ≤ bn := by omega
            obtain ⟨s3c, s3f⟩ := cell_of1 s3
            have HBN := Lib.hid hbn
            clear hbn
            gi_wp2
            rw [← HBN.out]
            have HDS : Hid (∀ W' D', (∀ k, k < w'.heap.size → (∀ o, w'.heap[k]? = some o → o.isCells = false → W'.heap[k]? = some o)) → w'.heap.size ≤ D' → W'.heap[D']? = some (.deferred (some [])) → DefsOK wv D (rn + 1) ({ target := .collected D', args := #[] } :: ds) W') := Lib.hid (fun W' D' h1 h3 h4 => defs_step hDs h2 hvs (by omega) h1 h3 h4)
            rw [← HBN.out] at HDS
            clear HBN
            have sV : Hid (∀ k o, w'.heap[k]? = some o → (w'.alloc (.cells #[.int .i64 0] 3)).heap[k]? = some o) := Lib.hid (fun k o h => heap_alloc_before h _)
            generalize w'.alloc (.cells #[.int .i64 0] 3) = V1 at sV s0 s1 s2 s3 sr sn so sR sh sB hsz s3c s3f ⊢
            have hwV : wv.heap.size ≤ V1.heap.size := sB.size
            refine wpIn_rangeF rfl (by omega) (gf := 40) (lb := #[.pointer (some ⟨g2, 0, none⟩)]) rfl trivial (enters_of Tryd.func40 (by kernel_rfl) rfl) (all1_seq bs HZ.out (by omega) g2 w2.heap.size 4 V1) (Below.refl _ _) (fun _ => rfl)
              (fun pre W => OneInv wv V1 bn 3 (.int .i64 pre.length) W) (fun e pre W => e = .exit 6 ∧ rn = 0 ∧ (pre.length : Int) = stop ∧ OneInv wv V1 bn 3 (.int .i64 pre.length) W) (fun s W W' row hs hg hr => one_kept hwV hs hg hr) (fun e s W W' row hs hg hr => ⟨hs.1, hs.2.1, hs.2.2.1, one_kept hwV hs.2.2.2 hg hr⟩)
              ⟨sB, Nat.le_refl _, fun _ _ _ => rfl, sn⟩
              (fun pre W h => held_keep h sh sn)
              (fun pre x r a' W => ∃ Bx X c, V1.heap.size ≤ Bx ∧ V1.heap.size ≤ r ∧ Bx ≠ r ∧ x.2 = .slice X x.1.imm.length c ∧ W.heap[Bx]? = some (.cells #[.int .i64 x.1.at_, .int .i64 x.1.code, .slice X x.1.imm.length c, .int .i64 x.1.next] 34 (0, 0)) ∧
                W.ownsRow V1.heap.size 5 1 (.slice X x.1.imm.length c) x.1.imm.length (byteVs x.1.imm) ∧ (∀ b, x.2.ownBlock = some b → b < r ∧ b < Bx) ∧
                (∃ p, Reads bs (pre.map Prod.fst) p ∧ readE bs p = (0, x.1)) ∧
                a' = { tmps := #[.slice Xb bs.length cb, .int .i64 stop, undef, .pointer (some ⟨w.heap.size, 0, none⟩), .pointer (some ⟨w.heap.size + 1, 0, none⟩), .pointer (some ⟨b2, 0, none⟩), .func (.func 40) #[] #[.pointer (some ⟨g1, 0, none⟩)], .pointer (some ⟨b3, 0, none⟩), undef, .int .i64 (j : Int), .pointer (some ⟨br, 0, none⟩), .pointer (some ⟨bn, 0, none⟩), .pointer (some ⟨Bx, 0, none⟩), undef, undef, undef, .slice A za.length capA, .slice Xb bs.length cb, .slice Xb bs.length cb, .func (.func 40) #[] #[.pointer (some ⟨g1, 0, none⟩)], .slice Xb bs.length cb, .func (.func 40) #[] #[.pointer (some ⟨g2, 0, none⟩)], .func (.func 40) #[] #[.pointer (some ⟨g1, 0, none⟩)], .bool false, .bool false, .func (.func 40) #[] #[.pointer (some ⟨g2, 0, none⟩)], .bool false, .bool false, .func (.func 40) #[] #[.pointer (some ⟨g1, 0, none⟩)], undef, undef, undef, undef, undef, .int .i64 (j : Int), .slice Xb bs.length cb, .int .i64 (bs.length : Int), .bool false, u38, u39, u40, u41, u42, .int .i64 (rn : Int), .bool true, u45, u46, .func (.func 40) #[] #[.pointer (some ⟨g2, 0, none⟩)], insV x.1 (.slice X x.1.imm.length c), undef, undef, undef, undef, undef, undef, undef, undef, undef, undef, undef, undef, undef, undef, undef, undef, undef, undef, undef, undef, undef, undef, undef, undef, undef, undef, undef, undef, undef, undef, undef, undef, undef, undef, undef, undef, undef, undef, undef, undef, undef, undef, undef, undef, undef, undef, undef, undef, undef, undef, undef, undef, undef, undef, undef, undef, undef, undef, u107, u108, u109, u110, u111, u112, u113, u114, u115, u116, u117, u118, u119, u120, undef], defers := [] })
              (fun pre x r a' _ W W' row hs hg hr => by
                obtain ⟨Bx, X, c, h1, h2, h3, h4, h5, h6, h9⟩ := hs
                exact ⟨Bx, X, c, h1, h2, h3, h4, blk_stays h5 hg hr, own_stays h6 hg hr, h9⟩) ?assign3 ?body3 ?done3 ?stop3
            case assign3 =>
              rintro l pre ⟨i, v⟩ W o K hi ⟨hr, hown, hris⟩ ho hK
              change W.ownsRow V1.heap.size 5 1 v i.imm.length (byteVs i.imm) at hown
              obtain ⟨X, c, rfl⟩ := owns_shape hown
              unfold elV insV
              gi_wp2
              have hsz2 : ((W.alloc o).alloc (.cells #[.int .i64 i.at_, .int .i64 i.code, .slice X i.imm.length c, .int .i64 i.next] 34)).heap[W.heap.size]? = some o := (Below.heap_alloc _ _ _ (by simp)).trans (heap_alloc_new _ _)
              have hg2 : W.grownBy ((W.alloc o).alloc (.cells #[.int .i64 i.at_, .int .i64 i.code, .slice X i.imm.length c, .int .i64 i.next] 34)) none := grownBy_below (((Below.refl _ W).alloc (Nat.le_refl _) _).alloc (by simp) _)
              have hi2 := one_kept hwV hi hg2 (fun r e => by cases e)
              have ho2 := own_stays (B := 0) hown hg2 (fun r e => by cases e)
              have hWs := hi.2.1
              refine hK _ _ ((KeepsOthers.alloc _ _).from _) hi2 ⟨W.heap.size + 1, X, c, by omega, hWs, by omega, rfl, heap_alloc_at _ _ _ (by simp), ho2, fun b hb' => by have := (hown.lt b hb').2; omega, hr, ?_⟩ hsz2
              rfl
            case body3 =>
              rintro l pre ⟨i, v⟩ r o a' W hl ⟨lr, hlr⟩ hone ⟨Bx, X, c, hBx, hr, hne, hv, hx, hown, hvl, ⟨p, hp1, hp2⟩, rfl⟩ hro ho
              dsimp only at hv hx hown hvl hp2
              subst hv
              obtain ⟨hlt, yv, hyy⟩ := want_at HALL.out hp1 hp2
              obtain ⟨hr1, hr2, hr3, hr4⟩ := insCells_at hyy
              dsimp only at hr1 hr2 hr3 hr4
              obtain ⟨gl, rfl⟩ := own_head yo (by omega)
              have hKK3 := hone.2.2.1
              have t0 := (hKK3 w.heap.size (by omega) (by omega)).trans s0
              have t2 := (hKK3 b2 (by omega) (by omega)).trans s2
              have tn := hone.2.2.2
              have tO := one_own hone sn so (by decide)
              have tw : W.ownsRow W0.heap.size 5 1 yv i.imm.length (byteVs i.imm) := one_own hone sn (sR _ (List.mem_of_getElem? hyy)) (by decide)
              obtain ⟨Xn, cn, rfl⟩ := owns_shape tw
              have HYW := Lib.hid (owned_ints tw)
              have HOX := Lib.hid (owned_ints hown)
              obtain ⟨k0, k1, k2, k3, kz, kl⟩ := cells4 hx
              have v0 := fun d os => cell_regrown k0 d os
              have v1 := fun d os => cell_regrown k1 d os
              have v2 := fun d os => cell_regrown k2 d os
              have v3 := fun d os => cell_regrown k3 d os
              have u2 := fun d os => cell_regrown (cell_of1 t2).1 d os
              have un := fun d os => cell_regrown (cell_of1 tn).1 d os
              have l0 := fun d os => cell_regrown ((tO.cellAt (pre.length * 4) (by omega)).trans hr1) d os
              have l1 := fun d os => cell_regrown ((tO.cellAt (pre.length * 4 + 1) (by omega)).trans hr2) d os
              have l2 := fun d os => cell_regrown ((tO.cellAt (pre.length * 4 + 2) (by omega)).trans hr3) d os
              have l3 := fun d os => cell_regrown ((tO.cellAt (pre.length * 4 + 3) (by omega)).trans hr4) d os
              have uS := fun rr d os => callsIn_grown (w := W) (r := rr) (fun w1 hb => same_eq i X Xn c cn w1 (ints_below hb HOX.out) (ints_below hb HYW.out)) d os
              unfold insV at uS
              have hd2 : decide ((xs.length : Int) ≤ (pre.length : Int)) = false := decide_eq_false (by omega)
              have hd3 : (pre.length : Int) < (xs.length : Int) := by omega
              have hd1 : decide (xs.length ≤ pre.length) = false := decide_eq_false (by omega)
              unfold insV
              gi_wp2
              refine wpIn_region_round rfl (by kernel_rfl) (by kernel_rfl) (by kernel_rfl) ?_
              repeat (refine wpQuietIn_step (fun _ _ _ _ => trivial) (fun K hK => ?_); go_simp; first | (refine hK _ ?_; clear hK K) | (apply Exists.intro; refine ⟨fun _ => ?_, hK _ ?_⟩; with_reducible exact uS _ _ _; clear hK K))
              refine wpQuietIn_nil ?_
              rintro _ ⟨pq, rfl⟩
              have hbq := below_regrown W pq.d pq.os
              generalize grow (redrawn W pq.d) pq.os = W6 at hbq ⊢
              clear v0 v1 v2 v3 u2 un l0 l1 l2 l3 uS
              gi_wp2
              have hx6 := kept_of2 hbq hx
              have tn6 := kept_of2 hbq tn
              have oX6 := own_below hown hbq
              have B6 := hone.1.trans (hbq.mono hone.1.size)
              have lX : ∀ b, (Value.slice X i.imm.length c).ownBlock = some b → V1.heap.size ≤ b := fun b hb => (hown.lt b hb).1
              have HK3 := Lib.hid hKK3
              have hil : i.imm.length ≤ 9223372036854775807 := by have := owned_max hown; unfold maxLen at this; exact this
              have HBQ := Lib.hid hbq
              have HHY := Lib.hid hyy
              clear hKK3 hyy hr1 hr2 hr3 hr4 k0 k1 k2 k3 kz kl hd1 hd2 t0 t2 tw tO
              gi_loopw [13] (fun vj wx => ∃ (q : Nat) (zs : List Value), vj = .int .i64 q ∧ q ≤ i.imm.length ∧ wx.ownsRow V1.heap.size 5 1 (.slice X i.imm.length c) i.imm.length zs ∧ W6.heap.size = wx.heap.size ∧ Below wv.heap.size wv wx ∧ ∀ k, (∀ b, (Value.slice X i.imm.length c).ownBlock = some b → k ≠ b) → wx.heap[k]? = W6.heap[k]?) (fun vj _ => i.imm.length - (intOf vj).toNat)
              case atStart => exact ⟨0, _, rfl, by omega, oX6, rfl, B6, fun _ _ => rfl⟩
              case round =>
                obtain ⟨q, zs2, rfl, hq, oX, qS, qB, qK⟩ := hrel
                have hxq := (qK Bx (fun b hb => by have := (hvl b hb).2; omega)).trans hx6
                have tnq := (qK bn (fun b hb => by have := lX b hb; omega)).trans tn6
                obtain ⟨k0, k1, k2, k3, kz, kl⟩ := cells4 hxq
                obtain ⟨dn, fn⟩ := cell_of1 tnq
                by_cases hql : q < i.imm.length
                · have hq1 : (q : Int) < (i.imm.length : Int) := by omega
                  obtain ⟨gX, rfl⟩ := own_head oX (by omega)
                  have hgb := own_lt oX
                  obtain ⟨vv, hvv⟩ : ∃ vv, zs2[q]? = some vv := ⟨_, List.getElem?_eq_getElem (show q < zs2.length by have := oX.1; simp at this; omega)⟩
                  obtain ⟨d1, d2⟩ := own_cell oX hvv
                  have hq2 : (0 : Int) ≤ (q : Int) := by omega
                  have A0 : q + 1 ≤ i.imm.length := by omega
                  have A1 := Lib.hid (fun v => own_set oX q v)
                  have A2 := Lib.hid (fun v => qB.setCell (p := ⟨gX, q, none⟩) (by dsimp only; omega) v)
                  have A3 := Lib.hid (fun v => fun k hk => (heap_setKeep wr (a := ⟨gX, q, none⟩) (by exact hk gX rfl) v).trans (qK k hk))
                  have A4 := Lib.hid A0
                  have A5 := Lib.hid qS
                  clear hvv yb yB y0 y1 y3 yr yh yD hDs vB vr s0 s1 s3 sr sn sR sh sB s3c s3f hone hp1 hp2 hro tn y2 yo z2 s2 so tn6 hvl lX oX qB tnq qK qS hxq hx hx6 oX6 hown HOX z0 z1 z3 r1 r2
                  gi_wp2
                  exact ⟨⟨q + 1, _, by go_num, A4.out, A1.out _, by simpa using A5.out, A2.out _, fun k hk => A3.out _ k hk⟩, by simp [intOf]; omega⟩
                · have hq1 : ¬ (q : Int) < (i.imm.length : Int) := by omega
                  have hWs := hone.2.1
                  have hWs6 := HBQ.out.size
                  have hWr : W.heap.size ≤ wr.heap.size := by omega
                  have rr : wr.heap[r]? = some o := (qK r (fun b hb => by have := (hvl b hb).1; omega)).trans (kept_of2 HBQ.out hro)
                  have K1 : ∀ k, k < V1.heap.size → k ≠ bn → wr.heap[k]? = V1.heap[k]? := fun k hk hkb => (qK k (fun b hb => by have := lX b hb; omega)).trans ((HBQ.out.block k (by omega)).trans (HK3.out k hk hkb))
                  have rK : KeepsFrom V1.heap.size W wr := ⟨hWr, fun k o' _ hk hc => (qK k (fun b hb e => by
                    obtain ⟨cs, t, hh⟩ := own_cells hown hb
                    rw [e, hh] at hk
                    cases hk
                    cases hc)).trans (kept_of2 HBQ.out hk)⟩
                  have hone2 : OneInv wv V1 bn 3 (.int .i64 pre.length) wr := ⟨qB, by omega, K1, tnq⟩
                  have a0 := (K1 w.heap.size (by omega) (by omega)).trans s0
                  have a2 := (K1 b2 (by omega) (by omega)).trans s2
                  have a3 := (K1 b3 (by omega) (by omega)).trans s3
                  have wr0 := (K1 br (by omega) (by omega)).trans sr
                  have wh := held_keep hone2 sh sn
                  have hlp : pre.length ≤ 70000 := by omega
                  have HO := Lib.hid hone2
                  have HRR := Lib.hid rr
                  have HRK := Lib.hid rK
                  have so2 := one_own hone2 sn so (by decide)
                  have sR2 : RowsAt W0.heap.size xs wr := fun x hx => one_own hone2 sn (sR x hx) (by decide)
                  have lr2 := rK.same _ _ hl hlr rfl
                  have tL := turn_fin (r := r) (m := (pre ++ [((i, Value.slice X i.imm.length c) : El)]).length) (by simp) hone2 hnw hsz hr rr rK
                  have TL := Lib.hid tL
                  clear yb yB y0 y1 y3 yr yh yD hDs vB vr s0 s1 s3 sr sn sR sh sB s3c s3f hone hp1 hp2 hro tn y2 yo z2 s2 so tn6 hvl lX oX qB qK qS hxq hx hx6 oX6 hown HOX z0 z1 z3 r1 r2 rr rK K1 HBQ HK3 hql tL
                  obtain ⟨e0, f0⟩ := cell_of1 a0
                  obtain ⟨e2, f2⟩ := cell_of1 a2
                  obtain ⟨e3, f3⟩ := cell_of1 a3
                  obtain ⟨e4, f4⟩ := cell_of1 wr0
                  by_cases hn1 : pre.length = 1
                  · have hn1' : ((pre.length : Int) == 1) = true := by rw [hn1]; rfl
                    have HN1 := Lib.hid hn1
                    clear hn1
                    obtain ⟨bm, hbm⟩ : ∃ bm, bm = wr.heap.size := ⟨_, rfl⟩
                    have m0 := heap_alloc_before a0 (.cells #[.int .i64 0] 3)
                    have m2 := heap_alloc_before a2 (.cells #[.int .i64 0] 3)
                    have m3 := heap_alloc_before a3 (.cells #[.int .i64 0] 3)
                    have m4 := heap_alloc_before wr0 (.cells #[.int .i64 0] 3)
                    have mb := heap_alloc_before tnq (.cells #[.int .i64 0] 3)
                    have mm := heap_alloc_at wr (.cells #[.int .i64 0] 3) bm hbm
                    have mr := heap_alloc_before HRR.out (.cells #[.int .i64 0] 3)
                    have ml := heap_alloc_before lr2 (.cells #[.int .i64 0] 3)
                    have mo := so2.alloc (.cells #[.int .i64 0] 3)
                    have mR : RowsAt W0.heap.size xs (wr.alloc (.cells #[.int .i64 0] 3)) := fun x hx => (sR2 x hx).alloc _
                    have mh : HeldAt bs w2.heap.size g2 (wr.alloc (.cells #[.int .i64 0] 3)) := by
                      obtain ⟨h, q1, q2, q3, q4⟩ := wh
                      exact ⟨h, q1, q2, heap_alloc_before q3 _, heap_alloc_before q4 _⟩
                    have mB := HO.out.1.alloc HO.out.1.size (.cells #[.int .i64 0] 3)
                    have mKF := HRK.out.trans ((KeepsOthers.alloc wr (.cells #[.int .i64 0] 3)).from _)
                    have mO := one_kept hwV HO.out (grownBy_below ((Below.refl _ wr).alloc (Nat.le_refl _) (.cells #[.int .i64 0] 3))) (fun r e => by cases e)
                    have hrbm : r < bm := by have := (Array.getElem?_eq_some_iff.1 HRR.out).1; omega
                    have hbmV : V1.heap.size ≤ bm := by have := HO.out.2.1; omega
                    have msz : (wr.alloc (.cells #[.int .i64 0] 3)).heap.size = bm + 1 := by simp [hbm]
                    have HBM := Lib.hid hbm
                    clear hbm
                    obtain ⟨e5, f5⟩ := cell_of1 m3
                    gi_wp2
                    rw [← HBM.out]
                    generalize wr.alloc (.cells #[.int .i64 0] 3) = W3 at m0 m2 m3 m4 mb mm mr ml mo mR mh mB mKF mO msz ⊢
                    have hwW3 : wv.heap.size ≤ W3.heap.size := mB.size
                    have hbm3 : bm < W3.heap.size := by omega
                    clear msz HBM a0 a2 a3 wr0 tnq so2 sR2 wh HO HRR HRK TL e0 f0 e2 f2 e3 f3 e4 f4 e5 f5 lr2 k0 k1 k2 k3 kz kl dn fn
                    refine wpIn_rangeF_inner rfl ml (by omega) (gf := 40) (lb := #[.pointer (some ⟨g2, 0, none⟩)]) rfl trivial (enters_of Tryd.func40 (by kernel_rfl) rfl) (SeqF.inRound l (all1_seq bs HZ.out (by omega) g2 w2.heap.size 2 W3)) (Below.refl _ _) (fun _ => rfl)
                      (fun pre2 W => OneInv wv W3 bm 3 (.int .i64 pre2.length) W) (fun _ _ _ => False) (fun s W W' row hs hg hr => one_kept hwW3 hs hg hr) (fun _ _ _ _ _ h _ _ => h)
                      ⟨mB, Nat.le_refl _, fun _ _ _ => rfl, mm⟩
                      (fun pre2 W h => held_keep h mh mm)
                      (fun pre2 x r2 a' W => ∃ By Y c2, W3.heap.size ≤ By ∧ W3.heap.size ≤ r2 ∧ By ≠ r2 ∧ x.2 = .slice Y x.1.imm.length c2 ∧ W.heap[By]? = some (.cells #[.int .i64 x.1.at_, .int .i64 x.1.code, .slice Y x.1.imm.length c2, .int .i64 x.1.next] 34 (0, 0)) ∧
                        W.ownsRow W3.heap.size 5 1 (.slice Y x.1.imm.length c2) x.1.imm.length (byteVs x.1.imm) ∧ (∃ p, Reads bs (pre2.map Prod.fst) p ∧ readE bs p = (0, x.1)) ∧
                        a' = { tmps := #[.slice Xb bs.length cb, .int .i64 stop, undef, .pointer (some ⟨w.heap.size, 0, none⟩), .pointer (some ⟨w.heap.size + 1, 0, none⟩), .pointer (some ⟨b2, 0, none⟩), .func (.func 40) #[] #[.pointer (some ⟨g1, 0, none⟩)], .pointer (some ⟨b3, 0, none⟩), undef, .int .i64 (j : Int), .pointer (some ⟨br, 0, none⟩), .pointer (some ⟨bn, 0, none⟩), .pointer (some ⟨Bx, 0, none⟩), .int .i64 (q : Int), .pointer (some ⟨bm, 0, none⟩), .pointer (some ⟨By, 0, none⟩), .slice A za.length capA, .slice Xb bs.length cb, .slice Xb bs.length cb, .func (.func 40) #[] #[.pointer (some ⟨g1, 0, none⟩)], .slice Xb bs.length cb, .func (.func 40) #[] #[.pointer (some ⟨g2, 0, none⟩)], .func (.func 40) #[] #[.pointer (some ⟨g1, 0, none⟩)], .bool false, .bool false, .func (.func 40) #[] #[.pointer (some ⟨g2, 0, none⟩)], .bool false, .bool false, .func (.func 40) #[] #[.pointer (some ⟨g1, 0, none⟩)], undef, undef, undef, undef, undef, .int .i64 (j : Int), .slice Xb bs.length cb, .int .i64 (bs.length : Int), .bool false, u38, u39, u40, u41, u42, .int .i64 (rn : Int), .bool true, u45, u46, .func (.func 40) #[] #[.pointer (some ⟨g2, 0, none⟩)], insV i (.slice X i.imm.length c), .int .i64 (pre.length : Int), .slice (some ⟨gl, 0, none⟩) xs.length cv, .int .i64 (xs.length : Int), .bool false, .bool false, insV i (.slice X i.imm.length c), .slice (some ⟨gl, 0, none⟩) xs.length cv, .int .i64 (pre.length : Int), .pointer (some ⟨gl, pre.length * 4, none⟩), insV i (.slice Xn i.imm.length cn), .bool true, .bool false, .bool false, .int .i64 (q : Int), .pointer (some ⟨Bx, 2, none⟩), .slice X i.imm.length c, .int .i64 (i.imm.length : Int), .bool false, u67, u68, u69, u70, u71, u72, u73, u74, .int .i64 (pre.length : Int), .bool true, .func (.func 40) #[] #[.pointer (some ⟨g2, 0, none⟩)], insV x.1 (.slice Y x.1.imm.length c2), undef, undef, undef, undef, undef, undef, undef, undef, undef, undef, undef, undef, undef, undef, undef, undef, undef, undef, undef, undef, undef, undef, undef, undef, undef, undef, undef, undef, u107, u108, u109, u110, u111, u112, u113, u114, u115, u116, u117, u118, u119, u120, undef], defers := [] })
                      (fun pre2 x r2 a' _ W W' row hs hg hr => by
                        obtain ⟨By, Y, c2, h1, h2, h3, h4, h5, h6, h9⟩ := hs
                        exact ⟨By, Y, c2, h1, h2, h3, h4, blk_stays h5 hg hr, own_stays h6 hg hr, h9⟩) ?assign4 ?body4 ?done4 ?stop4
                    case assign4 =>
                      rintro l2 pre2 ⟨i2, v2⟩ W o2 K hi ⟨hr2, hown, _⟩ ho2 hK
                      change W.ownsRow W3.heap.size 5 1 v2 i2.imm.length (byteVs i2.imm) at hown
                      obtain ⟨Y, c2, rfl⟩ := owns_shape hown
                      unfold elV insV
                      gi_wp2
                      have hsz2 : ((W.alloc o2).alloc (.cells #[.int .i64 i2.at_, .int .i64 i2.code, .slice Y i2.imm.length c2, .int .i64 i2.next] 34)).heap[W.heap.size]? = some o2 := (Below.heap_alloc _ _ _ (by simp)).trans (heap_alloc_new _ _)
                      have hg2 : W.grownBy ((W.alloc o2).alloc (.cells #[.int .i64 i2.at_, .int .i64 i2.code, .slice Y i2.imm.length c2, .int .i64 i2.next] 34)) none := grownBy_below (((Below.refl _ W).alloc (Nat.le_refl _) _).alloc (by simp) _)
                      have hi2 := one_kept hwW3 hi hg2 (fun r e => by cases e)
                      have ho3 := own_stays (B := 0) hown hg2 (fun r e => by cases e)
                      have hWs := hi.2.1
                      refine hK _ _ ((KeepsOthers.alloc _ _).from _) hi2 ⟨W.heap.size + 1, Y, c2, by omega, hWs, by omega, rfl, heap_alloc_at _ _ _ (by simp), ho3, hr2, ?_⟩ hsz2
                      rfl
                    case body4 =>
                      rintro l2 pre2 ⟨i2, v2⟩ r2 o2 a' W hl2 ⟨lr2, hlr2⟩ hone ⟨By, Y, c2, hBy, hr2, hne2, hv, hx, hown, ⟨p2, hp1, hp2⟩, rfl⟩ hro2 ho2
                      dsimp only at hv hx hown hp2
                      subst hv
                      obtain ⟨hlt2, yv2, hyy⟩ := want_at HALL.out hp1 hp2
                      obtain ⟨hr1, hr2', hr3, hr4⟩ := insCells_at hyy
                      dsimp only at hr1 hr2' hr3 hr4
                      have hKK3 := hone.2.2.1
                      have t2 := (hKK3 b2 (by omega) (by omega)).trans m2
                      have tn := hone.2.2.2
                      have tO := one_own hone mm mo (by decide)
                      have tw : W.ownsRow W0.heap.size 5 1 yv2 i2.imm.length (byteVs i2.imm) := one_own hone mm (mR _ (List.mem_of_getElem? hyy)) (by decide)
                      obtain ⟨Xn2, cn2, rfl⟩ := owns_shape tw
                      have HYW2 := Lib.hid (owned_ints tw)
                      have HOX2 := Lib.hid (owned_ints hown)
                      obtain ⟨k0, k1, k2, k3, kz, kl⟩ := cells4 hx
                      have v0 := fun d os => cell_regrown k0 d os
                      have v1 := fun d os => cell_regrown k1 d os
                      have v2 := fun d os => cell_regrown k2 d os
                      have v3 := fun d os => cell_regrown k3 d os
                      have u2 := fun d os => cell_regrown (cell_of1 t2).1 d os
                      have un := fun d os => cell_regrown (cell_of1 tn).1 d os
                      have l0 := fun d os => cell_regrown ((tO.cellAt (pre2.length * 4) (by omega)).trans hr1) d os
                      have l1 := fun d os => cell_regrown ((tO.cellAt (pre2.length * 4 + 1) (by omega)).trans hr2') d os
                      have l2c := fun d os => cell_regrown ((tO.cellAt (pre2.length * 4 + 2) (by omega)).trans hr3) d os
                      have l3 := fun d os => cell_regrown ((tO.cellAt (pre2.length * 4 + 3) (by omega)).trans hr4) d os
                      have uS := fun rr d os => callsIn_grown (w := W) (r := rr) (fun w1 hb => same_eq i2 Y Xn2 c2 cn2 w1 (ints_below hb HOX2.out) (ints_below hb HYW2.out)) d os
                      unfold insV at uS
                      have hd2 : decide ((xs.length : Int) ≤ (pre2.length : Int)) = false := decide_eq_false (by omega)
                      have hd4 : (pre2.length : Int) < (xs.length : Int) := by omega
                      have hd1 : decide (xs.length ≤ pre2.length) = false := decide_eq_false (by omega)
                      have hpl2 : pre2.length ≤ 70000 := by omega
                      have HO4 := Lib.hid hone
                      have HRO4 := Lib.hid hro2
                      clear hone hKK3 hro2 hyy hr1 hr2' hr3 hr4 hp1 hp2 m0 m2 m3 m4 mb mr ml mo mR mh mB mKF mO tO tw hown
                      unfold insV
                      gi_wp2
                      refine wpIn_region_round (F := Fence.wide) (lp := l2) rfl (by kernel_rfl) (by kernel_rfl) (by kernel_rfl) ?_
                      repeat (refine wpQuietIn_step (fun _ _ _ _ => trivial) (fun K hK => ?_); go_simp; first | (refine hK _ ?_; clear hK K) | (apply Exists.intro; refine ⟨fun _ => ?_, hK _ ?_⟩; with_reducible exact uS _ _ _; clear hK K))
                      refine wpQuietIn_nil ?_
                      rintro _ ⟨pq2, rfl⟩
                      have hbq2 := below_regrown W pq2.d pq2.os
                      clear v0 v1 v2 v3 u2 un l0 l1 l2c l3 uS hd1 hd2 k0 k1 k2 k3 kz kl
                      generalize grow (redrawn W pq2.d) pq2.os = W7 at hbq2 ⊢
                      have hO5 := one_kept hwW3 HO4.out (grownBy_below hbq2) (fun r e => by cases e)
                      obtain ⟨d1, f1⟩ := cell_of1 hO5.2.2.2
                      have TL := Lib.hid (turn_fin (r := r2) (m := (pre2 ++ [((i2, Value.slice Y i2.imm.length c2) : El)]).length) (by simp) hO5 (by omega) hbm3 hr2 (kept_of2 hbq2 HRO4.out) (KeepsFrom.of_grownBy (grownBy_below hbq2) (fun _ h => by cases h)))
                      clear hO5 HO4 HRO4 hbq2 t2 tn hx
                      gi_wp2
                      exact TL.out
                    case stop4 =>
                      rintro c2 pre2 W hpre hn
                      exact hn.elim
                    case done4 =>
                      rintro xs2 W9 hall2 hone
                      rw [all_len HALL.out hall2] at hone
                      have mQ := hone.2.2.1
                      have e9 := one_trans (show bn < bm by omega) mO hone hbmV hbm3
                      have TL := Lib.hid (turn_fin (r := r) (m := (pre ++ [((i, Value.slice X i.imm.length c) : El)]).length) (by simp) e9 hnw hsz hr ((mQ r (by have := (Array.getElem?_eq_some_iff.1 mr).1; omega) (by omega)).trans mr) (mKF.trans (one_keeps hone mm)))
                      obtain ⟨e0, f0⟩ := cell_of1 ((mQ w.heap.size (by omega) (by omega)).trans m0)
                      obtain ⟨e2, f2⟩ := cell_of1 ((mQ b2 (by omega) (by omega)).trans m2)
                      obtain ⟨e4, f4⟩ := cell_of1 ((mQ br (by omega) (by omega)).trans m4)
                      obtain ⟨e5, f5⟩ := cell_of1 hone.2.2.2
                      obtain ⟨e6, f6⟩ := cell_of1 e9.2.2.2
                      clear e9 mQ hone m0 m2 m3 m4 mb mm mr ml mo mR mh mB mKF mO
                      by_cases hs : (pre.length : Int) + 1 = stop
                      · have hs1 : (((pre.length : Int) + 1) == stop) = true := beq_iff_eq.2 hs
                        have HS := Lib.hid hs
                        clear hs
                        rcases (show rn = 0 ∨ rn = 1 by omega) with hrn | hrn
                        · have hrn1 : ((rn : Int) == 0) = true := beq_iff_eq.2 (by omega)
                          have HRN := Lib.hid hrn
                          clear hrn
                          gi_wp2
                          exact ⟨TL.out.1, rfl, HRN.out, by have := HS.out; simp; omega, TL.out.2.1⟩
                        · have hrn1 : ((rn : Int) == 0) = false := beq_eq_false_iff_ne.2 (by omega)
                          clear hrn
                          gi_wp2
                          exact ⟨TL.out.1, TL.out.2.1, TL.out.2.2⟩
                      · have hs1 : (((pre.length : Int) + 1) == stop) = false := beq_eq_false_iff_ne.2 hs
                        gi_wp2
                        exact ⟨TL.out.1, TL.out.2.1, TL.out.2.2⟩
                  · have hn1' : ((pre.length : Int) == 1) = false := beq_eq_false_iff_ne.2 (by omega)
                    by_cases hs : (pre.length : Int) + 1 = stop
                    · have hs1 : (((pre.length : Int) + 1) == stop) = true := beq_iff_eq.2 hs
                      have HS := Lib.hid hs
                      clear hs
                      rcases (show rn = 0 ∨ rn = 1 by omega) with hrn | hrn
                      · have hrn1 : ((rn : Int) == 0) = true := beq_iff_eq.2 (by omega)
                        have HRN := Lib.hid hrn
                        clear hrn
                        gi_wp2
                        exact ⟨TL.out.1, rfl, HRN.out, by have := HS.out; simp; omega, TL.out.2.1⟩
                      · have hrn1 : ((rn : Int) == 0) = false := beq_eq_false_iff_ne.2 (by omega)
                        clear hrn
                        gi_wp2
                        exact ⟨TL.out.1, TL.out.2.1, TL.out.2.2⟩
                    · have hs1 : (((pre.length : Int) + 1) == stop) = false := beq_eq_false_iff_ne.2 hs
                      gi_wp2
                      exact ⟨TL.out.1, TL.out.2.1, TL.out.2.2⟩
            case done3 =>
              rintro D3 xs3 W9 hD3 hall3 hone hK3
              rw [all_len HALL.out hall3] at hone
              have mQ := hone.2.2.1
              obtain ⟨e2, f2⟩ := cell_of1 ((mQ b2 (by omega) (by omega)).trans s2)
              obtain ⟨e4, f4⟩ := cell_of1 ((mQ br (by omega) (by omega)).trans sr)
              obtain ⟨e5, f5⟩ := cell_of1 hone.2.2.2
              have FD := Lib.hid (HDS.out (W9.alloc (.cells #[.int .i64 ((rn : Int) + 1)] 3)) D3 (fun k hk o ho hc => heap_alloc_before ((mQ k (by omega) (by omega)).trans (sV.out k o ho)) _) (by omega) (heap_alloc_before hK3 _))
              have FB := Lib.hid (hone.1.alloc hone.1.size (.cells #[.int .i64 ((rn : Int) + 1)] 3))
              have FS := Lib.hid hone.1.size
              clear mQ hone
              gi_wp2
              exact ⟨k - 1, by omega, hJ _ _ _ ⟨rn + 1, W9.heap.size, _, _, _, _, _, _, _, _, _, _, _, _, _, _, _, _, _, _, _, _, _, by omega, FD.out, FB.out, FS.out, heap_alloc_at _ _ _ rfl, rfl⟩⟩
            case stop3 =>
              rintro D3 c pre W9 hD3 hpre ⟨rfl, hrn, hst, hone⟩ hK3
              subst hrn
              have mQ := hone.2.2.1
              obtain ⟨e2, f2⟩ := cell_of1 ((mQ b2 (by omega) (by omega)).trans s2)
              obtain ⟨e4, f4⟩ := cell_of1 ((mQ br (by omega) (by omega)).trans sr)
              obtain ⟨e0, f0⟩ := cell_of1 ((mQ w.heap.size (by omega) (by omega)).trans s0)
              obtain ⟨e5, f5⟩ := cell_of1 hone.2.2.2
              have FD := Lib.hid (HDS.out (W9.alloc (.cells #[.int .i64 1] 3)) D3 (fun k hk o ho hc => heap_alloc_before ((mQ k (by omega) (by omega)).trans (sV.out k o ho)) _) (by omega) (heap_alloc_before hK3 _))
              have FB := Lib.hid (hone.1.alloc hone.1.size (.cells #[.int .i64 1] 3))
              have FS := Lib.hid hone.1.size
              have hst1 : ((pre.length : Int) == stop) = true := beq_iff_eq.2 hst
              have hst2 : ((pre.length : Int) != stop) = false := by simp [hst]
              clear mQ hone hst
              by_cases hxx : (pre.length : Int) = (xs.length : Int)
              · have hx1 : ((pre.length : Int) != (xs.length : Int)) = false := by simp [hxx]
                clear hxx
                gi_wp2
                exact ⟨k - 1, by omega, hJ _ _ _ ⟨1, W9.heap.size, _, _, _, _, _, _, _, _, _, _, _, _, _, _, _, _, _, _, _, _, _, by omega, FD.out, FB.out, FS.out, heap_alloc_at _ _ _ rfl, rfl⟩⟩
              · have hx1 : ((pre.length : Int) != (xs.length : Int)) = true := by simp; omega
                clear hxx
                gi_wp2
                exact ⟨k - 1, by omega, hJ _ _ _ ⟨1, W9.heap.size, _, _, _, _, _, _, _, _, _, _, _, _, _, _, _, _, _, _, _, _, _, by omega, FD.out, FB.out, FS.out, heap_alloc_at _ _ _ rfl, rfl⟩⟩
          · have h2i : ¬ (rn : Int) < 2 := by omega
            have h22 : rn = 2 := by omega
            have HDs : Hid (∃ D1 D2, wv.heap.size ≤ D1 ∧ D1 < D2 ∧ ds = [{ target := .collected D2, args := #[] }, { target := .collected D1, args := #[] }, { target := .collected D, args := #[] }] ∧ w'.heap[D]? = some (.deferred (some [])) ∧ w'.heap[D1]? = some (.deferred (some [])) ∧ w'.heap[D2]? = some (.deferred (some []))) := by
              rcases hDs with ⟨h, _⟩ | ⟨h, _⟩ | ⟨_, h⟩
              · omega
              · omega
              · exact Lib.hid h
            obtain ⟨D1, D2, hV1, h12, hds, v0, v1, v2⟩ := HDs.out
            subst hds
            obtain ⟨q1, gq1⟩ := cell_of1 z1
            clear hDs HDs h22
            gi_wp2_with (refine ⟨trivial, ?_⟩; gi_at_call 17; refine (callsIn_wide.2 (awake6 _)).mono ?_; rintro e w9 ⟨rfl, hb9⟩; obtain ⟨d2, f2⟩ := cell_of1 (kept_of hb9 z1))
            have u0 := (KeepsOthers.setCell w9 ⟨w.heap.size + 1, 0, none⟩ (.bool true)).same D _ (kept_of hb9 v0) rfl
            have u1 := (KeepsOthers.setCell w9 ⟨w.heap.size + 1, 0, none⟩ (.bool true)).same D1 _ (kept_of hb9 v1) rfl
            have u2 := (KeepsOthers.setCell w9 ⟨w.heap.size + 1, 0, none⟩ (.bool true)).same D2 _ (kept_of hb9 v2) rfl
            have p1 := (World.putObj_heap_other (o := .deferred none) (show D1 ≠ D2 by omega)).trans u1
            have p0 := (World.putObj_heap_other (o := .deferred none) (show D ≠ D2 by omega)).trans u0
            have p00 := (World.putObj_heap_other (o := .deferred none) (show D ≠ D1 by omega)).trans p0
            refine ⟨by simp, .inl ⟨_, _, rfl, run_takeDeferred u2, ?_⟩⟩
            refine ⟨by simp, .inl ⟨_, _, rfl, run_takeDeferred p1, ?_⟩⟩
            refine ⟨by simp, .inl ⟨_, _, rfl, run_takeDeferred p00, ?_⟩⟩
            have b9 := ((yB.trans (vB.mono yB.size)).trans (hb9.mono (yB.trans (vB.mono yB.size)).size)).setCell (p := ⟨w.heap.size + 1, 0, none⟩) (by dsimp only; omega) (.bool true)
            have c2 := bel_stays (B := W0.heap.size) b9 hwW (grownBy_putObj' _ D2 (.deferred none)) (fun r e => by cases e; exact ⟨by omega, _, u2, rfl⟩)
            have c1 := bel_stays (B := W0.heap.size) c2 hwW (grownBy_putObj' _ D1 (.deferred none)) (fun r e => by cases e; exact ⟨by omega, _, p1, rfl⟩)
            have c0 := bel_stays (B := W0.heap.size) c1 hwW (grownBy_putObj' _ D (.deferred none)) (fun r e => by cases e; exact ⟨by omega, _, p00, rfl⟩)
            have hv := (World.putObj_heap_other (o := .deferred none) (show w.heap.size + 1 ≠ D by omega)).trans ((World.putObj_heap_other (o := .deferred none) (show w.heap.size + 1 ≠ D1 by omega)).trans ((World.putObj_heap_other (o := .deferred none) (show w.heap.size + 1 ≠ D2 by omega)).trans (heap_set1 (kept_of hb9 z1) (.bool true))))
            exact ⟨_, within_end rfl hv, rfl, c0⟩
end Go.Proofs.YthjnjdpiihpgeaaDoor
