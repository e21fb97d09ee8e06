/- vouchlaw6.CodeOwn: the walk. -/
import Derived.Test.YthjnjdpiihpgeaaDoorFam6
import Derived.Test.YthjnjdpiihpgeaaDoorSameAll6
import Derived.Test.YthjnjdpiihpgeaaDoorDefs
import Derived.Test.YthjnjdpiihpgeaaDoorFrames
import Derived.Test.YthjnjdpiihpgeaaDoorMarks
import Derived.Test.YthjnjdpiihpgeaaDoorTail6
import Derived.Test.YthjnjdpiihpgeaaDoorCut6
import Derived.LoopIn
import Derived.Sort.LoopGhostIn
import Derived.Sort.CutIn
import Derived.Laws.EntriesVeiled
namespace Go.Proofs.YthjnjdpiihpgeaaDoor
open Go.RowKit Vouch Go.Vk Go.Sort
attribute [local go_sem] Oper.semAt_some
theorem all_fst {bs : List Int} {xs ys : List El} (h : AllOf bs xs) (h' : AllOf bs ys) : ys.map Prod.fst = xs.map Prod.fst := by
  obtain ⟨p, h1, h2⟩ := h
  obtain ⟨q, g1, g2⟩ := h'
  exact (reads_all h1 h2 g1 g2).1
theorem all_length {bs : List Int} {xs : List El} (h : AllOf bs xs) : xs.length ≤ bs.length := by
  obtain ⟨p, h1, _⟩ := h
  have := reads_length h1
  simpa using this
def mkB (m : Nat) : Value := .int .u8 (1 + (m : Int) % 250)
theorem fam_funs {B : Nat} {vs : List Value} {W : World} (h : Fam B vs W) : ∃ (ad : Nat → Option Addr) (ln cp : Nat → Nat), (∀ m, m < vs.length → vs[m]? = some (lv ad ln cp m)) ∧ (∀ m, m < vs.length → ln m ≤ 70000) ∧ ApartN vs.length (lv ad ln cp) ∧ (∀ mk, Marked mk vs.length 5 B ad ln cp 0 0 W) ∧
    ∀ m, m < vs.length → ∀ b, (lv ad ln cp m).ownBlock = some b → B ≤ b ∧ b < W.heap.size ∧ ∃ cs, W.heap[b]? = some (.cells cs 5 (0, 0)) := by
  let ad : Nat → Option Addr := fun m => match vs[m]? with | some (.slice a _ _) => a | _ => none
  let ln : Nat → Nat := fun m => match vs[m]? with | some (.slice _ n _) => n | _ => 0
  let cp : Nat → Nat := fun m => match vs[m]? with | some (.slice _ _ c) => c | _ => 0
  have key : ∀ m (hm : m < vs.length), vs[m]? = some (lv ad ln cp m) ∧ ∃ n zs, n ≤ 70000 ∧ W.ownsRow B 5 1 (lv ad ln cp m) n zs ∧ n = ln m := by
    intro m hm
    have hg : vs[m]? = some vs[m] := List.getElem?_eq_getElem hm
    obtain ⟨n, zs, hn, ho⟩ := h.1 vs[m] (List.getElem_mem hm)
    obtain ⟨A, c, he⟩ := owns_shape ho
    have hl : lv ad ln cp m = .slice A n c := by
      simp only [lv, ad, ln, cp, hg, he]
    refine ⟨by rw [hg, he, hl], n, zs, hn, by rw [hl, ← he]; exact ho, ?_⟩
    simp only [ln, hg, he]
  refine ⟨ad, ln, cp, fun m hm => (key m hm).1, fun m hm => ?_, fun m m' hm hm' hne b hb hb' => ?_, fun mk m hm => ?_, fun m hm b hb => ?_⟩
  · obtain ⟨_, n, _, hn, _, e⟩ := key m hm
    omega
  · have hp := List.pairwise_iff_getElem.1 h.2
    have e1 := (key m hm).1
    have e2 := (key m' hm').1
    rw [List.getElem?_eq_getElem hm] at e1
    rw [List.getElem?_eq_getElem hm'] at e2
    rw [← Option.some.inj e1] at hb
    rw [← Option.some.inj e2] at hb'
    rcases Nat.lt_or_gt_of_ne hne with h1 | h1
    · have := hp m m' hm hm' h1 b b hb hb'
      omega
    · have := hp m' m hm' hm h1 b b hb' hb
      omega
  · obtain ⟨_, n, zs, hn, ho, e⟩ := key m hm
    subst e
    exact ⟨zs, ho, fun j hj => by omega⟩
  · obtain ⟨_, n, zs, hn, ho, e⟩ := key m hm
    exact ⟨(ho.lt b hb).1, (ho.lt b hb).2, own_block ho hb⟩
/-- What stays while the answers are written over: b, was, x and its rows (all marked), the open records. -/
structure OwnS (w : World) (n cb cy gx B1 B2 N cE : Nat) (Xb Y XE : Option Addr) (bs : List Int) (vs : List Value) (ad : Nat → Option Addr) (ln cp : Nat → Nat) (ds : List Deferred) (W : World) : Prop where
  b : W.ownsRow w.heap.size 5 1 (.slice Xb n cb) n (byteVs bs)
  was : W.ownsRow B1 5 1 (.slice Y n cy) n (byteVs bs)
  ptr : W.heap[gx + 1]? = some (.cells #[.pointer (some ⟨gx, 0, none⟩)] 47 (0, 0))
  x : W.heap[gx]? = some (.cells #[.slice XE N cE] 50 (0, 0))
  xs : W.ownsRow B2 22 1 (.slice XE N cE) N vs
  fam : Marked mkB N 5 B2 ad ln cp N 0 W
  bel : Below w.heap.size w W
  defs : DefsL w.heap.size ds W
theorem owns_keep {w : World} {n cb cy gx B1 B2 N cE : Nat} {Xb Y XE : Option Addr} {bs : List Int} {vs : List Value} {ad : Nat → Option Addr} {ln cp : Nat → Nat} {ds : List Deferred} {W W' : World} {t0 : TypeId} {v0 : Value} (h : OwnS w n cb cy gx B1 B2 N cE Xb Y XE bs vs ad ln cp ds W)
    (hk : ∀ q, v0.ownBlock ≠ some q → W'.heap[q]? = W.heap[q]?) (hv : ∀ q, v0.ownBlock = some q → ∃ cs, W.heap[q]? = some (.cells cs t0 (0, 0))) (h1 : t0 ≠ 5) (h2 : t0 ≠ 22) (h3 : t0 ≠ 50) (h4 : t0 ≠ 47) (hb : Below w.heap.size w W') : OwnS w n cb cy gx B1 B2 N cE Xb Y XE bs vs ad ln cp ds W' := by
  have ty : ∀ {q t : Nat} {cs : Array Value}, t0 ≠ t → W.heap[q]? = some (.cells cs t (0, 0)) → W'.heap[q]? = some (.cells cs t (0, 0)) := fun ht hq => (hk _ (fun e => by
    obtain ⟨cs', hc⟩ := hv _ e
    rw [hq] at hc
    cases hc
    exact ht rfl)).trans hq
  have ow : ∀ {B e sz k : Nat} {v : Value} {xs : List Value}, t0 ≠ e → W.ownsRow B e sz v k xs → W'.ownsRow B e sz v k xs := fun he ho => own_as ho (fun q hq => by
    obtain ⟨cs, hc⟩ := own_block ho hq
    rw [hc]
    exact ty he hc)
  refine ⟨ow h1 h.b, ow h1 h.was, ty h4 h.ptr, ty h3 h.x, ow h2 h.xs, fun m hm => ?_, hb, defsl_keep h.defs fun q o hq ho => (hk q (fun e => ?_)).trans hq⟩
  · obtain ⟨zs, a, b⟩ := h.fam m hm
    exact ⟨zs, ow h1 a, b⟩
  · obtain ⟨cs', hc⟩ := hv _ e
    rw [hq] at hc
    cases hc
    cases ho
/-- What stands at the head of each of the two rounds that ask One. -/
def OnesInv (gx B : Nat) (w wc : World) (vk : Value) (wr : World) : Prop :=
  ∃ (k : Nat) (X : Value) (vs : List Value), vk = .int .i64 k ∧ k ≤ 2 ∧ TK gx B B X vs wr ∧ vs.length ≤ 140400 + 2 * k ∧ KeepS wc wr ∧ Below w.heap.size w wr ∧ wc.heap.size ≤ wr.heap.size
set_option maxHeartbeats 2000000 in
set_option maxRecDepth 100000 in
theorem own_walk (A : Option Addr) (capA : Nat) (za : List Int) (w : World) (hca : IntsAt w .u8 A za) (hza : ∀ n ∈ za, (Lit.int .u8 n).wf = true) (hcap0 : za.length ≤ capA) (hnil : A = none → capA = 0) :
    Calls Tryd.prog 8 #[.slice A za.length capA] w fun e w' => e = .returned (.bool true) ∧ Below w.heap.size w w' := by
  obtain ⟨i0, hi, hz0, hz1, hz2⟩ := info_parts infoByte
  obtain ⟨j0, hj, hy0, hy1, hy2⟩ := info_parts infoBs
  have hz' : ∀ z ∈ za.take 70000, 0 ≤ z ∧ z < 256 := fun z hz2 => byte_wf (hza z (List.mem_of_mem_take hz2))
  have hbl : (za.take 70000).length ≤ 70000 := by rw [List.length_take]; omega
  have HCUT := Lib.hid (cut_any za A capA w hca hcap0 hnil)
  clear hca hza
  generalize za.take 70000 = bs at hz' hbl HCUT
  have HZ := Lib.hid hz'
  clear hz'
  refine (callsIn_wide (n := 8)).1 ?_
  refine callsIn_of_wp_marks Tryd.func8 rfl trivial ?_ rfl
  simp only [Tryd.ntmps8, List.size_toArray, List.length_cons, List.length_nil, Nat.reduceAdd, Nat.reduceSub, Array.replicate_succ, Array.replicate_zero, List.push_toArray, List.append_toArray, List.nil_append, List.cons_append]
  refine wpIn_wide.2 ?_
  go_wp2_with (go_at_call 15; refine stop_o ?_)
  unfold StopO
  refine HCUT.out.mono ?_
  rintro e W1 ⟨v, rfl, ob, hb⟩
  obtain ⟨Xb, cb, rfl⟩ := owns_shape ob
  obtain ⟨n, hn⟩ : ∃ n, n = bs.length := ⟨_, rfl⟩
  rw [← hn] at ob hbl ⊢
  have HN := Lib.hid hn
  have HB := Lib.hid hb
  have HOB := Lib.hid ob
  have hcb := owned_cap ob
  clear hn hb ob HCUT
  have hbE : Below W1.heap.size W1 (W1.alloc (.cells #[] 5)) := (Below.refl _ _).alloc (Nat.le_refl _) _
  have HE := Lib.hid (own_empty W1)
  have HBE := Lib.hid hbE
  clear hbE
  go_upto_region 2 with fail
  go_cut [3] from 46 to 48 (fun s3 wx => ∃ (Y : Option Addr) (cy : Nat), s3 = .slice Y n cy ∧ wx.ownsRow W1.heap.size 5 1 (.slice Y n cy) n (byteVs bs) ∧ Below W1.heap.size W1 wx)
  case first =>
    cases Xb with
    | none =>
      have hn0 : n = 0 := by
        rcases HOB.out.2 with ⟨_, h⟩ | ⟨g, _, _, h, _⟩
        · exact h
        · cases h
      have hc0 : cb = 0 := by
        rcases HOB.out.2 with ⟨h, _⟩ | ⟨g, _, _, h, _⟩
        · injection h
        · cases h
      have hbn : bs = [] := List.eq_nil_of_length_eq_zero (by have := HN.out; omega)
      have HBN := Lib.hid hbn
      subst hn0
      subst hc0
      clear hbn
      go_wp2_with (at_builtin; refine wpList_append_own_none rfl _ _ 22 rfl W1.heap.size 5 i0 1 Tryd.underlying22 hi _ _ _ rfl HE.out rfl ?_)
      go_meet
      exact ⟨_, _, rfl, by rw [HBN.out]; exact HE.out, HBE.out⟩
    | some a =>
      have hsrc : IntsAt W1 .u8 (some a) bs := owned_ints (zs := bs) (c := cb) (B := w.heap.size) (by rw [← HN.out]; exact HOB.out)
      have HSRC := Lib.hid hsrc
      clear hsrc
      go_wp2_with (at_builtin; refine wpList_append_own _ rfl _ _ 22 rfl W1.heap.size 5 i0 (.int .u8 0) 1 1 Tryd.underlying22 hi hz0 hz1 hz2 rfl (by decide) _ _ _ rfl HE.out a n cb (byteVs bs) rfl ?c0 ?c1 ?c2 ?c3 ?c4 ?c5 ?_)
      case c0 => rw [byteVs_length, HN.out]; omega
      case c1 => exact bytes_src (ints_below HBE.out HSRC.out)
      case c2 => exact bytes_one
      case c3 => unfold maxLen; omega
      case c4 => omega
      case c5 => simp
      intro v' w2 hown2 hgrow _
      have hbb := bel_own HBE.out HE.out (Nat.le_refl _) hgrow
      obtain ⟨Y, cy, rfl⟩ := owns_shape hown2
      have HF := Lib.hid (⟨by simpa using hown2, hbb⟩ : w2.ownsRow W1.heap.size 5 1 (.slice Y n cy) n (byteVs bs) ∧ Below W1.heap.size W1 w2)
      have e0 : (Value.slice Y (0 + n) cy) = .slice Y n cy := by rw [Nat.zero_add]
      clear hown2 hgrow hbb
      go_wp2
      go_meet
      exact ⟨Y, cy, by simp, HF.out⟩
  case rest =>
    obtain ⟨Y, cy, rfl, oY, hbY⟩ := hcut
    have HZB := Lib.hid (fun (W : World) (h : W.ownsRow w.heap.size 5 1 (.slice Xb n cb) n (byteVs bs)) => (owned_ints (zs := bs) (c := cb) (B := w.heap.size) (by rw [← HN.out]; exact h) : IntsAt W .u8 Xb bs))
    have HC1 : Hid (∀ W, W.ownsRow w.heap.size 5 1 (.slice Xb n cb) n (byteVs bs) → Calls Tryd.prog 16 #[.slice Xb n cb] W (ScanOut bs W)) := Lib.hid (fun W h => by have := scan_any bs Xb cb W (HZB.out W h) HZ.out (by have := HN.out; omega) (by have := HN.out; omega); rwa [← HN.out] at this)
    have HC5 : Hid (∀ W, W.ownsRow w.heap.size 5 1 (.slice Xb n cb) n (byteVs bs) → Calls Tryd.prog 25 #[.slice Xb n cb] W (StartsOut bs W)) := Lib.hid (fun W h => by have := starts_any bs Xb cb W (HZB.out W h) HZ.out (by have := HN.out; omega); rwa [← HN.out] at this)
    have HC8 : Hid (∀ W, W.ownsRow w.heap.size 5 1 (.slice Xb n cb) n (byteVs bs) → Calls Tryd.prog 19 #[.slice Xb n cb] W fun e w' => ∃ g, e = .returned (.func (.func 40) #[] #[.pointer (some ⟨g, 0, none⟩)]) ∧ HeldAt bs W.heap.size g w' ∧ Below W.heap.size W w') := Lib.hid (fun W h => by have := codeall_any bs Xb cb W (HZB.out W h) (by have := HN.out; omega); rwa [← HN.out] at this)
    have HC2 : Hid (∀ W (p : Int), W.ownsRow w.heap.size 5 1 (.slice Xb n cb) n (byteVs bs) → Calls Tryd.prog 22 #[.slice Xb n cb, .int .i64 p] W fun e w' => ∃ v, e = .returned (.tuple #[insV (readE bs p).2 v, .int .i64 (readE bs p).1]) ∧ w'.ownsRow W.heap.size 5 1 v (readE bs p).2.imm.length (byteVs (readE bs p).2.imm) ∧ Below W.heap.size W w') := Lib.hid (fun W p h => by have := one_any bs Xb cb p W (HZB.out W h) HZ.out (by have := HN.out; omega) (by have := HN.out; omega); rwa [← HN.out] at this)
    obtain ⟨gx, hgx⟩ : ∃ gx, gx = wc.heap.size := ⟨_, rfl⟩
    have x0 := heap_alloc_before (heap_alloc_at wc (.cells #[.slice none 0 0] 50) gx hgx) (.cells #[.pointer (some ⟨gx, 0, none⟩)] 47)
    have p0 := heap_alloc_at (wc.alloc (.cells #[.slice none 0 0] 50)) (.cells #[.pointer (some ⟨gx, 0, none⟩)] 47) (gx + 1) (by simp [hgx])
    have hb2 : Below wc.heap.size wc ((wc.alloc (.cells #[.slice none 0 0] 50)).alloc (.cells #[.pointer (some ⟨gx, 0, none⟩)] 47)) := ((Below.refl _ _).alloc (Nat.le_refl _) _).alloc (by simp) _
    have ob1 := own_below (own_below HOB.out hbY) hb2
    have oy1 := own_below oY hb2
    have hB1 : Below w.heap.size w wc := HB.out.trans (hbY.mono HB.out.size)
    have hB2 := hB1.trans (hb2.mono hB1.size)
    have hgw : w.heap.size ≤ gx := by have := hB1.size; omega
    have HGX := Lib.hid hgx
    clear hgx hb2 oY hbY hB1 HOB HB HE HBE
    go_wp2_with (go_at_call 16; refine stop_o ?_)
    unfold StopO
    rw [← HGX.out]
    generalize (wc.alloc (.cells #[.slice none 0 0] 50)).alloc (.cells #[.pointer (some ⟨gx, 0, none⟩)] 47) = W2 at x0 p0 ob1 oy1 hB2 ⊢
    clear HGX
    have hw2 : w.heap.size ≤ W2.heap.size := hB2.size
    have HBL := Lib.hid (⟨fun q hq => (ob1.lt q hq).2, fun q hq => (oy1.lt q hq).2⟩ : (∀ q, (Value.slice Xb n cb).ownBlock = some q → q < W2.heap.size) ∧ (∀ q, (Value.slice Y n cy).ownBlock = some q → q < W2.heap.size))
    have tk2 : TK gx W2.heap.size W2.heap.size (.slice none 0 0) [] W2 := ⟨x0, World.ownsRow_nil _ _ _ _, fam_nil _ _⟩
    refine (HC1.out W2 ob1).mono ?_
    rintro e W3 ⟨xs, ys, v, hall, rfl, ho, hr, hri, hc, hb⟩
    obtain ⟨E, P, hEP⟩ : ∃ E P, scanE bs (xs.map Prod.fst) = (E, P) := ⟨_, _, rfl⟩
    rw [hEP] at hc ⊢
    dsimp only at hc ⊢
    obtain ⟨Vl, cl, rfl⟩ := owns_shape ho
    have hyl : ys.length ≤ 70000 ∧ ∀ y ∈ ys, y.1.imm.length ≤ 70000 := by
      have h1 := all_length hall
      have h2 := all_imm hall
      have h3 := HN.out
      rcases hc with ⟨_, rfl⟩ | ⟨_, rfl⟩
      · exact ⟨by omega, fun y hy => by have := h2 y hy; omega⟩
      · exact ⟨by simp, fun y hy => by cases hy⟩
    have HX := Lib.hid (⟨hall, hEP, hc, fam_rows hr hri hyl.2, hr⟩ : _ ∧ _ ∧ _ ∧ _ ∧ _)
    have hF3 := Lib.hid (⟨own_below ob1 hb, own_below oy1 hb, kept_of2 hb p0, tk_below tk2 hb, hB2.trans (hb.mono hB2.size), ho, hb.size⟩ : _ ∧ _ ∧ _ ∧ _ ∧ _ ∧ _ ∧ _)
    have hyl := hyl.1
    have HLB := Lib.hid (fun q hq => (ho.lt q hq).2 : ∀ q, (Value.slice Vl ys.length cl).ownBlock = some q → q < W3.heap.size)
    clear hall hEP hc hr hri ob1 oy1 p0 x0 hB2 ho hb tk2
    go_wp2_with (go_at_call 16; refine stop_o ?_)
    unfold StopO
    refine (HC1.out W3 hF3.out.1).mono ?_
    rintro e W4 ⟨xs2, ys2, v2, hall2, rfl, ho2, hr2, hri2, hc2, hb⟩
    rw [all_fst HX.out.1 hall2, HX.out.2.1] at hc2 ⊢
    dsimp only at hc2 ⊢
    obtain ⟨Vm, cm, rfl⟩ := owns_shape ho2
    have hyy : ys.map Prod.fst = ys2.map Prod.fst := by
      rcases HX.out.2.2.1 with ⟨h, rfl⟩ | ⟨h, rfl⟩
      · rcases hc2 with ⟨_, rfl⟩ | ⟨h2, _⟩
        · exact (all_fst HX.out.1 hall2).symm
        · exact absurd h h2
      · rcases hc2 with ⟨h2, _⟩ | ⟨_, rfl⟩
        · exact absurd h2 h
        · rfl
    have HYL2 : Hid (ys2.length = ys.length) := Lib.hid (by have := congrArg List.length hyy; simpa using this.symm)
    have hyi2 : ∀ y ∈ ys2, y.1.imm.length ≤ 70000 := by
      have h2 := all_imm hall2
      have h3 := HN.out
      rcases hc2 with ⟨_, rfl⟩ | ⟨_, rfl⟩
      · exact fun y hy => by have := h2 y hy; omega
      · exact fun y hy => by cases hy
    have HX2 := Lib.hid (⟨hyy, fam_rows hr2 hri2 hyi2, hr2⟩ : _ ∧ _ ∧ _)
    have hF4 := Lib.hid (⟨own_below hF3.out.1 hb, own_below hF3.out.2.1 hb, kept_of2 hb hF3.out.2.2.1, tk_below hF3.out.2.2.2.1 hb, hF3.out.2.2.2.2.1.trans (hb.mono hF3.out.2.2.2.2.1.size), own_below hF3.out.2.2.2.2.2.1 hb, ho2, fam_below HX.out.2.2.2.1 hb, hF3.out.2.2.2.2.2.2, hb.size⟩ : _ ∧ _ ∧ _ ∧ _ ∧ _ ∧ _ ∧ _ ∧ _ ∧ _ ∧ _)
    have HR4 := Lib.hid (fun x hx => own_below (HX.out.2.2.2.2 x hx) hb : RowsAt _ ys W4)
    clear hall2 hc2 hr2 hri2 hyi2 hyy ho2 hb hF3
    go_wp2_with (go_at_call 25; refine stop_o ?_)
    unfold StopO
    refine (HC5.out W4 hF4.out.1).mono ?_
    rintro e W5 ⟨rfl, xs5, _, hrow5, hb⟩
    rw [← HN.out] at hrow5 ⊢
    have hF5 := Lib.hid (⟨hb, own_below hF4.out.1 hb, hrow5⟩ : _ ∧ _ ∧ _)
    clear hb hrow5
    go_wp2_with (go_at_call 25; refine stop_o ?_)
    unfold StopO
    refine (HC5.out W5 hF5.out.2.1).mono ?_
    rintro e W6 ⟨rfl, xs6, _, hrow6, hb⟩
    rw [← HN.out] at hrow6 ⊢
    have hb46 := hF5.out.1.trans (hb.mono hF5.out.1.size)
    obtain ⟨zs5, os5⟩ := rowis_own (row_below hF5.out.2.2 hb) (by unfold maxLen; omega)
    obtain ⟨zs6, os6⟩ := rowis_own hrow6 (by unfold maxLen; omega)
    obtain ⟨g5, hg5⟩ : ∃ g5, g5 = W4.heap.size := ⟨_, rfl⟩
    obtain ⟨g6, hg6⟩ : ∃ g6, g6 = W5.heap.size := ⟨_, rfl⟩
    rw [← hg5] at os5
    rw [← hg6] at os6
    have hs45 := hF5.out.1.size
    have hs56 := hb.size
    have hg56 : W4.heap.size ≤ g5 ∧ g5 < g6 := by
      refine ⟨by omega, ?_⟩
      have := (own_lt os5).2
      have h2 := hF5.out.2.2.lt
      omega
    have HS := Lib.hid (⟨hb46, os5, os6⟩ : _ ∧ _ ∧ _)
    have HG5 := Lib.hid hg5
    have HG6 := Lib.hid hg6
    clear hb hb46 hrow6 os5 os6 hF5 HC5 hg5 hg6
    go_wp2_with (go_at_call 26; refine stop_o ?_)
    unfold StopO
    rw [← HG5.out, ← HG6.out]
    have ol6 := own_below hF4.out.2.2.2.2.2.1 HS.out.1
    have om6 := own_below hF4.out.2.2.2.2.2.2.1 HS.out.1
    refine (sameall_any ys ys2 _ _ W2.heap.size W3.heap.size W6 ol6 (fun x hx => own_below (HR4.out x hx) HS.out.1) om6 (fun x hx => own_below (HX2.out.2.2 x hx) HS.out.1) HX2.out.1 (by omega)).mono ?_
    rintro e W7 ⟨rfl, hb⟩
    have hb47 := HS.out.1.trans (hb.mono HS.out.1.size)
    have hF7 := Lib.hid (⟨own_below hF4.out.1 hb47, own_below hF4.out.2.1 hb47, kept_of2 hb47 hF4.out.2.2.1, tk_below hF4.out.2.2.2.1 hb47, hF4.out.2.2.2.2.1.trans (hb47.mono hF4.out.2.2.2.2.1.size), own_below hF4.out.2.2.2.2.2.1 hb47, own_below hF4.out.2.2.2.2.2.2.1 hb47, fam_below hF4.out.2.2.2.2.2.2.2.1 hb47, fam_below HX2.out.2.1 hb47, own_below HS.out.2.1 hb, own_below HS.out.2.2 hb⟩ : _ ∧ _ ∧ _ ∧ _ ∧ _ ∧ _ ∧ _ ∧ _ ∧ _ ∧ _ ∧ _)
    have hsz7 : W2.heap.size ≤ W3.heap.size ∧ W3.heap.size ≤ W4.heap.size ∧ W4.heap.size ≤ W7.heap.size := ⟨hF4.out.2.2.2.2.2.2.2.2.1, hF4.out.2.2.2.2.2.2.2.2.2, hb47.size⟩
    have HLF := Lib.hid (fun v hv b hb' => (fam_lt HX.out.2.2.2.1 v hv b hb').2 : ∀ v ∈ ys.map Prod.snd, ∀ b, v.ownBlock = some b → b < W3.heap.size)
    have HMF := Lib.hid (fun v hv b hb' => (fam_lt HX2.out.2.1 v hv b hb') : ∀ v ∈ ys2.map Prod.snd, ∀ b, v.ownBlock = some b → W3.heap.size ≤ b ∧ b < W4.heap.size)
    clear hb hb47 ol6 om6 HS hF4 HR4
    obtain ⟨pp0, pp1⟩ := cell_of1 hF7.out.2.2.1
    have hlen1 : (ys.map Prod.snd).length = ys.length := by simp
    have HT1 := Lib.hid (take_any gx W2.heap.size (.slice none 0 0) [] (ys.map Prod.snd) Vl cl W7 hF7.out.2.2.2.1.1 hF7.out.2.2.2.1.2.1 (by omega) (take_src hF7.out.2.2.2.1 hF7.out.2.2.2.2.2.1 rfl) (fam_shape hF7.out.2.2.2.2.2.2.2.1) (by simp; omega))
    rw [hlen1] at HT1
    clear hlen1
    go_wp2_with (go_at_call 27; refine stop_o ?_)
    unfold StopO
    clear pp0 pp1
    refine HT1.out.mono ?_
    rintro e W8 ⟨rfl, ht⟩
    obtain ⟨X8, tk8, -⟩ := tk_take hF7.out.2.2.2.1 ht (fam_take hF7.out.2.2.2.2.2.2.2.1 200) (fun x hx => by cases hx)
    have ks8 := take_keeps hF7.out.2.2.2.1 ht
    have hB8 : Below w.heap.size w W8 := by
      obtain ⟨_, _, _, _, _, _, h⟩ := ht
      exact hF7.out.2.2.2.2.1.trans (h w.heap.size hgw hw2 (by omega))
    have hs8 : W7.heap.size ≤ W8.heap.size := by obtain ⟨_, _, _, h, _⟩ := ht; exact h
    have hF8 := Lib.hid (⟨own_keeps hF7.out.1 ks8 (by decide) (by decide), own_keeps hF7.out.2.1 ks8 (by decide) (by decide), ks8 _ _ hF7.out.2.2.1 (fun cs => ⟨(fun e => by cases e), (fun e => by cases e)⟩), tk8, hB8, own_keeps hF7.out.2.2.2.2.2.1 ks8 (by decide) (by decide), own_keeps hF7.out.2.2.2.2.2.2.1 ks8 (by decide) (by decide), fam_keeps hF7.out.2.2.2.2.2.2.2.2.1 ks8, own_keeps hF7.out.2.2.2.2.2.2.2.2.2.1 ks8 (by decide) (by decide), own_keeps hF7.out.2.2.2.2.2.2.2.2.2.2 ks8 (by decide) (by decide)⟩ : _ ∧ _ ∧ _ ∧ _ ∧ _ ∧ _ ∧ _ ∧ _ ∧ _ ∧ _)
    clear ht tk8 ks8 hB8 hF7 HT1
    obtain ⟨pp0, pp1⟩ := cell_of1 hF8.out.2.2.1
    have hlen2 : (ys2.map Prod.snd).length = ys2.length := by simp
    have HT2 := Lib.hid (take_any gx W2.heap.size X8 ([] ++ (ys.map Prod.snd).take 200) (ys2.map Prod.snd) Vm cm W8 hF8.out.2.2.2.1.1 hF8.out.2.2.2.1.2.1 (by omega) (take_src hF8.out.2.2.2.1 hF8.out.2.2.2.2.2.2.1 rfl) (fam_shape hF8.out.2.2.2.2.2.2.2.1) (by have := HYL2.out; simp; omega))
    rw [hlen2] at HT2
    clear hlen2
    go_wp2_with (go_at_call 27; refine stop_o ?_)
    unfold StopO
    clear pp0 pp1
    refine HT2.out.mono ?_
    rintro e W9 ⟨rfl, ht⟩
    obtain ⟨X9, tk9, -⟩ := tk_take hF8.out.2.2.2.1 ht (fam_take (fam_le hF8.out.2.2.2.2.2.2.2.1 hsz7.1) 200) (fun x hx y hy a b ha hb => by
      rw [List.nil_append] at hx
      have h1 := HLF.out x (List.mem_of_mem_take hx) a ha
      have h2 := (HMF.out y (List.mem_of_mem_take hy) b hb).1
      omega)
    have ks9 := take_keeps hF8.out.2.2.2.1 ht
    have hB9 : Below w.heap.size w W9 := by
      obtain ⟨_, _, _, _, _, _, h⟩ := ht
      exact hF8.out.2.2.2.2.1.trans (h w.heap.size hgw hw2 (by omega))
    have hs9 : W8.heap.size ≤ W9.heap.size := by obtain ⟨_, _, _, h, _⟩ := ht; exact h
    obtain ⟨va, hva⟩ : ∃ va, va = [] ++ (ys.map Prod.snd).take 200 ++ (ys2.map Prod.snd).take 200 := ⟨_, rfl⟩
    rw [← hva] at tk9
    have hval : va.length ≤ 400 := by rw [hva]; have := HYL2.out; simp; omega
    have hF9 := Lib.hid (⟨own_keeps hF8.out.1 ks9 (by decide) (by decide), own_keeps hF8.out.2.1 ks9 (by decide) (by decide), ks9 _ _ hF8.out.2.2.1 (fun cs => ⟨(fun e => by cases e), (fun e => by cases e)⟩), tk9, hB9, own_keeps hF8.out.2.2.2.2.2.1 ks9 (by decide) (by decide), own_keeps hF8.out.2.2.2.2.2.2.1 ks9 (by decide) (by decide), own_keeps hF8.out.2.2.2.2.2.2.2.2.1 ks9 (by decide) (by decide), own_keeps hF8.out.2.2.2.2.2.2.2.2.2 ks9 (by decide) (by decide)⟩ : _ ∧ _ ∧ _ ∧ _ ∧ _ ∧ _ ∧ _ ∧ _ ∧ _)
    clear ht tk9 ks9 hB9 hF8 HT2 hva HLF HMF HX2
    go_wp2_with (go_at_call 19; refine stop_o ?_)
    unfold StopO
    refine (HC8.out W9 hF9.out.1).mono ?_
    rintro e WA ⟨gA, rfl, hheld, hb⟩
    have hsA := hb.size
    have hFA := Lib.hid (⟨own_below hF9.out.1 hb, own_below hF9.out.2.1 hb, kept_of2 hb hF9.out.2.2.1, tk_below hF9.out.2.2.2.1 hb, hF9.out.2.2.2.2.1.trans (hb.mono hF9.out.2.2.2.2.1.size), own_below hF9.out.2.2.2.2.2.1 hb, own_below hF9.out.2.2.2.2.2.2.1 hb, own_below hF9.out.2.2.2.2.2.2.2.1 hb, own_below hF9.out.2.2.2.2.2.2.2.2 hb⟩ : _ ∧ _ ∧ _ ∧ _ ∧ _ ∧ _ ∧ _ ∧ _ ∧ _)
    have hX9 : ∀ b, X9.ownBlock = some b → b < W9.heap.size := fun b hb' => (hF9.out.2.2.2.1.2.1.lt b hb').2
    have hgx9 : gx < W9.heap.size := (Array.getElem?_eq_some_iff.1 hF9.out.2.2.2.1.1).1
    have hrun1 : Sem.run Tryd.prog (binOp BinOp.eql 37 (.func (.func 40) #[] #[.pointer (some ⟨gA, 0, none⟩)]) .nilFunc) WA = .ok (.bool false) WA := by kernel_rfl
    have HH := Lib.hid hheld
    clear hb hF9 hheld
    go_wp2
    clear hrun1
    have hwW0 : w.heap.size ≤ WA.heap.size := hFA.out.2.2.2.2.1.size
    have hgxW0 : gx < WA.heap.size := by omega
    have hX0W0 : ∀ b, X9.ownBlock = some b → b < WA.heap.size := fun b hb => by have := hX9 b hb; omega
    have hva0 : ∀ v ∈ va, ∀ b, v.ownBlock = some b → b < WA.heap.size := fun v hv b hb => (fam_lt hFA.out.2.2.2.1.2.2 v hv b hb).2
    have hgxB := hgx9
    have hXB := hX9
    refine (wpIn_wide (n := 8)).1 ?_
    refine wpIn_rangeF rfl (by omega) (gf := 40) (lb := #[.pointer (some ⟨gA, 0, none⟩)]) rfl trivial (enters_of Tryd.func40 (by kernel_rfl) rfl) (all1_seq bs HZ.out (by have := HN.out; omega) gA W9.heap.size 4 WA) (Below.refl _ _) (fun _ => rfl)
      (fun pre W => RgInv gx W2.heap.size W2.heap.size X9 va w WA pre W) (fun _ _ _ => False) (fun s W W' row hs hg hr => rg_kept hwW0 hs hg hr) (fun _ _ _ _ _ h _ _ => h)
      ⟨X9, by simpa using hFA.out.2.2.2.1, fun _ _ _ _ => rfl, Nat.le_refl _, fun b h => .inl h, hFA.out.2.2.2.2.1, fun x hx => by cases hx⟩
      (fun pre W h => rg_held h HH.out hgxB hXB)
      (fun pre x r a' W => (a'.tmps.size = 352 ∧ a'.defers = []) ∧ ∃ Bx X c Xc, WA.heap.size ≤ Bx ∧ WA.heap.size ≤ r ∧ Bx ≠ r ∧ x.2 = .slice X x.1.imm.length c ∧ W.heap[Bx]? = some (.cells #[.int .i64 x.1.at_, .int .i64 x.1.code, .slice X x.1.imm.length c, .int .i64 x.1.next] 34 (0, 0)) ∧
        W.ownsRow WA.heap.size 5 1 (.slice X x.1.imm.length c) x.1.imm.length (byteVs x.1.imm) ∧ (W.heap[gx]? = some (.cells #[Xc] 50 (0, 0)) ∧ ∀ b, Xc.ownBlock = some b → b < r ∧ b < Bx) ∧
        ((∃ p, Reads bs (pre.map Prod.fst) p ∧ readE bs p = (0, x.1)) ∧ ∀ q ∈ pre, ∀ a b, q.2.ownBlock = some a → x.2.ownBlock = some b → a < b) ∧ a'.tmps.getD 4 undef = .pointer (some ⟨gx + 1, 0, none⟩) ∧ a'.tmps.getD 14 undef = .pointer (some ⟨Bx, 0, none⟩))
      (fun pre x r a' _ W W' row hs hg hr => by
        obtain ⟨h0, Bx, X, c, Xc, h1, h2, h3, h4, h5, h6, ⟨h7, h8⟩, h9⟩ := hs
        exact ⟨h0, Bx, X, c, Xc, h1, h2, h3, h4, blk_stays h5 hg hr, own_stays h6 hg hr, ⟨blk_stays h7 hg hr, h8⟩, h9⟩) ?assign ?body ?done ?stop
    case assign =>
      rintro l pre ⟨i2, v2⟩ W o2 K2 hi2 ⟨hrd, hown, hris⟩ ho2 hK2
      change W.ownsRow WA.heap.size 5 1 v2 i2.imm.length (byteVs i2.imm) at hown
      obtain ⟨X, c2, rfl⟩ := owns_shape hown
      unfold elV insV
      gi_wp2
      have hsz2 : ((W.alloc o2).alloc (.cells #[.int .i64 i2.at_, .int .i64 i2.code, .slice X i2.imm.length c2, .int .i64 i2.next] 34)).heap[W.heap.size]? = some o2 := (Below.heap_alloc _ _ _ (by simp)).trans (heap_alloc_new _ _)
      have hg2 : W.grownBy ((W.alloc o2).alloc (.cells #[.int .i64 i2.at_, .int .i64 i2.code, .slice X i2.imm.length c2, .int .i64 i2.next] 34)) none := grownBy_below (((Below.refl _ W).alloc (Nat.le_refl _) _).alloc (by simp) _)
      have hi3 := rg_kept hwW0 hi2 hg2 (fun r e => by cases e)
      have ho3 := own_stays (B := 0) hown hg2 (fun r e => by cases e)
      obtain ⟨Xc, tk, _, hWs, _⟩ := hi2
      exact hK2 _ _ ((KeepsOthers.alloc _ _).from _) hi3 ⟨⟨rfl, rfl⟩, W.heap.size + 1, X, c2, Xc, by omega, hWs, by omega, rfl, heap_alloc_at _ _ _ (by simp), ho3, ⟨blk_stays (B := 0) tk.1 hg2 (fun r e => by cases e), fun b hb => by have := (tk.2.1.lt b hb).2; omega⟩, ⟨hrd, hris⟩, rfl, rfl⟩ hsz2
    case body =>
      rintro l pre ⟨i2, v2⟩ r2 o2 ⟨tm, ds2⟩ W hl2 _ hrg ⟨⟨hsz, hds⟩, Bx, X, c2, Xc, hBx, hr2, hne2, hv, hx, hown, ⟨hxc, hxb⟩, ⟨⟨p2, hp1, hp2⟩, hris⟩, e4, eb⟩ hro2 ho2
      dsimp only at hsz hds hv hx hown hp2 hris e4 eb
      subst hv hds
      obtain ⟨u, hu, ha⟩ := frame_open (a := { tmps := tm, defers := [] }) hsz
      dsimp only at hu ha
      rw [hu] at e4 eb
      have ha2 : tm = #[u 0, u 1, u 2, u 3, u 4, u 5, u 6, u 7, u 8, u 9, u 10, u 11, u 12, u 13, u 14, u 15, u 16, u 17, u 18, u 19, u 20, u 21, u 22, u 23, u 24, u 25, u 26, u 27, u 28, u 29, u 30, u 31, u 32, u 33, u 34, u 35, u 36, u 37, u 38, u 39, u 40, u 41, u 42, u 43, u 44, u 45, u 46, u 47, u 48, u 49, u 50, u 51, u 52, u 53, u 54, u 55, u 56, u 57, u 58, u 59, u 60, u 61, u 62, u 63, u 64, u 65, u 66, u 67, u 68, u 69, u 70, u 71, u 72, u 73, u 74, u 75, u 76, u 77, u 78, u 79, u 80, u 81, u 82, u 83, u 84, u 85, u 86, u 87, u 88, u 89, u 90, u 91, u 92, u 93, u 94, u 95, u 96, u 97, u 98, u 99, u 100, u 101, u 102, u 103, u 104, u 105, u 106, u 107, u 108, u 109, u 110, u 111, u 112, u 113, u 114, u 115, u 116, u 117, u 118, u 119, u 120, u 121, u 122, u 123, u 124, u 125, u 126, u 127, u 128, u 129, u 130, u 131, u 132, u 133, u 134, u 135, u 136, u 137, u 138, u 139, u 140, u 141, u 142, u 143, u 144, u 145, u 146, u 147, u 148, u 149, u 150, u 151, u 152, u 153, u 154, u 155, u 156, u 157, u 158, u 159, u 160, u 161, u 162, u 163, u 164, u 165, u 166, u 167, u 168, u 169, u 170, u 171, u 172, u 173, u 174, u 175, u 176, u 177, u 178, u 179, u 180, u 181, u 182, u 183, u 184, u 185, u 186, u 187, u 188, u 189, u 190, u 191, u 192, u 193, u 194, u 195, u 196, u 197, u 198, u 199, u 200, u 201, u 202, u 203, u 204, u 205, u 206, u 207, u 208, u 209, u 210, u 211, u 212, u 213, u 214, u 215, u 216, u 217, u 218, u 219, u 220, u 221, u 222, u 223, u 224, u 225, u 226, u 227, u 228, u 229, u 230, u 231, u 232, u 233, u 234, u 235, u 236, u 237, u 238, u 239, u 240, u 241, u 242, u 243, u 244, u 245, u 246, u 247, u 248, u 249, u 250, u 251, u 252, u 253, u 254, u 255, u 256, u 257, u 258, u 259, u 260, u 261, u 262, u 263, u 264, u 265, u 266, u 267, u 268, u 269, u 270, u 271, u 272, u 273, u 274, u 275, u 276, u 277, u 278, u 279, u 280, u 281, u 282, u 283, u 284, u 285, u 286, u 287, u 288, u 289, u 290, u 291, u 292, u 293, u 294, u 295, u 296, u 297, u 298, u 299, u 300, u 301, u 302, u 303, u 304, u 305, u 306, u 307, u 308, u 309, u 310, u 311, u 312, u 313, u 314, u 315, u 316, u 317, u 318, u 319, u 320, u 321, u 322, u 323, u 324, u 325, u 326, u 327, u 328, u 329, u 330, u 331, u 332, u 333, u 334, u 335, u 336, u 337, u 338, u 339, u 340, u 341, u 342, u 343, u 344, u 345, u 346, u 347, u 348, u 349, u 350, u 351] := (Act.mk.inj ha).1
      rw [e4, eb] at ha2
      subst ha2
      obtain ⟨Xc', tk, g4, g5, g6, g7, g8⟩ := hrg
      have hXc : Xc' = Xc := by
        have := tk.1.symm.trans hxc
        simpa using this
      subst hXc
      have hpre : pre.length ≤ 70000 := by have h1 := reads_length hp1; rw [List.length_map] at h1; have := HN.out; omega
      have him := (read_next hp2).2.2.2.2.2
      have hpp := (g4 (gx + 1) (by have := (Array.getElem?_eq_some_iff.1 hFA.out.2.2.1).1; omega) (by omega) (fun e => by
        obtain ⟨cs, hc⟩ := own_block hFA.out.2.2.2.1.2.1 e
        rw [hFA.out.2.2.1] at hc
        cases hc)).trans hFA.out.2.2.1
      have hba : Below W.heap.size W (W.alloc (.cells #[.int .i64 i2.at_, .int .i64 i2.code, .slice X i2.imm.length c2, .int .i64 i2.next] 34)) := (Below.refl _ _).alloc (Nat.le_refl _) _
      have hnew := heap_alloc_at W (.cells #[.int .i64 i2.at_, .int .i64 i2.code, .slice X i2.imm.length c2, .int .i64 i2.next] 34) _ rfl
      have tk1 := tk_below tk hba
      have HT := Lib.hid (take_any gx W2.heap.size Xc' (va ++ pre.map Prod.snd) [.slice X i2.imm.length c2] (some ⟨W.heap.size, 0, none⟩) 1 _ tk1.1 tk1.2.1 (by simp; omega) (by
        intro i hi
        obtain rfl : i = 0 := by simpa using hi
        refine ⟨W.heap.size, rfl, by have := (Array.getElem?_eq_some_iff.1 tk.1).1; omega, fun e => by have := (tk.2.1.lt _ e).2; omega, ?_⟩
        simp) (by intro v hv; rw [List.mem_singleton.1 hv]; exact ⟨_, _, _, rfl⟩) (by simp; omega))
      have HST := Lib.hid (fun W' (ht : TakeOut gx W2.heap.size Xc' (va ++ pre.map Prod.snd) [.slice X i2.imm.length c2] (W.alloc (.cells #[.int .i64 i2.at_, .int .i64 i2.code, .slice X i2.imm.length c2, .int .i64 i2.next] 34)) W') => rg_step (x := (i2, .slice X i2.imm.length c2)) hgw hw2 hgxW0 hX0W0 tk g4 g5 g6 g7 g8 hba ht (fam_one (owns_le hown (by omega)) (by have := HN.out; omega)) (fun b hb => (hown.lt b hb).1) hva0 hris hro2 hr2 (fun b hb => (hxb b hb).1))
      obtain ⟨k0, k1, k2, k3, kz, kl⟩ := cells4 hx
      obtain ⟨q0, q1⟩ := cell_of1 hpp
      clear tk g4 g5 g6 g7 g8 hba hnew tk1 hro2 hown hxb hxc hp1 hp2 hris hu ha e4 eb hsz
      gi_wp2_with (refine ⟨trivial, ?_⟩; gi_at_call 27; refine (CallsIn.inRound l (callsIn_wide.2 HT.out)).mono ?_; rintro e W' ⟨rfl, ht⟩)
      exact HST.out _ ht
    case stop =>
      rintro D c pre W hD hpre hn hK
      exact hn.elim

    case done =>
      rintro D xs3 WB hD hall3 hrg hK3
      have ks := rg_keeps hrg hFA.out.2.2.2.1
      obtain ⟨XB, tkB, -, hsB, -, hBB, -⟩ := hrg
      have hl3 : xs3.length ≤ 70000 := by have := all_length hall3; have := HN.out; omega
      obtain ⟨vb, hvb⟩ : ∃ vb, vb = va ++ xs3.map Prod.snd := ⟨_, rfl⟩
      rw [← hvb] at tkB
      have hvbl : vb.length ≤ 70400 := by rw [hvb]; simp; omega
      have hFB := Lib.hid (⟨own_keeps hFA.out.1 ks (by decide) (by decide), own_keeps hFA.out.2.1 ks (by decide) (by decide), ks _ _ hFA.out.2.2.1 (fun cs => ⟨(fun e => by cases e), (fun e => by cases e)⟩), tkB, hBB, own_keeps hFA.out.2.2.2.2.2.1 ks (by decide) (by decide), own_keeps hFA.out.2.2.2.2.2.2.1 ks (by decide) (by decide), own_keeps hFA.out.2.2.2.2.2.2.2.1 ks (by decide) (by decide), own_keeps hFA.out.2.2.2.2.2.2.2.2 ks (by decide) (by decide)⟩ : _ ∧ _ ∧ _ ∧ _ ∧ _ ∧ _ ∧ _ ∧ _ ∧ _)
      have HK3 := Lib.hid hK3
      clear ks tkB hBB hall3 hK3 hvb hX9 hXB hX0W0 hva0 hFA HH
      dsimp only
      go_wp2_with (go_at_call 19; refine stop_o ?_)
      unfold StopO
      refine (HC8.out WB hFB.out.1).mono ?_
      rintro e WC ⟨gC, rfl, hheld, hb⟩
      have hsC := hb.size
      have hFC := Lib.hid (⟨own_below hFB.out.1 hb, own_below hFB.out.2.1 hb, kept_of2 hb hFB.out.2.2.1, tk_below hFB.out.2.2.2.1 hb, hFB.out.2.2.2.2.1.trans (hb.mono hFB.out.2.2.2.2.1.size), own_below hFB.out.2.2.2.2.2.1 hb, own_below hFB.out.2.2.2.2.2.2.1 hb, own_below hFB.out.2.2.2.2.2.2.2.1 hb, own_below hFB.out.2.2.2.2.2.2.2.2 hb⟩ : _ ∧ _ ∧ _ ∧ _ ∧ _ ∧ _ ∧ _ ∧ _ ∧ _)
      have HD := Lib.hid (kept_of2 hb HK3.out)
      have hX0W0 : ∀ b, XB.ownBlock = some b → b < WC.heap.size := fun b hb' => by have := (hFB.out.2.2.2.1.2.1.lt b hb').2; omega
      have hXB : ∀ b, XB.ownBlock = some b → b < WB.heap.size := fun b hb' => (hFB.out.2.2.2.1.2.1.lt b hb').2
      have hrun1 : Sem.run Tryd.prog (binOp BinOp.eql 37 (.func (.func 40) #[] #[.pointer (some ⟨gC, 0, none⟩)]) .nilFunc) WC = .ok (.bool false) WC := by kernel_rfl
      have HH := Lib.hid hheld
      have HXB := Lib.hid hXB
      have HX0W0 := Lib.hid hX0W0
      clear hb hFB hheld HK3 hwW0 hgxW0 hgxB hXB hX0W0
      go_wp2
      clear hrun1
      have hwW0 : w.heap.size ≤ WC.heap.size := hFC.out.2.2.2.2.1.size
      have hgxW0 : gx < WC.heap.size := by omega
      have hX0W0 := HX0W0.out
      have hXB := HXB.out
      have hva0 : ∀ v ∈ vb, ∀ b, v.ownBlock = some b → b < WC.heap.size := fun v hv b hb => (fam_lt hFC.out.2.2.2.1.2.2 v hv b hb).2
      have hgxB : gx < WB.heap.size := by omega
      refine (wpIn_wide (n := 8)).1 ?_
      refine wpIn_rangeF rfl (by omega) (gf := 40) (lb := #[.pointer (some ⟨gC, 0, none⟩)]) rfl trivial (enters_of Tryd.func40 (by kernel_rfl) rfl) (all1_seq bs HZ.out (by have := HN.out; omega) gC WB.heap.size 4 WC) (Below.refl _ _) (fun _ => rfl)
        (fun pre W => RgInv gx W2.heap.size W2.heap.size XB vb w WC pre W) (fun _ _ _ => False) (fun s W W' row hs hg hr => rg_kept hwW0 hs hg hr) (fun _ _ _ _ _ h _ _ => h)
        ⟨XB, by simpa using hFC.out.2.2.2.1, fun _ _ _ _ => rfl, Nat.le_refl _, fun b h => .inl h, hFC.out.2.2.2.2.1, fun x hx => by cases hx⟩
        (fun pre W h => rg_held h HH.out hgxB hXB)
        (fun pre x r a' W => (a'.tmps.size = 352 ∧ a'.defers = []) ∧ ∃ Bx X c Xc, WC.heap.size ≤ Bx ∧ WC.heap.size ≤ r ∧ Bx ≠ r ∧ x.2 = .slice X x.1.imm.length c ∧ W.heap[Bx]? = some (.cells #[.int .i64 x.1.at_, .int .i64 x.1.code, .slice X x.1.imm.length c, .int .i64 x.1.next] 34 (0, 0)) ∧
          W.ownsRow WC.heap.size 5 1 (.slice X x.1.imm.length c) x.1.imm.length (byteVs x.1.imm) ∧ (W.heap[gx]? = some (.cells #[Xc] 50 (0, 0)) ∧ ∀ b, Xc.ownBlock = some b → b < r ∧ b < Bx) ∧
          ((∃ p, Reads bs (pre.map Prod.fst) p ∧ readE bs p = (0, x.1)) ∧ ∀ q ∈ pre, ∀ a b, q.2.ownBlock = some a → x.2.ownBlock = some b → a < b) ∧ a'.tmps.getD 4 undef = .pointer (some ⟨gx + 1, 0, none⟩) ∧ a'.tmps.getD 16 undef = .pointer (some ⟨Bx, 0, none⟩))
        (fun pre x r a' _ W W' row hs hg hr => by
          obtain ⟨h0, Bx, X, c, Xc, h1, h2, h3, h4, h5, h6, ⟨h7, h8⟩, h9⟩ := hs
          exact ⟨h0, Bx, X, c, Xc, h1, h2, h3, h4, blk_stays h5 hg hr, own_stays h6 hg hr, ⟨blk_stays h7 hg hr, h8⟩, h9⟩) ?assign ?body ?done ?stop
      case assign =>
        rintro l pre ⟨i2, v2⟩ W o2 K2 hi2 ⟨hrd, hown, hris⟩ ho2 hK2
        change W.ownsRow WC.heap.size 5 1 v2 i2.imm.length (byteVs i2.imm) at hown
        obtain ⟨X, c2, rfl⟩ := owns_shape hown
        unfold elV insV
        gi_wp2
        have hsz2 : ((W.alloc o2).alloc (.cells #[.int .i64 i2.at_, .int .i64 i2.code, .slice X i2.imm.length c2, .int .i64 i2.next] 34)).heap[W.heap.size]? = some o2 := (Below.heap_alloc _ _ _ (by simp)).trans (heap_alloc_new _ _)
        have hg2 : W.grownBy ((W.alloc o2).alloc (.cells #[.int .i64 i2.at_, .int .i64 i2.code, .slice X i2.imm.length c2, .int .i64 i2.next] 34)) none := grownBy_below (((Below.refl _ W).alloc (Nat.le_refl _) _).alloc (by simp) _)
        have hi3 := rg_kept hwW0 hi2 hg2 (fun r e => by cases e)
        have ho3 := own_stays (B := 0) hown hg2 (fun r e => by cases e)
        obtain ⟨Xc, tk, _, hWs, _⟩ := hi2
        exact hK2 _ _ ((KeepsOthers.alloc _ _).from _) hi3 ⟨⟨rfl, rfl⟩, W.heap.size + 1, X, c2, Xc, by omega, hWs, by omega, rfl, heap_alloc_at _ _ _ (by simp), ho3, ⟨blk_stays (B := 0) tk.1 hg2 (fun r e => by cases e), fun b hb => by have := (tk.2.1.lt b hb).2; omega⟩, ⟨hrd, hris⟩, rfl, rfl⟩ hsz2
      case body =>
        rintro l pre ⟨i2, v2⟩ r2 o2 ⟨tm, ds2⟩ W hl2 _ hrg ⟨⟨hsz, hds⟩, Bx, X, c2, Xc, hBx, hr2, hne2, hv, hx, hown, ⟨hxc, hxb⟩, ⟨⟨p2, hp1, hp2⟩, hris⟩, e4, eb⟩ hro2 ho2
        dsimp only at hsz hds hv hx hown hp2 hris e4 eb
        subst hv hds
        obtain ⟨u, hu, ha⟩ := frame_open (a := { tmps := tm, defers := [] }) hsz
        dsimp only at hu ha
        rw [hu] at e4 eb
        have ha2 : tm = #[u 0, u 1, u 2, u 3, u 4, u 5, u 6, u 7, u 8, u 9, u 10, u 11, u 12, u 13, u 14, u 15, u 16, u 17, u 18, u 19, u 20, u 21, u 22, u 23, u 24, u 25, u 26, u 27, u 28, u 29, u 30, u 31, u 32, u 33, u 34, u 35, u 36, u 37, u 38, u 39, u 40, u 41, u 42, u 43, u 44, u 45, u 46, u 47, u 48, u 49, u 50, u 51, u 52, u 53, u 54, u 55, u 56, u 57, u 58, u 59, u 60, u 61, u 62, u 63, u 64, u 65, u 66, u 67, u 68, u 69, u 70, u 71, u 72, u 73, u 74, u 75, u 76, u 77, u 78, u 79, u 80, u 81, u 82, u 83, u 84, u 85, u 86, u 87, u 88, u 89, u 90, u 91, u 92, u 93, u 94, u 95, u 96, u 97, u 98, u 99, u 100, u 101, u 102, u 103, u 104, u 105, u 106, u 107, u 108, u 109, u 110, u 111, u 112, u 113, u 114, u 115, u 116, u 117, u 118, u 119, u 120, u 121, u 122, u 123, u 124, u 125, u 126, u 127, u 128, u 129, u 130, u 131, u 132, u 133, u 134, u 135, u 136, u 137, u 138, u 139, u 140, u 141, u 142, u 143, u 144, u 145, u 146, u 147, u 148, u 149, u 150, u 151, u 152, u 153, u 154, u 155, u 156, u 157, u 158, u 159, u 160, u 161, u 162, u 163, u 164, u 165, u 166, u 167, u 168, u 169, u 170, u 171, u 172, u 173, u 174, u 175, u 176, u 177, u 178, u 179, u 180, u 181, u 182, u 183, u 184, u 185, u 186, u 187, u 188, u 189, u 190, u 191, u 192, u 193, u 194, u 195, u 196, u 197, u 198, u 199, u 200, u 201, u 202, u 203, u 204, u 205, u 206, u 207, u 208, u 209, u 210, u 211, u 212, u 213, u 214, u 215, u 216, u 217, u 218, u 219, u 220, u 221, u 222, u 223, u 224, u 225, u 226, u 227, u 228, u 229, u 230, u 231, u 232, u 233, u 234, u 235, u 236, u 237, u 238, u 239, u 240, u 241, u 242, u 243, u 244, u 245, u 246, u 247, u 248, u 249, u 250, u 251, u 252, u 253, u 254, u 255, u 256, u 257, u 258, u 259, u 260, u 261, u 262, u 263, u 264, u 265, u 266, u 267, u 268, u 269, u 270, u 271, u 272, u 273, u 274, u 275, u 276, u 277, u 278, u 279, u 280, u 281, u 282, u 283, u 284, u 285, u 286, u 287, u 288, u 289, u 290, u 291, u 292, u 293, u 294, u 295, u 296, u 297, u 298, u 299, u 300, u 301, u 302, u 303, u 304, u 305, u 306, u 307, u 308, u 309, u 310, u 311, u 312, u 313, u 314, u 315, u 316, u 317, u 318, u 319, u 320, u 321, u 322, u 323, u 324, u 325, u 326, u 327, u 328, u 329, u 330, u 331, u 332, u 333, u 334, u 335, u 336, u 337, u 338, u 339, u 340, u 341, u 342, u 343, u 344, u 345, u 346, u 347, u 348, u 349, u 350, u 351] := (Act.mk.inj ha).1
        rw [e4, eb] at ha2
        subst ha2
        obtain ⟨Xc', tk, g4, g5, g6, g7, g8⟩ := hrg
        have hXc : Xc' = Xc := by
          have := tk.1.symm.trans hxc
          simpa using this
        subst hXc
        have hpre : pre.length ≤ 70000 := by have h1 := reads_length hp1; rw [List.length_map] at h1; have := HN.out; omega
        have him := (read_next hp2).2.2.2.2.2
        have hpp := (g4 (gx + 1) (by have := (Array.getElem?_eq_some_iff.1 hFC.out.2.2.1).1; omega) (by omega) (fun e => by
          obtain ⟨cs, hc⟩ := own_block hFC.out.2.2.2.1.2.1 e
          rw [hFC.out.2.2.1] at hc
          cases hc)).trans hFC.out.2.2.1
        have hba : Below W.heap.size W (W.alloc (.cells #[.int .i64 i2.at_, .int .i64 i2.code, .slice X i2.imm.length c2, .int .i64 i2.next] 34)) := (Below.refl _ _).alloc (Nat.le_refl _) _
        have hnew := heap_alloc_at W (.cells #[.int .i64 i2.at_, .int .i64 i2.code, .slice X i2.imm.length c2, .int .i64 i2.next] 34) _ rfl
        have tk1 := tk_below tk hba
        have HT := Lib.hid (take_any gx W2.heap.size Xc' (vb ++ pre.map Prod.snd) [.slice X i2.imm.length c2] (some ⟨W.heap.size, 0, none⟩) 1 _ tk1.1 tk1.2.1 (by simp; omega) (by
          intro i hi
          obtain rfl : i = 0 := by simpa using hi
          refine ⟨W.heap.size, rfl, by have := (Array.getElem?_eq_some_iff.1 tk.1).1; omega, fun e => by have := (tk.2.1.lt _ e).2; omega, ?_⟩
          simp) (by intro v hv; rw [List.mem_singleton.1 hv]; exact ⟨_, _, _, rfl⟩) (by simp; omega))
        have HST := Lib.hid (fun W' (ht : TakeOut gx W2.heap.size Xc' (vb ++ pre.map Prod.snd) [.slice X i2.imm.length c2] (W.alloc (.cells #[.int .i64 i2.at_, .int .i64 i2.code, .slice X i2.imm.length c2, .int .i64 i2.next] 34)) W') => rg_step (x := (i2, .slice X i2.imm.length c2)) hgw hw2 hgxW0 hX0W0 tk g4 g5 g6 g7 g8 hba ht (fam_one (owns_le hown (by omega)) (by have := HN.out; omega)) (fun b hb => (hown.lt b hb).1) hva0 hris hro2 hr2 (fun b hb => (hxb b hb).1))
        obtain ⟨k0, k1, k2, k3, kz, kl⟩ := cells4 hx
        obtain ⟨q0, q1⟩ := cell_of1 hpp
        clear tk g4 g5 g6 g7 g8 hba hnew tk1 hro2 hown hxb hxc hp1 hp2 hris hu ha e4 eb hsz
        gi_wp2_with (refine ⟨trivial, ?_⟩; gi_at_call 27; refine (CallsIn.inRound l (callsIn_wide.2 HT.out)).mono ?_; rintro e W' ⟨rfl, ht⟩)
        exact HST.out _ ht
      case stop =>
        rintro D c pre W hD hpre hn hK
        exact hn.elim

      case done =>
        rintro D2 xs4 WD hD2 hall4 hrg hK4
        have ks := rg_keeps hrg hFC.out.2.2.2.1
        have hD0 := ks D _ HD.out (fun cs => ⟨(fun e => by cases e), (fun e => by cases e)⟩)
        obtain ⟨XD, tkD, -, hsD, -, hBD, -⟩ := hrg
        have hl4 : xs4.length ≤ 70000 := by have := all_length hall4; have := HN.out; omega
        obtain ⟨vd, hvd⟩ : ∃ vd, vd = vb ++ xs4.map Prod.snd := ⟨_, rfl⟩
        rw [← hvd] at tkD
        have hvdl : vd.length ≤ 140400 := by rw [hvd]; simp; omega
        have hDs : DefsL w.heap.size [{ target := .collected D2, args := #[] }, { target := .collected D, args := #[] }] WD := by
          have hDl := (Array.getElem?_eq_some_iff.1 HD.out).1
          exact ⟨⟨D2, rfl, by omega, hK4, fun d' hd' D' he => by
            rw [List.mem_singleton.1 hd'] at he
            cases he
            omega⟩, ⟨⟨D, rfl, by omega, hD0, fun d' hd' => by cases hd'⟩, trivial⟩⟩
        have hFD := Lib.hid (⟨own_keeps hFC.out.1 ks (by decide) (by decide), own_keeps hFC.out.2.1 ks (by decide) (by decide), ks _ _ hFC.out.2.2.1 (fun cs => ⟨(fun e => by cases e), (fun e => by cases e)⟩), tkD, hBD, own_keeps hFC.out.2.2.2.2.2.1 ks (by decide) (by decide), own_keeps hFC.out.2.2.2.2.2.2.1 ks (by decide) (by decide), own_keeps hFC.out.2.2.2.2.2.2.2.1 ks (by decide) (by decide), own_keeps hFC.out.2.2.2.2.2.2.2.2 ks (by decide) (by decide)⟩ : _ ∧ _ ∧ _ ∧ _ ∧ _ ∧ _ ∧ _ ∧ _ ∧ _)
        have HDS := Lib.hid hDs
        clear ks tkD hBD hall4 hK4 hvd hXB hX0W0 hva0 hFC HH HD hD0 hDs HXB HX0W0 hgxB hval hvbl
        dsimp only
        have hylen : (0 : Int) ≤ (ys.length : Int) := by omega
        go_upto_if 113 with fail
        go_cut [17] from 111 to 120 (fun s17 wx => ∃ p : Int, s17 = .int .i64 p ∧ wx = WD)
        case first =>
          by_cases h0 : 0 < ys.length
          · obtain ⟨k, hk⟩ : ∃ k, k = ys.length / 2 := ⟨_, rfl⟩
            have hkl : k < ys.length := by omega
            have hki : (ys.length : Int) / 2 = (k : Int) := by omega
            have hkj : (k : Int) < (ys.length : Int) := by omega
            have ol := hFD.out.2.2.2.2.2.1
            obtain ⟨gl, hgl⟩ := own_head ol h0
            rw [hgl] at ol
            have hc := (ol.cellAt (k * 4) (by omega)).trans (insCells_at (List.getElem?_eq_getElem hkl)).1
            generalize (ys[k]).1.at_ = p at hc
            have h0i : (0 : Int) < (ys.length : Int) := by omega
            have HKK := Lib.hid hk
            subst hgl
            clear hk ol
            go_wp2_with fail
            go_meet
            exact ⟨p, rfl, rfl⟩
          · have h0i : ¬ (0 : Int) < (ys.length : Int) := by omega
            go_wp2_with fail
            go_meet
            exact ⟨0, rfl, rfl⟩
        case rest =>
          obtain ⟨p, rfl, rfl⟩ := hcut
          have hgp : w.heap.size ≤ gx := hgw
          have hWD : w.heap.size ≤ wc.heap.size := hFD.out.2.2.2.2.1.size
          go_wp2
          go_loopw [18] (fun vk wr => OnesInv gx W2.heap.size w wc vk wr) (fun vk _ => 2 - (intOf vk).toNat)
          case atStart => exact ⟨0, XD, vd, rfl, by omega, hFD.out.2.2.2.1, by omega, keeps_refl _, hFD.out.2.2.2.2.1, Nat.le_refl _⟩
          case round =>
            obtain ⟨k, X, vs, rfl, hk, tk, hvs, ks, yB, yS⟩ := hrel
            by_cases h2 : k < 2
            · have h2i : (k : Int) < 2 := by omega
              have ob := own_keeps hFD.out.1 ks (by decide) (by decide)
              have hpc := ks _ _ hFD.out.2.2.1 (fun cs => ⟨(fun e => by cases e), (fun e => by cases e)⟩)
              have HY := Lib.hid (⟨tk, ks, yB, ob, hpc⟩ : _ ∧ _ ∧ _ ∧ _ ∧ _)
              clear tk ks yB ob hpc
              go_wp2_with (go_at_call 22; refine stop_o ?_)
              unfold StopO
              refine (HC2.out wr 0 HY.out.2.2.2.1).mono ?_
              rintro e V1 ⟨v1, rfl, o1, hb1⟩
              have hl1 := read_len (bs := bs) (p := 0)
              generalize (readE bs 0).1 = e1 at o1
              generalize (readE bs 0).2 = i1 at o1 hl1
              obtain ⟨at1, code1, imm1, nx1⟩ := i1
              dsimp only at o1 hl1
              obtain ⟨A1, c1, rfl⟩ := owns_shape o1
              unfold insV
              dsimp only
              obtain ⟨a1, ha1⟩ : ∃ a1, a1 = V1.heap.size := ⟨_, rfl⟩
              have q1 := heap_alloc_at V1 (.cells #[.int .i64 at1, .int .i64 code1, .slice A1 imm1.length c1, .int .i64 nx1] 34) a1 ha1
              have hba := (Below.refl V1.heap.size V1).alloc (Nat.le_refl _) (.cells #[.int .i64 at1, .int .i64 code1, .slice A1 imm1.length c1, .int .i64 nx1] 34)
              have o1a := own_below o1 hba
              have hb1a := hb1.trans (hba.mono hb1.size)
              have h1s := o1.lt
              have HO := Lib.hid (⟨o1a, hb1a, q1⟩ : _ ∧ _ ∧ _)
              have HH1 := Lib.hid (⟨h1s, hba.size⟩ : _ ∧ _)
              have HA1 := Lib.hid ha1
              clear o1 hb1 hba o1a hb1a q1 h1s ha1
              go_wp2_with (go_at_call 22; refine stop_o ?_)
              unfold StopO
              rw [← HA1.out]
              generalize V1.alloc (.cells #[.int .i64 at1, .int .i64 code1, .slice A1 imm1.length c1, .int .i64 nx1] 34) = V2 at HO HH1 ⊢
              clear HA1
              refine (HC2.out V2 p (own_below HY.out.2.2.2.1 HO.out.2.1)).mono ?_
              rintro e V3 ⟨v2, rfl, o2, hb2⟩
              have hl2 := read_len (bs := bs) (p := p)
              generalize (readE bs p).1 = e2 at o2
              generalize (readE bs p).2 = i2 at o2 hl2
              obtain ⟨at2, code2, imm2, nx2⟩ := i2
              dsimp only at o2 hl2
              obtain ⟨A2, c2, rfl⟩ := owns_shape o2
              unfold insV
              dsimp only
              obtain ⟨a2, ha2⟩ : ∃ a2, a2 = V3.heap.size := ⟨_, rfl⟩
              have q2 := heap_alloc_at V3 (.cells #[.int .i64 at2, .int .i64 code2, .slice A2 imm2.length c2, .int .i64 nx2] 34) a2 ha2
              have hba := (Below.refl V3.heap.size V3).alloc (Nat.le_refl _) (.cells #[.int .i64 at2, .int .i64 code2, .slice A2 imm2.length c2, .int .i64 nx2] 34)
              have hb2a := hb2.trans (hba.mono hb2.size)
              have hbr := HO.out.2.1.trans (hb2a.mono HO.out.2.1.size)
              have HO2 := Lib.hid (⟨own_below HO.out.1 hb2a, own_below o2 hba, hbr, kept_of2 hb2a HO.out.2.2, q2, o2.lt, hba.size, hb2.size⟩ : _ ∧ _ ∧ _ ∧ _ ∧ _ ∧ _ ∧ _ ∧ _)
              have HA2 := Lib.hid ha2
              have hpc2 := kept_of2 hbr HY.out.2.2.2.2
              clear o2 hb2 hba hb2a q2 ha2
              go_upto_region 32 with fail
              rw [← HA2.out]
              generalize V3.alloc (.cells #[.int .i64 at2, .int .i64 code2, .slice A2 imm2.length c2, .int .i64 nx2] 34) = V4 at HO2 hbr hpc2 ⊢
              have tk4 := tk_below HY.out.1 hbr
              have hbn := (Below.refl V4.heap.size V4).alloc (Nat.le_refl _) (.cells #[.int .i64 at1, .int .i64 code1, .slice A1 imm1.length c1, .int .i64 nx1, .int .i64 at2, .int .i64 code2, .slice A2 imm2.length c2, .int .i64 nx2] 34)
              have tk5 := tk_below tk4 hbn
              have hgxl := (Array.getElem?_eq_some_iff.1 tk4.1).1
              have hbrs := hbr.size
              have hs21 := HO.out.2.1.size
              have hW2c : W2.heap.size ≤ wc.heap.size := by omega
              have hXl : ∀ b, X.ownBlock = some b → b < V4.heap.size := fun b hb => (tk4.2.1.lt b hb).2
              have HT := Lib.hid (take_any gx W2.heap.size X vs [.slice A1 imm1.length c1, .slice A2 imm2.length c2] (some ⟨V4.heap.size, 0, none⟩) 2 _ tk5.1 tk5.2.1 (by simp; omega) (by
                intro i hi
                refine ⟨V4.heap.size, rfl, by omega, fun e => by have := hXl _ e; omega, ?_⟩
                rcases (show i = 0 ∨ i = 1 by simp at hi; omega) with rfl | rfl <;> simp) (by intro v hv; simp at hv; rcases hv with rfl | rfl <;> exact ⟨_, _, _, rfl⟩) (by simp; omega))
              have hnn := HN.out
              have HST := Lib.hid (fun W' (ht : TakeOut gx W2.heap.size X vs [.slice A1 imm1.length c1, .slice A2 imm2.length c2] (V4.alloc (.cells #[.int .i64 at1, .int .i64 code1, .slice A1 imm1.length c1, .int .i64 nx1, .int .i64 at2, .int .i64 code2, .slice A2 imm2.length c2, .int .i64 nx2] 34)) W') => by
                obtain ⟨X', tk', _⟩ := tk_take (rv := [.slice A1 imm1.length c1, .slice A2 imm2.length c2]) tk5 ht (fam_below (fam_app (fam_one (owns_le HO2.out.1 (by omega)) (by omega)) (fam_one (owns_le HO2.out.2.1 (by omega)) (by omega)) (fun x hx y hy a b ha hb => by
                  rw [List.mem_singleton.1 hx] at ha
                  rw [List.mem_singleton.1 hy] at hb
                  have h1 := HH1.out.1 a ha
                  have h2 := HO2.out.2.2.2.2.2.1 b hb
                  have h3 := HH1.out.2
                  omega)) hbn) (fun x hx y hy a b ha hb => by
                  have h1 := (fam_lt HY.out.1.2.2 x hx a ha).2
                  rcases List.mem_cons.1 hy with rfl | hy
                  · have h2 := (HH1.out.1 b hb).1
                    omega
                  · rw [List.mem_singleton.1 hy] at hb
                    have h2 := (HO2.out.2.2.2.2.2.1 b hb).1
                    have h3 := HO.out.2.1.size
                    omega)
                have k1 := take_keeps tk5 ht
                obtain ⟨_, _, _, hsz, _, _, hbel⟩ := ht
                have hb5 := HY.out.2.2.1.trans ((hbr.trans (hbn.mono hbr.size)).mono HY.out.2.2.1.size)
                exact (⟨_, _, tk', by simp; omega, keeps_trans HY.out.2.1 (keeps_trans (keeps_below (hbr.trans (hbn.mono hbr.size))) k1), hb5.trans (hbel w.heap.size hgw hw2 (by have := hb5.size; omega)), by have := hbr.size; have := hbn.size; omega⟩ : ∃ (X' : Value) (vs' : List Value), TK gx W2.heap.size W2.heap.size X' vs' W' ∧ vs'.length ≤ 140400 + 2 * (k + 1) ∧ KeepS wc W' ∧ Below w.heap.size w W' ∧ wc.heap.size ≤ W'.heap.size))
              obtain ⟨k0, k1, k2, k3, kz, kl⟩ := cells4 HO2.out.2.2.2.1
              obtain ⟨j0, j1, j2, j3, jz, jl⟩ := cells4 HO2.out.2.2.2.2.1
              obtain ⟨p0, p1⟩ := cell_of1 hpc2
              clear tk4 tk5 hbn hbr hpc2 HA2 hXl hnn
              go_wp2_with (go_at_call 27; refine HT.out.mono ?_; rintro e W' ⟨rfl, ht⟩)
              obtain ⟨X', vs', r1, r2, r3, r4, r5⟩ := HST.out _ ht
              exact ⟨⟨k + 1, X', vs', by go_num, by omega, r1, r2, r3, r4, r5⟩, by simp [intOf]; omega⟩
            · obtain rfl : k = 2 := by omega
              obtain ⟨WE, hWE⟩ : ∃ WE, WE = wr := ⟨_, rfl⟩
              subst hWE
              have hDE : DefsL w.heap.size [{ target := .collected D2, args := #[] }, { target := .collected D, args := #[] }] WE := defsl_keep HDS.out fun q o hq ho => ks q o hq fun cs => ⟨(fun e => by rw [e] at ho; cases ho), (fun e => by rw [e] at ho; cases ho)⟩
              have hFE := Lib.hid (⟨own_keeps hFD.out.1 ks (by decide) (by decide), own_keeps hFD.out.2.1 ks (by decide) (by decide), ks _ _ hFD.out.2.2.1 (fun cs => ⟨(fun e => by cases e), (fun e => by cases e)⟩), tk, yB, own_keeps hFD.out.2.2.2.2.2.1 ks (by decide) (by decide), own_keeps hFD.out.2.2.2.2.2.2.1 ks (by decide) (by decide), own_keeps hFD.out.2.2.2.2.2.2.2.1 ks (by decide) (by decide), own_keeps hFD.out.2.2.2.2.2.2.2.2 ks (by decide) (by decide), hDE⟩ : _ ∧ _ ∧ _ ∧ _ ∧ _ ∧ _ ∧ _ ∧ _ ∧ _ ∧ _)
              obtain ⟨ad, ln, cp, f1, f2, f3, f4, f5⟩ := fam_funs tk.2.2
              have HF1 := Lib.hid f1
              have HF2 := Lib.hid f2
              have HF3 := Lib.hid f3
              have HF4 := Lib.hid (f4 mkB)
              have HF5 := Lib.hid f5
              obtain ⟨N, hN⟩ : ∃ N, N = vs.length := ⟨_, rfl⟩
              rw [← hN] at HF1 HF2 HF3 HF4 HF5 hvs
              obtain ⟨XE, cE, rfl⟩ := owns_shape tk.2.1
              have hxe := tk.2.1
              rw [← hN] at hxe
              have HXE := Lib.hid hxe
              have HGX := Lib.hid (show WE.heap[gx]? = some (.cells #[.slice XE N cE] 50 (0, 0)) from by rw [hN]; exact tk.1)
              have HNF : Hid (∀ (q : Nat) (cs : Array Value) (t : TypeId), t ≠ 5 → WE.heap[q]? = some (.cells cs t (0, 0)) → ∀ m, m < N → (lv ad ln cp m).ownBlock ≠ some q) := Lib.hid (fun q cs t ht hq m hm e => by
                obtain ⟨_, _, cs', hc⟩ := HF5.out m hm q e
                rw [hq] at hc
                cases hc
                exact ht rfl)
              have HVN := Lib.hid hN
              have hWEs : W2.heap.size ≤ WE.heap.size := by omega
              have hWE3 : W3.heap.size ≤ WE.heap.size := by omega
              clear tk ks yB hDE f1 f2 f3 f4 f5 hN hxe hFD HDS HC2 HC8
              go_wp2
              go_loopw [23] (fun vi wr => ∃ i : Nat, vi = .int .i64 i ∧ i ≤ N ∧ Marked mkB N 5 W2.heap.size ad ln cp i 0 wr ∧ RestN N (lv ad ln cp) WE wr ∧ Below w.heap.size w wr) (fun vi _ => N - (intOf vi).toNat)
              case atStart => exact ⟨0, rfl, by omega, HF4.out, ⟨Nat.le_refl _, fun _ _ _ => rfl⟩, hFE.out.2.2.2.2.1⟩
              case round =>
                obtain ⟨wo, hwo⟩ : ∃ wo, wo = wr := ⟨_, rfl⟩
                subst hwo
                obtain ⟨i, rfl, hin, yM, yR, yB⟩ := hrel
                have hgpE := Lib.hid (HNF.out (gx + 1) _ _ (by decide) hFE.out.2.2.1)
                have hgxE := Lib.hid (HNF.out gx _ _ (by decide) HGX.out)
                have hgpl := (Array.getElem?_eq_some_iff.1 hFE.out.2.2.1).1
                have hgxl := (Array.getElem?_eq_some_iff.1 HGX.out).1
                by_cases hiN : i < N
                · have hii : (i : Int) < (N : Int) := by omega
                  have hl2 := HF2.out i hiN
                  have HYY := Lib.hid (⟨yM, yR, yB⟩ : _ ∧ _ ∧ _)
                  obtain ⟨gX, hgX⟩ := own_head HXE.out (by omega)
                  have HXI : Hid (WE.cell? ⟨gX, i, none⟩ = some (lv ad ln cp i) ∧ gX < WE.heap.size ∧ ∀ m, m < N → (lv ad ln cp m).ownBlock ≠ some gX) := by
                    have h := HXE.out
                    rw [hgX] at h
                    obtain ⟨cs, hc⟩ := own_block h rfl
                    exact Lib.hid ⟨(h.cellAt i (by omega)).trans (HF1.out i hiN), (own_lt h).2, HNF.out gX cs _ (by decide) hc⟩
                  have HGXX := Lib.hid hgX
                  obtain ⟨p0, p1⟩ := cell_of1 ((yR.2 (gx + 1) hgpl hgpE.out).trans hFE.out.2.2.1)
                  obtain ⟨x0, x1⟩ := cell_of1 ((yR.2 gx hgxl hgxE.out).trans HGX.out)
                  clear yM yR yB hgX
                  go_wp2
                  go_loopw [24] (fun vk wx => ∃ k : Nat, vk = .int .i64 k ∧ k ≤ ln i ∧ Marked mkB N 5 W2.heap.size ad ln cp i k wx ∧ RestN N (lv ad ln cp) WE wx ∧ Below w.heap.size w wx) (fun vk _ => ln i - (intOf vk).toNat)
                  case atStart => exact ⟨0, rfl, by omega, HYY.out⟩
                  case round =>
                    clear p0 p1 x0 x1
                    obtain ⟨k, rfl, hk, zM, zR, zB⟩ := hrel
                    obtain ⟨p0, p1⟩ := cell_of1 ((zR.2 (gx + 1) hgpl hgpE.out).trans hFE.out.2.2.1)
                    have hX := HGXX.out
                    obtain ⟨x0, x1⟩ := cell_of1 ((zR.2 gx hgxl hgxE.out).trans HGX.out)
                    rw [hX] at x0
                    have d0 : wr.cell? ⟨gX, i, none⟩ = some (lv ad ln cp i) := (World.cell?_of_block (a := ⟨gX, i, none⟩) (zR.2 gX HXI.out.2.1 HXI.out.2.2)).trans HXI.out.1
                    unfold lv at d0
                    clear hX
                    by_cases hkn : k < ln i
                    · have hki : (k : Int) < (ln i : Int) := by omega
                      obtain ⟨zs, g1, g2⟩ := zM i hiN
                      unfold lv at g1
                      obtain ⟨gA2, hgA⟩ := own_head g1 (by omega)
                      have hob : (lv ad ln cp i).ownBlock = some gA2 := by unfold lv; rw [hgA]; rfl
                      have FIN := Lib.hid (⟨marked_step zM hiN hkn hgA HF3.out, rest_set zR (a := ⟨gA2, k, none⟩) (.inr ⟨i, hiN, hob⟩) (mkB i), zB.setCell (p := ⟨gA2, k, none⟩) (by have := (HF5.out i hiN gA2 hob).1; dsimp only; omega) (mkB i)⟩ : _ ∧ _ ∧ _)
                      rw [hgA] at d0 g1
                      obtain ⟨vv, hvv⟩ : ∃ vv, zs[k]? = some vv := ⟨_, List.getElem?_eq_getElem (by have := g1.1; omega)⟩
                      obtain ⟨q1, q2⟩ := own_cell g1 hvv
                      clear hgA g1 g2 zM zR zB hvv hob
                      unfold mkB at FIN
                      go_wp2
                      exact ⟨⟨k + 1, by go_num, by omega, FIN.out⟩, by simp [intOf]; omega⟩
                    · have hki : ¬ (k : Int) < (ln i : Int) := by omega
                      obtain rfl : k = ln i := by omega
                      have FIN := Lib.hid (⟨marked_next zM, zR, zB⟩ : _ ∧ _ ∧ _)
                      clear zM zR zB
                      go_wp2
                      exact ⟨⟨i + 1, by go_num, by omega, FIN.out⟩, by simp [intOf]; omega⟩
                · have hii : ¬ (i : Int) < (N : Int) := by omega
                  obtain rfl : N = i := by omega
                  obtain ⟨WF, hWF⟩ : ∃ WF, WF = wo := ⟨_, rfl⟩
                  subst hWF
                  have hWF3 : W3.heap.size ≤ WF.heap.size := by have := yR.1; omega
                  have hnot : ∀ {B e sz k : Nat} {v : Value} {xs : List Value}, e ≠ 5 → WE.ownsRow B e sz v k xs → WF.ownsRow B e sz v k xs := fun he ho => own_as ho (fun q hq => by
                    obtain ⟨cs, hc⟩ := own_block ho hq
                    exact yR.2 q (ho.lt q hq).2 (HNF.out q cs _ he hc))
                  have hlow : ∀ {B k : Nat} {v : Value} {xs : List Value}, (∀ q, v.ownBlock = some q → q < W2.heap.size) → WE.ownsRow B 5 1 v k xs → WF.ownsRow B 5 1 v k xs := fun hl ho => own_as ho (fun q hq => yR.2 q (ho.lt q hq).2 (fun m hm e => by have := hl q hq; have := (HF5.out m hm q e).1; omega))
                  have hDF : DefsL w.heap.size [{ target := .collected D2, args := #[] }, { target := .collected D, args := #[] }] WF := defsl_keep hFE.out.2.2.2.2.2.2.2.2.2 fun q o hq ho => (yR.2 q (Array.getElem?_eq_some_iff.1 hq).1 (fun m hm e => by
                    obtain ⟨_, _, cs, hc⟩ := HF5.out m hm q e
                    rw [hq] at hc
                    cases hc
                    cases ho)).trans hq
                  have hF := Lib.hid (⟨hlow HBL.out.1 hFE.out.1, hlow HBL.out.2 hFE.out.2.1, (yR.2 (gx + 1) hgpl hgpE.out).trans hFE.out.2.2.1, (yR.2 gx hgxl hgxE.out).trans HGX.out, hnot (by decide) HXE.out, yM, yB, hnot (by decide) hFE.out.2.2.2.2.2.1, hnot (by decide) hFE.out.2.2.2.2.2.2.1, hnot (by decide) hFE.out.2.2.2.2.2.2.2.1, hnot (by decide) hFE.out.2.2.2.2.2.2.2.2.1, hDF⟩ : _ ∧ _ ∧ _ ∧ _ ∧ _ ∧ _ ∧ _ ∧ _ ∧ _ ∧ _ ∧ _ ∧ _)
                  have hg5w : w.heap.size ≤ g5 := by omega
                  clear yM yR yB hnot hlow hDF hFE hgpE hgxE hgpl hgxl HF4 HXE HGX
                  obtain ⟨p0, p1⟩ := cell_of1 hF.out.2.2.1
                  obtain ⟨x0, x1⟩ := cell_of1 hF.out.2.2.2.1
                  go_wp2
                  clear p0 p1 x0 x1
                  go_loopw [25] (fun vk wx => ∃ (k : Nat) (xs : List Value), vk = .int .i64 k ∧ k ≤ n ∧ FillInv g5 4 1 (.slice (some ⟨g5, 0, none⟩) n n) n (.bool true) k xs WF wx ∧ Below w.heap.size w wx) (fun vk _ => n - (intOf vk).toNat)
                  case atStart => exact ⟨0, zs5, rfl, by omega, ⟨hF.out.2.2.2.2.2.2.2.2.2.1, (fun j hj => by omega), (fun _ _ => rfl), rfl⟩, hF.out.2.2.2.2.2.2.1⟩
                  case round =>
                    obtain ⟨k, xs, rfl, hk, hI, hB⟩ := hrel
                    by_cases hkn : k < n
                    · have hki : (k : Int) < (n : Int) := by omega
                      obtain ⟨gz, cz, hgz, ⟨uz, d0⟩, d1, FIN0⟩ := fill_step (by omega) hI hkn
                      injection hgz with e1
                      injection e1 with e1
                      injection e1 with e1
                      subst e1
                      simp only [Nat.mul_one] at d0 d1 FIN0
                      have FIN := Lib.hid FIN0
                      have hBz := Lib.hid (hB.setCell (p := ⟨g5, k, none⟩) hg5w (.bool true))
                      clear hI hB FIN0
                      go_wp2
                      exact ⟨⟨k + 1, _, by go_num, by omega, FIN.out, hBz.out⟩, by simp [intOf]; omega⟩
                    · have hki : ¬ (k : Int) < (n : Int) := by omega
                      obtain rfl : n = k := by omega
                      have SO0 : OwnS w n cb cy gx W1.heap.size W2.heap.size N cE Xb Y XE bs vs ad ln cp [{ target := .collected D2, args := #[] }, { target := .collected D, args := #[] }] WF := ⟨hF.out.1, hF.out.2.1, hF.out.2.2.1, hF.out.2.2.2.1, hF.out.2.2.2.2.1, hF.out.2.2.2.2.2.1, hF.out.2.2.2.2.2.2.1, hF.out.2.2.2.2.2.2.2.2.2.2.2⟩
                      have SO := Lib.hid (owns_keep SO0 hI.2.2.1 (fun q hq => own_block hF.out.2.2.2.2.2.2.2.2.2.1 hq) (by decide) (by decide) (by decide) (by decide) hB)
                      have SS := Lib.hid hI
                      have hkeep : ∀ {B e sz k : Nat} {v : Value} {xs : List Value}, (∀ q, v.ownBlock = some q → q ≠ g5) → WF.ownsRow B e sz v k xs → wr.ownsRow B e sz v k xs := fun hne ho => own_as ho (fun q hq => hI.2.2.1 q (fun e => by
                        injection e with e
                        exact hne q hq e.symm))
                      have SL := Lib.hid (hkeep (fun q hq e => by
                        obtain ⟨_, h1⟩ := own_block hF.out.2.2.2.2.2.2.2.1 hq
                        obtain ⟨_, h2⟩ := own_block hF.out.2.2.2.2.2.2.2.2.2.1 (show (Value.slice (some ⟨g5, 0, none⟩) n n).ownBlock = some q by rw [e]; rfl)
                        rw [h1] at h2
                        cases h2) hF.out.2.2.2.2.2.2.2.1)
                      have SM := Lib.hid (hkeep (fun q hq e => by
                        obtain ⟨_, h1⟩ := own_block hF.out.2.2.2.2.2.2.2.2.1 hq
                        obtain ⟨_, h2⟩ := own_block hF.out.2.2.2.2.2.2.2.2.2.1 (show (Value.slice (some ⟨g5, 0, none⟩) n n).ownBlock = some q by rw [e]; rfl)
                        rw [h1] at h2
                        cases h2) hF.out.2.2.2.2.2.2.2.2.1)
                      have ST := Lib.hid (hkeep (fun q hq e => by
                        have h : g6 = q := Option.some.inj hq
                        omega) hF.out.2.2.2.2.2.2.2.2.2.2.1)
                      obtain ⟨WG, hWG⟩ : ∃ WG, WG = wr := ⟨_, rfl⟩
                      subst hWG
                      have hWG3 : W3.heap.size ≤ WG.heap.size := by have := hI.2.2.2; omega
                      have hg6w : w.heap.size ≤ g6 := by omega
                      clear hI hB hkeep SO0 hF
                      go_wp2
                      go_loopw [26] (fun vk wx => ∃ (k : Nat) (xs : List Value), vk = .int .i64 k ∧ k ≤ n ∧ FillInv g6 4 1 (.slice (some ⟨g6, 0, none⟩) n n) n (.bool false) k xs WG wx ∧ Below w.heap.size w wx) (fun vk _ => n - (intOf vk).toNat)
                      case atStart => exact ⟨0, zs6, rfl, by omega, ⟨ST.out, (fun j hj => by omega), (fun _ _ => rfl), rfl⟩, SO.out.bel⟩
                      case round =>
                        obtain ⟨k, ts, rfl, hk, hI, hB⟩ := hrel
                        by_cases hkn : k < n
                        · have hki : (k : Int) < (n : Int) := by omega
                          obtain ⟨gz, cz, hgz, ⟨uz, d0⟩, d1, FIN0⟩ := fill_step (by omega) hI hkn
                          injection hgz with e1
                          injection e1 with e1
                          injection e1 with e1
                          subst e1
                          simp only [Nat.mul_one] at d0 d1 FIN0
                          have FIN := Lib.hid FIN0
                          have hBz := Lib.hid (hB.setCell (p := ⟨g6, k, none⟩) hg6w (.bool false))
                          clear hI hB FIN0
                          go_wp2
                          exact ⟨⟨k + 1, _, by go_num, by omega, FIN.out, hBz.out⟩, by simp [intOf]; omega⟩
                        · have hki : ¬ (k : Int) < (n : Int) := by omega
                          obtain rfl : n = k := by omega
                          have SO2 := Lib.hid (owns_keep SO.out hI.2.2.1 (fun q hq => own_block ST.out hq) (by decide) (by decide) (by decide) (by decide) hB)
                          have hkeep : ∀ {B e sz k : Nat} {v : Value} {xs : List Value}, (∀ q, v.ownBlock = some q → q ≠ g6) → WG.ownsRow B e sz v k xs → wr.ownsRow B e sz v k xs := fun hne ho => own_as ho (fun q hq => hI.2.2.1 q (fun e => by
                            injection e with e
                            exact hne q hq e.symm))
                          have hT6 : ∀ {B k sz : Nat} {v : Value} {xs : List Value}, WG.ownsRow B 34 sz v k xs → ∀ q, v.ownBlock = some q → q ≠ g6 := fun ho q hq e => by
                            obtain ⟨_, h1⟩ := own_block ho hq
                            obtain ⟨_, h2⟩ := own_block ST.out (show (Value.slice (some ⟨g6, 0, none⟩) n n).ownBlock = some q by rw [e]; rfl)
                            rw [h1] at h2
                            cases h2
                          have SL2 := Lib.hid (hkeep (hT6 SL.out) SL.out)
                          have SM2 := Lib.hid (hkeep (hT6 SM.out) SM.out)
                          have SS2 := Lib.hid (⟨hkeep (fun q hq e => by
                            have h : g5 = q := Option.some.inj hq
                            omega) SS.out.1, SS.out.2.1⟩ : _ ∧ _)
                          have ST2 := Lib.hid (⟨hI.1, hI.2.1⟩ : _ ∧ _)
                          obtain ⟨WH, hWH⟩ : ∃ WH, WH = wr := ⟨_, rfl⟩
                          subst hWH
                          have hWH3 : W3.heap.size ≤ WH.heap.size := by have := hI.2.2.2; omega
                          clear hI hB hkeep hT6 SO SL SM SS ST
                          go_wp2
                          go_loopw [27] (fun vk wx => ∃ (k : Nat) (xs : List Value), vk = .int .i64 k ∧ k ≤ ys.length ∧ FillInv W2.heap.size 34 4 (.slice Vl ys.length cl) ys.length (.int .i64 (-5)) k xs WH wx ∧ Below w.heap.size w wx) (fun vk _ => ys.length - (intOf vk).toNat)
                          case atStart => exact ⟨0, insCells ys, rfl, by omega, ⟨SL2.out, (fun j hj => by omega), (fun _ _ => rfl), rfl⟩, SO2.out.bel⟩
                          case round =>
                            obtain ⟨k, ls, rfl, hk, hI, hB⟩ := hrel
                            by_cases hkn : k < ys.length
                            · have hki : (k : Int) < (ys.length : Int) := by omega
                              obtain ⟨gz, cz, hgz, ⟨uz, d0⟩, d1, FIN0⟩ := fill_step (by omega) hI hkn
                              have hlow := (hI.1.lt gz (by rw [hgz]; rfl)).1
                              injection hgz with e1 e2 e3
                              subst e1
                              have FIN := Lib.hid FIN0
                              have hBz := Lib.hid (hB.setCell (p := ⟨gz, k * 4, none⟩) (by dsimp only; omega) (.int .i64 (-5)))
                              clear hI hB FIN0 e2 e3
                              go_wp2
                              exact ⟨⟨k + 1, _, by go_num, by omega, FIN.out, hBz.out⟩, by simp [intOf]; omega⟩
                            · have hki : ¬ (k : Int) < (ys.length : Int) := by omega
                              have hkk : k = ys.length := by omega
                              rw [hkk] at hI
                              have SO3 := Lib.hid (owns_keep SO2.out hI.2.2.1 (fun q hq => own_block SL2.out hq) (by decide) (by decide) (by decide) (by decide) hB)
                              have hkeep : ∀ {B e sz k : Nat} {v : Value} {xs : List Value}, (∀ q, v.ownBlock = some q → (Value.slice Vl ys.length cl).ownBlock ≠ some q) → WH.ownsRow B e sz v k xs → wr.ownsRow B e sz v k xs := fun hne ho => own_as ho (fun q hq => hI.2.2.1 q (hne q hq))
                              have hT7 : ∀ {B k sz : Nat} {v : Value} {xs : List Value}, WH.ownsRow B 4 sz v k xs → ∀ q, v.ownBlock = some q → (Value.slice Vl ys.length cl).ownBlock ≠ some q := fun ho q hq e => by
                                obtain ⟨_, h1⟩ := own_block ho hq
                                obtain ⟨_, h2⟩ := own_block SL2.out e
                                rw [h1] at h2
                                cases h2
                              have SM3 := Lib.hid (hkeep (fun q hq e => by
                                have h1 := (SM2.out.lt q hq).1
                                have h2 := HLB.out q e
                                omega) SM2.out)
                              have SS3 := Lib.hid (⟨hkeep (hT7 SS2.out.1) SS2.out.1, SS2.out.2⟩ : _ ∧ _)
                              have ST3 := Lib.hid (⟨hkeep (hT7 ST2.out.1) ST2.out.1, ST2.out.2⟩ : _ ∧ _)
                              have SL3 := Lib.hid (⟨hI.1, hI.2.1⟩ : _ ∧ _)
                              obtain ⟨WI, hWI⟩ : ∃ WI, WI = wr := ⟨_, rfl⟩
                              subst hWI
                              have hWI3 : W3.heap.size ≤ WI.heap.size := by have := hI.2.2.2; omega
                              clear hI hB hkeep hT7 SO2 SL2 SM2 SS2 ST2 hkk
                              go_wp2
                              go_loopw [28] (fun vk wx => ∃ (k : Nat) (xs : List Value), vk = .int .i64 k ∧ k ≤ ys2.length ∧ FillInv W3.heap.size 34 4 (.slice Vm ys2.length cm) ys2.length (.int .i64 (-6)) k xs WI wx ∧ Below w.heap.size w wx) (fun vk _ => ys2.length - (intOf vk).toNat)
                              case atStart => exact ⟨0, insCells ys2, rfl, by omega, ⟨SM3.out, (fun j hj => by omega), (fun _ _ => rfl), rfl⟩, SO3.out.bel⟩
                              case round =>
                                obtain ⟨k, ms, rfl, hk, hI, hB⟩ := hrel
                                by_cases hkn : k < ys2.length
                                · have hyl3 : ys2.length ≤ 70000 := by have := HYL2.out; omega
                                  have hki : (k : Int) < (ys2.length : Int) := by omega
                                  obtain ⟨gz, cz, hgz, ⟨uz, d0⟩, d1, FIN0⟩ := fill_step (by omega) hI hkn
                                  have hlow := (hI.1.lt gz (by rw [hgz]; rfl)).1
                                  injection hgz with e1 e2 e3
                                  subst e1
                                  have FIN := Lib.hid FIN0
                                  have hBz := Lib.hid (hB.setCell (p := ⟨gz, k * 4, none⟩) (by dsimp only; omega) (.int .i64 (-6)))
                                  clear hI hB FIN0 e2 e3
                                  go_wp2
                                  exact ⟨⟨k + 1, _, by go_num, by omega, FIN.out, hBz.out⟩, by simp [intOf]; omega⟩
                                · have hki : ¬ (k : Int) < (ys2.length : Int) := by omega
                                  have hkk : k = ys2.length := by omega
                                  rw [hkk] at hI
                                  have SO4 := Lib.hid (owns_keep SO3.out hI.2.2.1 (fun q hq => own_block SM3.out hq) (by decide) (by decide) (by decide) (by decide) hB)
                                  have hkeep : ∀ {B e sz k : Nat} {v : Value} {xs : List Value}, (∀ q, v.ownBlock = some q → (Value.slice Vm ys2.length cm).ownBlock ≠ some q) → WI.ownsRow B e sz v k xs → wr.ownsRow B e sz v k xs := fun hne ho => own_as ho (fun q hq => hI.2.2.1 q (hne q hq))
                                  have hT8 : ∀ {B k sz : Nat} {v : Value} {xs : List Value}, WI.ownsRow B 4 sz v k xs → ∀ q, v.ownBlock = some q → (Value.slice Vm ys2.length cm).ownBlock ≠ some q := fun ho q hq e => by
                                    obtain ⟨_, h1⟩ := own_block ho hq
                                    obtain ⟨_, h2⟩ := own_block SM3.out e
                                    rw [h1] at h2
                                    cases h2
                                  have SL4 := Lib.hid (⟨hkeep (fun q hq e => by
                                    have h1 := (SM3.out.lt q e).1
                                    have h2 := HLB.out q hq
                                    omega) SL3.out.1, SL3.out.2⟩ : _ ∧ _)
                                  have SS4 := Lib.hid (⟨hkeep (hT8 SS3.out.1) SS3.out.1, SS3.out.2⟩ : _ ∧ _)
                                  have ST4 := Lib.hid (⟨hkeep (hT8 ST3.out.1) ST3.out.1, ST3.out.2⟩ : _ ∧ _)
                                  have SM4 := Lib.hid (⟨hI.1, hI.2.1⟩ : _ ∧ _)
                                  obtain ⟨WJ, hWJ⟩ : ∃ WJ, WJ = wr := ⟨_, rfl⟩
                                  subst hWJ
                                  have hWJ3 : W3.heap.size ≤ WJ.heap.size := by have := hI.2.2.2; omega
                                  clear hI hB hkeep hT8 SO3 SL3 SM3 SS3 ST3 hkk
                                  have HLT : Hid (∀ m, m < N → ∀ q, (lv ad ln cp m).ownBlock = some q → W2.heap.size ≤ q ∧ q < WJ.heap.size) := Lib.hid (fun m hm q hq => by
                                    obtain ⟨_, h, _⟩ := SO4.out.fam m hm
                                    exact h.lt q hq)
                                  have HNJ : Hid (∀ (q : Nat) (cs : Array Value) (t : TypeId), t ≠ 5 → WJ.heap[q]? = some (.cells cs t (0, 0)) → ∀ m, m < N → (lv ad ln cp m).ownBlock ≠ some q) := Lib.hid (fun q cs t ht hq m hm e => by
                                    obtain ⟨_, h, _⟩ := SO4.out.fam m hm
                                    obtain ⟨cs', hc⟩ := own_block h e
                                    rw [hq] at hc
                                    cases hc
                                    exact ht rfl)
                                  have HPL : Hid (gx + 1 < WJ.heap.size ∧ gx < WJ.heap.size) := Lib.hid ⟨(Array.getElem?_eq_some_iff.1 SO4.out.ptr).1, (Array.getElem?_eq_some_iff.1 SO4.out.x).1⟩
                                  have HPN := Lib.hid (HNJ.out (gx + 1) _ _ (by decide) SO4.out.ptr)
                                  have HXN := Lib.hid (HNJ.out gx _ _ (by decide) SO4.out.x)
                                  have HOV := Lib.hid (ov_start SO4.out.fam)
                                  have hwJ : w.heap.size ≤ WJ.heap.size := SO4.out.bel.size
                                  obtain ⟨WB0, hWB0⟩ : ∃ WB0, WB0 = WJ.heap.size := ⟨_, rfl⟩
                                  rw [← hWB0] at hwJ
                                  have HWB0 := Lib.hid hWB0
                                  clear hWB0
                                  go_wp2
                                  go_loopw [29, 30] (fun vl vi wr => ∃ (i c : Nat) (L : Option Addr) (u : Nat → Value), vl = .slice L i c ∧ vi = .int .i64 i ∧ i ≤ N ∧ wr.ownsRow WB0 22 1 (.slice L i c) i ((List.range i).map u) ∧ OV mkB N 5 W2.heap.size ad ln cp i wr ∧ CU mkB N 40 5 u ad ln cp i wr.heap.size wr ∧ RestN N (lv ad ln cp) WJ wr ∧ Below w.heap.size w wr) (fun _ vi _ => N - (intOf vi).toNat)
                                  case atStart => exact ⟨0, 0, none, fun _ => .slice none 0 0, rfl, rfl, by omega, World.ownsRow_nil _ _ _ _, HOV.out, fun m hm => by omega, ⟨Nat.le_refl _, fun _ _ _ => rfl⟩, SO4.out.bel⟩
                                  case round =>
                                    obtain ⟨wo, hwo⟩ : ∃ wo, wo = wr := ⟨_, rfl⟩
                                    subst hwo
                                    obtain ⟨i, cL, L, u, rfl, rfl, hin, yL, yO, yU, yR, yB⟩ := hrel
                                    have hsJ : WB0 ≤ wo.heap.size := by rw [HWB0.out]; exact yR.1
                                    by_cases hiN : i < N
                                    · have hii : (i : Int) < (N : Int) := by omega
                                      have hl2 := HF2.out i hiN
                                      obtain ⟨gX, hgX⟩ := own_head SO4.out.xs (by omega)
                                      have HXI : Hid (WJ.cell? ⟨gX, i, none⟩ = some (lv ad ln cp i) ∧ gX < WJ.heap.size ∧ ∀ m, m < N → (lv ad ln cp m).ownBlock ≠ some gX) := by
                                        have h := SO4.out.xs
                                        rw [hgX] at h
                                        obtain ⟨cs, hc⟩ := own_block h rfl
                                        exact Lib.hid ⟨(h.cellAt i (by omega)).trans (HF1.out i hiN), (own_lt h).2, HNJ.out gX cs _ (by decide) hc⟩
                                      have hX := hgX
                                      obtain ⟨p0, p1⟩ := cell_of1 ((yR.2 (gx + 1) HPL.out.1 HPN.out).trans SO4.out.ptr)
                                      obtain ⟨x0, x1⟩ := cell_of1 ((yR.2 gx HPL.out.2 HXN.out).trans SO4.out.x)
                                      rw [hX] at x0
                                      have d0 : wo.cell? ⟨gX, i, none⟩ = some (lv ad ln cp i) := (World.cell?_of_block (a := ⟨gX, i, none⟩) (yR.2 gX HXI.out.2.1 HXI.out.2.2)).trans HXI.out.1
                                      unfold lv at d0
                                      have yn := yO i hiN (Nat.le_refl _)
                                      have yO' : OV mkB N 5 W2.heap.size ad ln cp (i + 1) wo := fun m hm hnm => yO m hm (by omega)
                                      obtain ⟨Nn, hNn⟩ : ∃ Nn, Nn = wo.heap.size := ⟨_, rfl⟩
                                      rw [← hNn] at yU hsJ
                                      have HY := Lib.hid (⟨yn, yO', yU, yL, yR, yB⟩ : _ ∧ _ ∧ _ ∧ _ ∧ _ ∧ _)
                                      have HNN := Lib.hid hNn
                                      clear hX hgX yn yO yO' yU yL yR yB hNn
                                      go_wp2
                                      go_loopw [31, 32] (fun vg vk wx => ∃ (k c : Nat) (g : Option Addr), vg = .slice g (ln i + k) c ∧ vk = .int .i64 k ∧ k ≤ 40 ∧ wx.ownsRow W2.heap.size 5 1 (.slice g (ln i + k) c) (ln i + k) (List.replicate (ln i + k) (mkB i)) ∧
                                        (∀ b, (Value.slice g (ln i + k) c).ownBlock = some b → (lv ad ln cp i).ownBlock = some b ∨ Nn ≤ b) ∧ OV mkB N 5 W2.heap.size ad ln cp (i + 1) wx ∧ CU mkB N 40 5 u ad ln cp i Nn wx ∧ wx.ownsRow WB0 22 1 (.slice L i cL) i ((List.range i).map u) ∧ RestN N (lv ad ln cp) WJ wx ∧ Nn ≤ wx.heap.size ∧ Below w.heap.size w wx) (fun _ vk _ => 40 - (intOf vk).toNat)
                                      case atStart => exact ⟨0, _, _, rfl, rfl, by omega, HY.out.1, fun b hb => .inl hb, HY.out.2.1, HY.out.2.2.1, HY.out.2.2.2.1, HY.out.2.2.2.2.1, by rw [HNN.out]; exact Nat.le_refl _, HY.out.2.2.2.2.2⟩
                                      case round =>
                                        clear d0 p0 p1 x0 x1
                                        obtain ⟨k, c, g, rfl, rfl, hk, hO, hb, xO, xU, xL, xR, xN, xB⟩ := hrel
                                        by_cases hk4 : k < 40
                                        · have hki : (k : Int) < 40 := by omega
                                          have hO1 := World.ownsRow.alloc (show wr.ownsRow W2.heap.size 5 1 (.slice g (ln i + k) c) (ln i + k) (List.replicate (ln i + k) (.int .u8 (1 + (i : Int) % 250))) from hO) (.cells #[.int .u8 (1 + (i : Int) % 250)] 5)
                                          have hba := (Below.refl wr.heap.size wr).alloc (Nat.le_refl _) (.cells #[.int .u8 (1 + (i : Int) % 250)] 5)
                                          have HH := Lib.hid (⟨hb, ov_below xO hba, cu_heap xU (Nat.le_refl _) (fun b cs h => heap_alloc_before h (.cells #[.int .u8 (1 + (i : Int) % 250)] 5)), xL.alloc (.cells #[.int .u8 (1 + (i : Int) % 250)] 5), rest_below xR hba, xB.alloc xB.size (.cells #[.int .u8 (1 + (i : Int) % 250)] 5)⟩ : _ ∧ _ ∧ _ ∧ _ ∧ _ ∧ _)
                                          have HO1 := Lib.hid hO1
                                          have xw := xR.1
                                          clear hO hb xO xU xL xR xB hba hO1
                                          go_wp2_with (at_builtin; refine wpList_append_own_keep _ rfl _ _ 22 rfl W2.heap.size 5 i0 (.int .u8 0) 1 1 Tryd.underlying22 hi hz0 hz1 hz2 rfl (by decide) _ (ln i + k) _ rfl HO1.out ⟨wr.heap.size, 0, none⟩ 1 1 [.int .u8 (1 + (i : Int) % 250)] rfl rfl ?inn1 ?inn2 ?inn3 ?inn4 ?inn5 ?_)
                                          case inn1 => exact cells_fresh wr #[.int .u8 (1 + (i : Int) % 250)] _ _ rfl
                                          case inn2 => intro x hx; simp at hx; subst hx; rfl
                                          case inn3 => unfold maxLen; omega
                                          case inn4 => omega
                                          case inn5 => simp; omega
                                          intro v' w2 hown2 hgrow hloc _
                                          obtain ⟨g', c', rfl⟩ := owns_shape hown2
                                          have hsa : Nn ≤ (wr.alloc (.cells #[.int .u8 (1 + (i : Int) % 250)] 5)).heap.size := by simp; omega
                                          obtain ⟨h1, h4, h5, h6, h7, h8⟩ := HH.out
                                          have hnb : ∀ b, (Value.slice g' (ln i + k + 1) c').ownBlock = some b → (lv ad ln cp i).ownBlock = some b ∨ Nn ≤ b := fun b e => by
                                            rcases hloc with e2 | e2
                                            · exact h1 b (e2.symm.trans e)
                                            · rw [e2] at e
                                              cases e
                                              exact .inr (by simpa using hsa)
                                          have hwb := HWB0.out
                                          have FIN := Lib.hid (⟨by rw [show ln i + (k + 1) = ln i + k + 1 from rfl, rep_snoc]; exact hown2, hnb, ov_grow (S := Nn) h4 hgrow h1 (fun m hm b hb => by have := (HLT.out m hm b hb).2; omega) HF3.out hiN, cu_grow h5 hgrow h1 hiN, own_keepe h6 (keepe_grown HO1.out hgrow) (by decide), rest_grown h7 hgrow (fun b e => by
                                            rcases h1 b e with h9 | h9
                                            · exact .inr ⟨i, hiN, h9⟩
                                            · exact .inl (by omega)), Nat.le_trans hsa hgrow.size, h8.grown hgrow h8.size (fun b e => by
                                            rcases h1 b e with h9 | h9
                                            · have := (HLT.out i hiN b h9).1
                                              omega
                                            · omega)⟩ : w2.ownsRow W2.heap.size 5 1 (.slice g' (ln i + (k + 1)) c') (ln i + (k + 1)) (List.replicate (ln i + (k + 1)) (mkB i)) ∧ _ ∧ _ ∧ _ ∧ _ ∧ _ ∧ _ ∧ _)
                                          clear hown2 hgrow hloc h1 h4 h5 h6 h7 h8 hnb hsa HH HO1 hwb
                                          go_wp2
                                          exact ⟨⟨k + 1, c', g', rfl, by go_num, by omega, FIN.out⟩, by simp [intOf]; omega⟩
                                        · have hki : ¬ (k : Int) < 40 := by omega
                                          obtain rfl : k = 40 := by omega
                                          obtain ⟨gb, rfl⟩ := own_head hO (by omega)
                                          have hwb := HWB0.out
                                          have xU2 := cu_more xU xN hiN hO (hb gb rfl) (fun m hm b hb => by have := (HLT.out m hm b hb).2; omega) HF3.out
                                          have hba := (Below.refl wr.heap.size wr).alloc (Nat.le_refl _) (.cells #[.slice (some ⟨gb, 0, none⟩) (ln i + 40) c] 22)
                                          have HL1 := Lib.hid (xL.alloc (.cells #[.slice (some ⟨gb, 0, none⟩) (ln i + 40) c] 22))
                                          have HH := Lib.hid (⟨ov_below xO hba, cu_heap (S' := wr.heap.size + 1) xU2 (by omega) (fun b cs h => heap_alloc_before h (.cells #[.slice (some ⟨gb, 0, none⟩) (ln i + 40) c] 22)), rest_below xR hba, xB.alloc xB.size (.cells #[.slice (some ⟨gb, 0, none⟩) (ln i + 40) c] 22)⟩ : _ ∧ _ ∧ _ ∧ _)
                                          clear hO hb xO xU xU2 xL xR xB hba hwb
                                          go_wp2_with (at_builtin; refine wpList_append_own_keep _ rfl _ _ 48 rfl WB0 22 j0 (.slice none 0 0) 1 24 Tryd.underlying48 hj hy0 hy1 hy2 rfl (by decide) _ i _ rfl HL1.out ⟨wr.heap.size, 0, none⟩ 1 1 [.slice (some ⟨gb, 0, none⟩) (ln i + 40) c] rfl rfl ?outr1 ?outr2 ?outr3 ?outr4 ?outr5 ?_)
                                          case outr2 => rfl
                                          case outr3 => unfold maxLen; omega
                                          case outr4 => omega
                                          case outr5 => first | omega | (simp; omega)
                                          intro v' w2 hown2 hgrow hloc _
                                          obtain ⟨L', cL', rfl⟩ := owns_shape hown2
                                          obtain ⟨h4, h5, h7, h8⟩ := HH.out
                                          have hwb := HWB0.out
                                          have hk := keepe_grown HL1.out hgrow
                                          have hlb : ∀ b, (Value.slice L i cL).ownBlock = some b → WB0 ≤ b := fun b e => (HL1.out.lt b e).1
                                          have hsz := hgrow.size
                                          have FIN := Lib.hid (⟨by rw [upd_map]; exact hown2, fun m hm hn => own_keepe (h4 m hm hn) hk (by decide), cu_heap h5 (by simp at hsz; omega) (fun b cs h => hk b _ h (fun cs' e => by cases e)), rest_grown h7 hgrow (fun b e => .inl (by have := hlb b e; omega)), h8.grown hgrow h8.size (fun b e => by have := hlb b e; omega)⟩ : w2.ownsRow WB0 22 1 (.slice L' (i + 1) cL') (i + 1) ((List.range (i + 1)).map (upd u i (.slice (some ⟨gb, 0, none⟩) (ln i + 40) c))) ∧ OV mkB N 5 W2.heap.size ad ln cp (i + 1) w2 ∧ CU mkB N 40 5 (upd u i (.slice (some ⟨gb, 0, none⟩) (ln i + 40) c)) ad ln cp (i + 1) w2.heap.size w2 ∧ _ ∧ _)
                                          clear hown2 hgrow hloc h4 h5 h7 h8 hk hlb hsz HH HL1 hwb
                                          go_wp2
                                          exact ⟨⟨i + 1, cL', L', _, rfl, by go_num, by omega, FIN.out⟩, by simp [intOf]; omega⟩
                                    · have hii : ¬ (i : Int) < (N : Int) := by omega
                                      obtain rfl : N = i := by omega
                                      obtain ⟨WK, hWK⟩ : ∃ WK, WK = wo := ⟨_, rfl⟩
                                      subst hWK
                                      have hWK3 : W3.heap.size ≤ WK.heap.size := by have := yR.1; omega
                                      have hwb := HWB0.out
                                      have hlow : ∀ {B k : Nat} {v : Value} {xs : List Value}, (∀ q, v.ownBlock = some q → q < W2.heap.size) → WJ.ownsRow B 5 1 v k xs → WK.ownsRow B 5 1 v k xs := fun hl ho => own_as ho (fun q hq => yR.2 q (ho.lt q hq).2 (fun m hm e => by have := hl q hq; have := (HLT.out m hm q e).1; omega))
                                      have hnot : ∀ {B e sz k : Nat} {v : Value} {xs : List Value}, e ≠ 5 → WJ.ownsRow B e sz v k xs → WK.ownsRow B e sz v k xs := fun he ho => own_as ho (fun q hq => by
                                        obtain ⟨cs, hc⟩ := own_block ho hq
                                        exact yR.2 q (ho.lt q hq).2 (HNJ.out q cs _ he hc))
                                      have hDK : DefsL w.heap.size [{ target := .collected D2, args := #[] }, { target := .collected D, args := #[] }] WK := defsl_keep SO4.out.defs fun q o hq ho => (yR.2 q (Array.getElem?_eq_some_iff.1 hq).1 (fun m hm e => by
                                        obtain ⟨_, h, _⟩ := SO4.out.fam m hm
                                        obtain ⟨cs, hc⟩ := own_block h e
                                        rw [hq] at hc
                                        cases hc
                                        cases ho)).trans hq
                                      obtain ⟨p0, p1⟩ := cell_of1 ((yR.2 (gx + 1) HPL.out.1 HPN.out).trans SO4.out.ptr)
                                      obtain ⟨x0, x1⟩ := cell_of1 ((yR.2 gx HPL.out.2 HXN.out).trans SO4.out.x)
                                      have KB := Lib.hid (hlow HBL.out.1 SO4.out.b)
                                      have KW := Lib.hid (hlow HBL.out.2 SO4.out.was)
                                      have KL := Lib.hid (⟨hnot (by decide) SL4.out.1, SL4.out.2⟩ : _ ∧ _)
                                      have KM := Lib.hid (⟨hnot (by decide) SM4.out.1, SM4.out.2⟩ : _ ∧ _)
                                      have KS := Lib.hid (⟨hnot (by decide) SS4.out.1, SS4.out.2⟩ : _ ∧ _)
                                      have KT := Lib.hid (⟨hnot (by decide) ST4.out.1, ST4.out.2⟩ : _ ∧ _)
                                      have KG := Lib.hid (⟨yL, yU, yB, hDK⟩ : _ ∧ _ ∧ _ ∧ _)
                                      clear yL yO yU yR yB hlow hnot hDK hwb SO4 SL4 SM4 SS4 ST4 HPL HPN HXN HNJ HOV
                                      obtain ⟨k0, hk0, kz0, kz1, kz2⟩ := info_parts infoIns
                                      obtain ⟨q0, hq0, qz0, qz1, qz2⟩ := info_parts infoBool
                                      have KL1 := Lib.hid (World.ownsRow.alloc KL.out.1 (.cells #[.int .i64 (-5), .int .i64 0, .slice none 0 0, .int .i64 0, .int .i64 (-5), .int .i64 0, .slice none 0 0, .int .i64 0, .int .i64 (-5), .int .i64 0, .slice none 0 0, .int .i64 0] 34))
                                      go_wp2_with (at_builtin; go_loud (refine wpList_append_own_keep _ rfl _ _ 24 rfl W2.heap.size 34 k0 (.agg #[.int .i64 0, .int .i64 0, .slice none 0 0, .int .i64 0]) 4 48 Tryd.underlying24 hk0 kz0 kz1 kz2 rfl (by decide) _ ys.length _ rfl KL1.out ⟨WK.heap.size, 0, none⟩ 3 3 (news3 (-5)) rfl rfl ?uu1 ?uu2 ?uu3 ?uu4 ?uu5 ?_))
                                      case uu1 => first | exact fun _ _ h => h | exact cells_fresh WK #[.int .i64 (-5), .int .i64 0, .slice none 0 0, .int .i64 0, .int .i64 (-5), .int .i64 0, .slice none 0 0, .int .i64 0, .int .i64 (-5), .int .i64 0, .slice none 0 0, .int .i64 0] _ _ rfl
                                      case uu2 => intro x hx; simp [news3] at hx; rcases hx with rfl | rfl | rfl | rfl | rfl | rfl | rfl | rfl | rfl | rfl | rfl | rfl <;> rfl
                                      case uu3 => have := HYL2.out; unfold maxLen; omega
                                      case uu4 => have := HYL2.out; omega
                                      case uu5 => first | omega | (simp only [World.size_alloc]; omega)
                                      intro v' V1 hown1 hgrow hloc _
                                      obtain ⟨U, cu, rfl⟩ := owns_shape hown1
                                      have hE1 := keepe_trans (keepe_alloc 34 WK _) (keepe_grown KL1.out hgrow)
                                      have hmne : ∀ q, (Value.slice Vm ys2.length cm).ownBlock = some q → (Value.slice Vl ys.length cl).ownBlock ≠ some q := fun q hq e => by
                                        have h1 := (KM.out.1.lt q hq).1
                                        have h2 := HLB.out q e
                                        omega
                                      have KM1 := Lib.hid (⟨other_kept KM.out.1 hgrow hmne, KM.out.2⟩ : _ ∧ _)
                                      have KU := Lib.hid (⟨hown1, fill_more KL.out.1.1 KL.out.2 (news3_at (-5))⟩ : _ ∧ _)
                                      have KUM := Lib.hid (fun q hq => loc_ne hloc (hmne q hq) (KM.out.1.lt q hq).2 : ∀ q, (Value.slice Vm ys2.length cm).ownBlock = some q → (Value.slice U (ys.length + 3) cu).ownBlock ≠ some q)
                                      have KG1 := Lib.hid (⟨own_keepe KB.out hE1 (by decide), own_keepe KW.out hE1 (by decide), ⟨own_keepe KS.out.1 hE1 (by decide), KS.out.2⟩, ⟨own_keepe KT.out.1 hE1 (by decide), KT.out.2⟩, own_keepe KG.out.1 hE1 (by decide), cu_heap (S' := V1.heap.size) KG.out.2.1 (by have := hgrow.size; simp at this; omega) (fun b cs h => hE1 b _ h (fun cs' e => by cases e)), bel_own (KG.out.2.2.1.alloc KG.out.2.2.1.size _) KL1.out hw2 hgrow, defsl_keepe KG.out.2.2.2 hE1⟩ : _ ∧ _ ∧ (_ ∧ _) ∧ (_ ∧ _) ∧ _ ∧ _ ∧ _ ∧ _)
                                      have hV13 : W3.heap.size ≤ V1.heap.size := by have := hgrow.size; simp at this; omega
                                      clear hown1 hgrow hloc hE1 hmne KL1 KL KM KB KW KS KT KG
                                      have KN1 := Lib.hid (World.ownsRow.alloc KM1.out.1 (.cells #[.int .i64 (-6), .int .i64 0, .slice none 0 0, .int .i64 0, .int .i64 (-6), .int .i64 0, .slice none 0 0, .int .i64 0, .int .i64 (-6), .int .i64 0, .slice none 0 0, .int .i64 0] 34))
                                      go_wp2_with (at_builtin; go_loud (refine wpList_append_own_keep _ rfl _ _ 24 rfl W3.heap.size 34 k0 (.agg #[.int .i64 0, .int .i64 0, .slice none 0 0, .int .i64 0]) 4 48 Tryd.underlying24 hk0 kz0 kz1 kz2 rfl (by decide) _ ys2.length _ rfl KN1.out ⟨V1.heap.size, 0, none⟩ 3 3 (news3 (-6)) rfl rfl ?vv1 ?vv2 ?vv3 ?vv4 ?vv5 ?_))
                                      case vv1 => first | exact fun _ _ h => h | exact cells_fresh V1 #[.int .i64 (-6), .int .i64 0, .slice none 0 0, .int .i64 0, .int .i64 (-6), .int .i64 0, .slice none 0 0, .int .i64 0, .int .i64 (-6), .int .i64 0, .slice none 0 0, .int .i64 0] _ _ rfl
                                      case vv2 => intro x hx; simp [news3] at hx; rcases hx with rfl | rfl | rfl | rfl | rfl | rfl | rfl | rfl | rfl | rfl | rfl | rfl <;> rfl
                                      case vv3 => have := HYL2.out; unfold maxLen; omega
                                      case vv4 => have := HYL2.out; omega
                                      case vv5 => first | omega | (simp only [World.size_alloc]; omega)
                                      intro v' V2 hown2 hgrow hloc _
                                      obtain ⟨Vv, cv, rfl⟩ := owns_shape hown2
                                      have hE2 := keepe_trans (keepe_alloc 34 V1 _) (keepe_grown KN1.out hgrow)
                                      have hmne : ∀ q, (Value.slice U (ys.length + 3) cu).ownBlock = some q → (Value.slice Vm ys2.length cm).ownBlock ≠ some q := fun q hq e => KUM.out q e hq
                                      have KU2 := Lib.hid (⟨other_kept KU.out.1 hgrow hmne, KU.out.2⟩ : _ ∧ _)
                                      have KV2 := Lib.hid (⟨hown2, fill_more KM1.out.1.1 KM1.out.2 (news3_at (-6))⟩ : _ ∧ _)
                                      have KG2 := Lib.hid (⟨own_keepe KG1.out.1 hE2 (by decide), own_keepe KG1.out.2.1 hE2 (by decide), ⟨own_keepe KG1.out.2.2.1.1 hE2 (by decide), KG1.out.2.2.1.2⟩, ⟨own_keepe KG1.out.2.2.2.1.1 hE2 (by decide), KG1.out.2.2.2.1.2⟩, own_keepe KG1.out.2.2.2.2.1 hE2 (by decide), cu_heap (S' := V2.heap.size) KG1.out.2.2.2.2.2.1 (by have := hgrow.size; simp at this; omega) (fun b cs h => hE2 b _ h (fun cs' e => by cases e)), bel_own (KG1.out.2.2.2.2.2.2.1.alloc KG1.out.2.2.2.2.2.2.1.size _) KN1.out (by omega) hgrow, defsl_keepe KG1.out.2.2.2.2.2.2.2 hE2⟩ : _ ∧ _ ∧ (_ ∧ _) ∧ (_ ∧ _) ∧ _ ∧ _ ∧ _ ∧ _)
                                      clear hown2 hgrow hloc hE2 hmne KN1 KM1 KU KG1 KUM
                                      have hg56w : w.heap.size ≤ g5 ∧ w.heap.size ≤ g6 := by omega
                                      have KS1 := Lib.hid (World.ownsRow.alloc KG2.out.2.2.1.1 (.cells #[.bool true, .bool true, .bool true, .bool true, .bool true, .bool true, .bool true, .bool true] 4))
                                      go_wp2_with (at_builtin; go_loud (refine wpList_append_own_keep _ rfl _ _ 45 rfl g5 4 q0 (.bool false) 1 1 Tryd.underlying45 hq0 qz0 qz1 qz2 rfl (by decide) _ n _ rfl KS1.out ⟨V2.heap.size, 0, none⟩ 8 8 (List.replicate 8 (.bool true)) rfl rfl ?cc_1 ?cc_2 ?cc_3 ?cc_4 ?cc_5 ?_))
                                      case cc_1 => first | exact fun _ _ h => h | exact cells_fresh V2 #[.bool true, .bool true, .bool true, .bool true, .bool true, .bool true, .bool true, .bool true] _ _ rfl
                                      case cc_2 => intro x hx; rw [List.eq_of_mem_replicate hx]; rfl
                                      case cc_3 => have := HYL2.out; unfold maxLen; omega
                                      case cc_4 => have := HYL2.out; omega
                                      case cc_5 => have := (own_lt KS1.out).2; omega
                                      intro v' V3 hown3 hgrow hloc _
                                      obtain ⟨Cv, cc, rfl⟩ := owns_shape hown3
                                      have hE3 := keepe_trans (keepe_alloc 4 V2 _) (keepe_grown KS1.out hgrow)
                                      have hmne : ∀ q, (Value.slice (some ⟨g6, 0, none⟩) n n).ownBlock = some q → (Value.slice (some ⟨g5, 0, none⟩) n n).ownBlock ≠ some q := fun q hq e => by
                                        have h1 : g6 = q := Option.some.inj hq
                                        have h2 : g5 = q := Option.some.inj e
                                        omega
                                      have KT3 := Lib.hid (⟨other_kept KG2.out.2.2.2.1.1 hgrow hmne, KG2.out.2.2.2.1.2⟩ : _ ∧ _)
                                      have KC := Lib.hid (⟨hown3, fill_more KG2.out.2.2.1.1.1 KG2.out.2.2.1.2 (news8_at (.bool true))⟩ : _ ∧ _)
                                      have KCM := Lib.hid (fun q hq => loc_ne hloc (hmne q hq) (KG2.out.2.2.2.1.1.lt q hq).2 : ∀ q, (Value.slice (some ⟨g6, 0, none⟩) n n).ownBlock = some q → (Value.slice Cv (n + 8) cc).ownBlock ≠ some q)
                                      have KG3 := Lib.hid (⟨own_keepe KG2.out.1 hE3 (by decide), own_keepe KG2.out.2.1 hE3 (by decide), ⟨own_keepe KU2.out.1 hE3 (by decide), KU2.out.2⟩, ⟨own_keepe KV2.out.1 hE3 (by decide), KV2.out.2⟩, own_keepe KG2.out.2.2.2.2.1 hE3 (by decide), cu_heap (S' := V3.heap.size) KG2.out.2.2.2.2.2.1 (by have := hgrow.size; simp at this; omega) (fun b cs h => hE3 b _ h (fun cs' e => by cases e)), bel_own (KG2.out.2.2.2.2.2.2.1.alloc KG2.out.2.2.2.2.2.2.1.size _) KS1.out hg56w.1 hgrow, defsl_keepe KG2.out.2.2.2.2.2.2.2 hE3⟩ : _ ∧ _ ∧ (_ ∧ _) ∧ (_ ∧ _) ∧ _ ∧ _ ∧ _ ∧ _)
                                      clear hown3 hgrow hloc hE3 hmne KS1 KG2 KU2 KV2
                                      have KT1 := Lib.hid (World.ownsRow.alloc KT3.out.1 (.cells #[.bool false, .bool false, .bool false, .bool false, .bool false, .bool false, .bool false, .bool false] 4))
                                      go_wp2_with (at_builtin; go_loud (refine wpList_append_own_keep _ rfl _ _ 45 rfl g6 4 q0 (.bool false) 1 1 Tryd.underlying45 hq0 qz0 qz1 qz2 rfl (by decide) _ n _ rfl KT1.out ⟨V3.heap.size, 0, none⟩ 8 8 (List.replicate 8 (.bool false)) rfl rfl ?dd1 ?dd2 ?dd3 ?dd4 ?dd5 ?_))
                                      case dd1 => first | exact fun _ _ h => h | exact cells_fresh V3 #[.bool false, .bool false, .bool false, .bool false, .bool false, .bool false, .bool false, .bool false] _ _ rfl
                                      case dd2 => intro x hx; rw [List.eq_of_mem_replicate hx]; rfl
                                      case dd3 => have := HYL2.out; unfold maxLen; omega
                                      case dd4 => have := HYL2.out; omega
                                      case dd5 => have := (own_lt KT1.out).2; omega
                                      intro v' V4 hown4 hgrow hloc _
                                      obtain ⟨Dv, cd, rfl⟩ := owns_shape hown4
                                      have hE4 := keepe_trans (keepe_alloc 4 V3 _) (keepe_grown KT1.out hgrow)
                                      have hmne : ∀ q, (Value.slice Cv (n + 8) cc).ownBlock = some q → (Value.slice (some ⟨g6, 0, none⟩) n n).ownBlock ≠ some q := fun q hq e => KCM.out q e hq
                                      have KC4 := Lib.hid (⟨other_kept KC.out.1 hgrow hmne, KC.out.2⟩ : _ ∧ _)
                                      have KD4 := Lib.hid (⟨hown4, fill_more KT3.out.1.1 KT3.out.2 (news8_at (.bool false))⟩ : _ ∧ _)
                                      have KG4 := Lib.hid (⟨own_keepe KG3.out.1 hE4 (by decide), own_keepe KG3.out.2.1 hE4 (by decide), ⟨own_keepe KG3.out.2.2.1.1 hE4 (by decide), KG3.out.2.2.1.2⟩, ⟨own_keepe KG3.out.2.2.2.1.1 hE4 (by decide), KG3.out.2.2.2.1.2⟩, own_keepe KG3.out.2.2.2.2.1 hE4 (by decide), cu_heap (S' := V4.heap.size) KG3.out.2.2.2.2.2.1 (by have := hgrow.size; simp at this; omega) (fun b cs h => hE4 b _ h (fun cs' e => by cases e)), bel_own (KG3.out.2.2.2.2.2.2.1.alloc KG3.out.2.2.2.2.2.2.1.size _) KT1.out hg56w.2 hgrow, defsl_keepe KG3.out.2.2.2.2.2.2.2 hE4⟩ : _ ∧ _ ∧ (_ ∧ _) ∧ (_ ∧ _) ∧ _ ∧ _ ∧ _ ∧ _)
                                      clear hown4 hgrow hloc hE4 hmne KT1 KG3 KC KCM KT3
                                      go_wp2
                                      go_loop [37] (fun vi => ∃ i : Nat, vi = .int .i64 i ∧ i ≤ N) (fun vi => N - (intOf vi).toNat)
                                      case atStart => exact ⟨0, rfl, by omega⟩
                                      case round =>
                                        obtain ⟨i, rfl, hin⟩ := hrel
                                        by_cases hiN : i < N
                                        · have hii : (i : Int) < (N : Int) := by omega
                                          have hl2 := HF2.out i hiN
                                          have hlo := KG4.out.2.2.2.2.1
                                          obtain ⟨gl, hgl⟩ := own_head hlo (by omega)
                                          rw [hgl] at hlo
                                          have d0 := (hlo.cellAt i (by omega)).trans (upd_at hiN)
                                          obtain ⟨b1, c1, hu1, hcell⟩ := cu_at KG4.out.2.2.2.2.2.1 i hiN
                                          rw [hu1] at d0
                                          have HC := Lib.hid hcell
                                          have HGL := Lib.hid hgl
                                          clear hlo hcell hu1
                                          subst hgl
                                          go_wp2
                                          go_loop [38] (fun vk => ∃ k : Nat, vk = .int .i64 k ∧ k ≤ ln i + 40) (fun vk => ln i + 40 - (intOf vk).toNat)
                                          case atStart => exact ⟨0, rfl, by omega⟩
                                          case round =>
                                            obtain ⟨k, rfl, hk⟩ := hrel
                                            by_cases hk4 : k < ln i + 40
                                            · have hki : (k : Int) < (ln i : Int) + 40 := by omega
                                              have hc := HC.out k hk4
                                              unfold mkB at hc
                                              go_wp2
                                              exact ⟨⟨k + 1, by go_num, by omega⟩, by simp [intOf]; omega⟩
                                            · have hki : ¬ (k : Int) < (ln i : Int) + 40 := by omega
                                              go_wp2
                                              exact ⟨⟨i + 1, by go_num, by omega⟩, by simp [intOf]; omega⟩
                                        · have hii : ¬ (i : Int) < (N : Int) := by omega
                                          clear hin
                                          go_wp2
                                          go_loop [39] (fun vi => ∃ i : Nat, vi = .int .i64 i ∧ i ≤ ys.length + 3) (fun vi => ys.length + 3 - (intOf vi).toNat)
                                          case atStart => exact ⟨0, rfl, by omega⟩
                                          case round =>
                                            obtain ⟨j, rfl, hjn⟩ := hrel
                                            by_cases hj : j < ys.length + 3
                                            · have hji : (j : Int) < (ys.length : Int) + 3 := by omega
                                              have hji2 : (j : Int) < (ys2.length : Int) + 3 := by have := HYL2.out; omega
                                              have ho := KG4.out.2.2.1.1
                                              obtain ⟨gu, hgu⟩ := own_head ho (by omega)
                                              rw [hgu] at ho
                                              have d0 := (ho.cellAt (j * 4) (by omega)).trans (KG4.out.2.2.1.2 j hj)
                                              have ho2 := KG4.out.2.2.2.1.1
                                              obtain ⟨gv, hgv⟩ := own_head ho2 (by have := HYL2.out; omega)
                                              rw [hgv] at ho2
                                              have d2 := (ho2.cellAt (j * 4) (by have := HYL2.out; omega)).trans (KG4.out.2.2.2.1.2 j (by have := HYL2.out; omega))
                                              clear ho ho2
                                              subst hgu hgv
                                              go_wp2
                                              exact ⟨⟨j + 1, by go_num, by omega⟩, by simp [intOf]; omega⟩
                                            · have hji : ¬ (j : Int) < (ys.length : Int) + 3 := by omega
                                              clear hjn
                                              go_wp2
                                              go_loop [40] (fun vi => ∃ i : Nat, vi = .int .i64 i ∧ i ≤ n + 8) (fun vi => n + 8 - (intOf vi).toNat)
                                              case atStart => exact ⟨0, rfl, by omega⟩
                                              case round =>
                                                obtain ⟨r, rfl, hrn⟩ := hrel
                                                by_cases hr : r < n + 8
                                                · have hri : (r : Int) < (n : Int) + 8 := by omega
                                                  have ho := KC4.out.1
                                                  obtain ⟨gu, hgu⟩ := own_head ho (by omega)
                                                  rw [hgu] at ho
                                                  have d0 := (ho.cellAt (r * 1) (by omega)).trans (KC4.out.2 r hr)
                                                  have ho2 := KD4.out.1
                                                  obtain ⟨gv, hgv⟩ := own_head ho2 (by have := HYL2.out; omega)
                                                  rw [hgv] at ho2
                                                  have d2 := (ho2.cellAt (r * 1) (by omega)).trans (KD4.out.2 r hr)
                                                  rw [Nat.mul_one] at d0 d2
                                                  clear ho ho2
                                                  subst hgu hgv
                                                  go_wp2
                                                  exact ⟨⟨r + 1, by go_num, by omega⟩, by simp [intOf]; omega⟩
                                                · have hri : ¬ (r : Int) < (n : Int) + 8 := by omega
                                                  clear hrn
                                                  go_wp2_with (go_at_call 16; refine stop_o ?_)
                                                  unfold StopO
                                                  refine (HC1.out V4 KG4.out.1).mono ?_
                                                  rintro e V5 ⟨xs9, ys9, v9, hall9, rfl, ho9, -, -, hc9, hb⟩
                                                  rw [all_fst HX.out.1 hall9, HX.out.2.1] at hc9 ⊢
                                                  dsimp only at hc9 ⊢
                                                  obtain ⟨V9, c9, rfl⟩ := owns_shape ho9
                                                  have hyl9 : ys9.length = ys.length := by
                                                    rcases HX.out.2.2.1 with ⟨h, rfl⟩ | ⟨h, rfl⟩
                                                    · rcases hc9 with ⟨_, rfl⟩ | ⟨h2, _⟩
                                                      · have := congrArg List.length (all_fst HX.out.1 hall9)
                                                        simpa using this
                                                      · exact absurd h h2
                                                    · rcases hc9 with ⟨h2, _⟩ | ⟨_, rfl⟩
                                                      · exact absurd h2 h
                                                      · rfl
                                                  rw [hyl9]
                                                  have ib := owned_ints (zs := bs) (c := cb) (B := w.heap.size) (by rw [← HN.out]; exact own_below KG4.out.1 hb)
                                                  have iw := owned_ints (zs := bs) (c := cy) (B := W1.heap.size) (by rw [← HN.out]; exact own_below KG4.out.2.1 hb)
                                                  have cv1 := conv_str (cap := cb) ib HN.out
                                                  have cv2 := conv_str (cap := cy) iw HN.out
                                                  have HE := Lib.hid (⟨KG4.out.2.2.2.2.2.2.1.trans (hb.mono KG4.out.2.2.2.2.2.2.1.size), defsl_below KG4.out.2.2.2.2.2.2.2 hb⟩ : _ ∧ _)
                                                  clear ho9 hall9 hc9 hyl9 ib iw hb KG4 KC4 KD4
                                                  go_wp2_with (go_at_call 17; refine (awake6 _).mono ?_; rintro e W6 ⟨rfl, hb6⟩)
                                                  refine leaves_defs _ _ (defsl_below HE.out.2 hb6) fun W' hbW hkW => ?_
                                                  refine ⟨_, results_tmp rfl _ _ _, rfl, ?_⟩
                                                  exact (HE.out.1.trans (hb6.mono HE.out.1.size)).trans hbW
end Go.Proofs.YthjnjdpiihpgeaaDoor
