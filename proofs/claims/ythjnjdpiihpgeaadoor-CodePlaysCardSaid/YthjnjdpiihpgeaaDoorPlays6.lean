/- vouchlaw6.CodePlays: the walk. -/
import Derived.Test.YthjnjdpiihpgeaaDoorSameAll6
import Derived.Test.YthjnjdpiihpgeaaDoorRefCheck6
import Derived.Test.YthjnjdpiihpgeaaDoorRefStarts6
import Derived.Test.YthjnjdpiihpgeaaDoorCheck6
import Derived.Test.YthjnjdpiihpgeaaDoorStay6
import Derived.Test.YthjnjdpiihpgeaaDoorOpenTurns
import Derived.Test.YthjnjdpiihpgeaaDoorDefs
import Derived.Test.YthjnjdpiihpgeaaDoorFrames
import Derived.Test.YthjnjdpiihpgeaaDoorCut6
import Derived.Test.YthjnjdpiihpgeaaDoorAgrees6
import Derived.Deep.DeepCutAuto
import Derived.LoopIn
import Derived.Sort.LoopGhostIn
import Derived.Sort.CutIn
import Derived.Laws.EntriesVeiled
namespace Go.Proofs.YthjnjdpiihpgeaaDoor
open Go.RowKit Vouch Go.Vk Go.Sort
attribute [local go_sem] Oper.semAt_some
theorem all_fst {bs : List Int} {xs ys : List El} (h : AllOf bs xs) (h' : AllOf bs ys) : ys.map Prod.fst = xs.map Prod.fst := by
  obtain ⟨p, h1, h2⟩ := h
  obtain ⟨q, g1, g2⟩ := h'
  exact (reads_all h1 h2 g1 g2).1
theorem all_length {bs : List Int} {xs : List El} (h : AllOf bs xs) : xs.length ≤ bs.length := by
  obtain ⟨p, h1, _⟩ := h
  have := reads_length h1
  simpa using this
/-- What stands at each round's head. -/
def PlInv (w : World) (n g c cy : Nat) (Y : Option Addr) (B1 B2 : Nat) (T : Option Addr) (capT m : Nat) (N : Nat) (k : Nat) (a : Act) (W : World) : Prop :=
  a.tmps.size = 188 ∧ ∃ (i : Nat) (zs : List Int), i + k = N ∧ i ≤ m + 1 ∧ i ≤ 21 ∧ a.tmps.getD 1 undef = .slice T m capT ∧ a.tmps.getD 4 undef = .pointer (some ⟨w.heap.size, 0, none⟩) ∧ a.tmps.getD 5 undef = .slice (some ⟨g, 0, none⟩) n c ∧ a.tmps.getD 6 undef = .slice Y n cy ∧ a.tmps.getD 7 undef = .int .i64 (i : Int) ∧
    DefsL B2 a.defers W ∧ zs.length = n ∧ (∀ z ∈ zs, 0 ≤ z ∧ z < 256) ∧ W.ownsRow B1 5 1 (.slice (some ⟨g, 0, none⟩) (n + 75) c) (n + 75) (byteVs (zs ++ marksN 75)) ∧ W.ownsRow B2 5 1 (.slice Y n cy) n (byteVs zs) ∧
    W.heap[w.heap.size]? = some (.cells #[.bool false] 4 (0, 0)) ∧ Below w.heap.size w W ∧ B2 ≤ W.heap.size
theorem laid_ints {W : World} {B g c n : Nat} {zs : List Int} (h : W.ownsRow B 5 1 (.slice (some ⟨g, 0, none⟩) (n + 75) c) (n + 75) (byteVs (zs ++ marksN 75))) (hn : zs.length = n) : IntsAt W .u8 (some ⟨g, 0, none⟩) zs := by
  have e : (zs ++ marksN 75).length = n + 75 := by rw [List.length_append, marksN_length, hn]
  rw [← e] at h
  have h2 := ints_take (owned_ints h) n
  rwa [List.take_left' hn] at h2
theorem want_at {bs : List Int} {xs pre : List El} {p : Int} {i : Ins} (hall : AllOf bs xs) (h1 : Reads bs (pre.map Prod.fst) p) (h2 : readE bs p = (0, i)) : pre.length < xs.length ∧ ∃ yv, xs[pre.length]? = some (i, yv) := by
  have hrd2 : Reads bs (pre.map Prod.fst ++ [i]) i.next := .snoc h1 h2
  obtain ⟨hin1, hin2⟩ := reads_in hrd2 hall
  have hlt2 : pre.length < xs.length := by rw [List.length_append, List.length_map, List.length_singleton] at hin1; omega
  refine ⟨hlt2, ?_⟩
  have e : (xs.map Prod.fst)[pre.length]? = some i := by
    rw [List.length_append, List.length_map] at hin2
    have := congrArg (fun l => l[pre.length]?) hin2
    rw [List.getElem?_append_right (by simp), List.length_map, Nat.sub_self] at this
    rw [List.getElem?_take, if_pos (by simp)] at this
    exact this.symm
  rw [List.getElem?_map] at e
  cases hq : xs[pre.length]? with
  | none => rw [hq] at e; cases e
  | some y => rw [hq] at e; exact ⟨y.2, by rw [← Option.some.inj e]⟩
theorem turn_fin {wv V1 wr W : World} {bn r n m t : Nat} {o : Obj} (hm : m = n + 1) (h1 : OneInv wv V1 bn t (.int .i64 n) wr) (hbw : wv.heap.size ≤ bn) (hb : bn < V1.heap.size) (hr : V1.heap.size ≤ r) (h2 : wr.heap[r]? = some o) (h3 : KeepsFrom V1.heap.size W wr) :
    KeepsFrom V1.heap.size W (wr.setCell ⟨bn, 0, none⟩ (.int .i64 ((n : Int) + 1))) ∧ OneInv wv V1 bn t (.int .i64 (m : Int)) (wr.setCell ⟨bn, 0, none⟩ (.int .i64 ((n : Int) + 1))) ∧ (wr.setCell ⟨bn, 0, none⟩ (.int .i64 ((n : Int) + 1))).heap[r]? = some o := by
  subst hm
  refine ⟨h3.trans ((KeepsOthers.setCell _ _ _).from _), ?_, heap_setOther h2 (by dsimp only; omega) _⟩
  have := one_set hbw hb h1 (Below.refl _ _) (.int .i64 ((n : Int) + 1))
  simpa using this
theorem held_keep' {bs : List Int} {w W0 W : World} {b B g : Nat} {v v0 : Value} (h : OneInv w W0 b 3 v W) (hh : HeldAt bs B g W0) (hc : W0.heap[b]? = some (.cells #[v0] 3 (0, 0))) : HeldAt bs B g W := by
  obtain ⟨k, h1, h2, h3, h4⟩ := hh
  refine ⟨k, h1, h2, (h.2.2.1 g (Array.getElem?_eq_some_iff.1 h3).1 ?_).trans h3, (h.2.2.1 k (Array.getElem?_eq_some_iff.1 h4).1 ?_).trans h4⟩
  · rintro rfl
    rw [hc] at h3
    cases h3
  · rintro rfl
    rw [hc] at h4
    simp at h4
theorem plays_end {W : World} {g : Nat} {b : Bool} {tmps : Array Value} (h2 : tmps.getD 4 undef = .pointer (some ⟨g, 0, none⟩)) (hA : W.heap[g]? = some (.cells #[.bool b] 4 (0, 0))) :
    (results Tryd.f13 tmps).run Tryd.prog W = .ok (.bool b) W := by
  have hc : W.cell? ⟨g, 0, none⟩ = some (.bool b) := by simp [World.cell?, hA]
  have h2' : tmps[4]?.getD undef = .pointer (some ⟨g, 0, none⟩) := by simpa using h2
  simp [results, h2', asAddr, loadVar, go_sem, hc]
set_option maxHeartbeats 2000000 in
set_option maxRecDepth 100000 in
theorem plays_walk (A : Option Addr) (capA : Nat) (za : List Int) (T : Option Addr) (capT : Nat) (ts : List (Int × Int)) (w : World) (hca : IntsAt w .u8 A za) (hza : ∀ n ∈ za, (Lit.int .u8 n).wf = true) (hzl : za.length ≤ 140737488355328) (ht : TurnsAt w T ts) (htl : ts.length ≤ 140737488351232) :
    Calls Tryd.prog 13 #[.slice A za.length capA, .slice T ts.length capT] w fun e w' => e = .returned (.bool true) ∧ Below w.heap.size w w' := by
  obtain ⟨i0, hi, hz0, hz1, hz2⟩ := info_parts infoByte
  have hz' : ∀ z ∈ za.take 70000, 0 ≤ z ∧ z < 256 := fun z hz2 => byte_wf (hza z (List.mem_of_mem_take hz2))
  have hbl : (za.take 70000).length ≤ 70000 := by rw [List.length_take]; omega
  have hB0 : Below w.heap.size w (w.alloc (.cells #[.bool false] 4)) := (Below.refl _ _).alloc (Nat.le_refl _) _
  have HL := Lib.hid (laid_any za A capA _ (ints_below hB0 hca) hzl)
  have hg0 := heap_alloc_at w (.cells #[.bool false] 4) _ rfl
  have hs0 : (w.alloc (.cells #[.bool false] 4)).heap.size = w.heap.size + 1 := by simp
  clear hca hza
  generalize za.take 70000 = bs at hz' hbl HL
  have HT := Lib.hid ht
  have HZ := Lib.hid hz'
  clear hz' ht
  refine (callsIn_wide (n := 8)).1 ?_
  refine callsIn_of_wp_marks Tryd.func13 rfl trivial ?_ rfl
  simp only [Tryd.ntmps13, List.size_toArray, List.length_cons, List.length_nil, Nat.reduceAdd, Nat.reduceSub, Array.replicate_succ, Array.replicate_zero, List.push_toArray, List.append_toArray, List.nil_append, List.cons_append]
  gi_wp2_with (refine ⟨trivial, ?_⟩; gi_at_call 21; refine stop_o ?_)
  unfold StopO
  refine (callsIn_wide.2 HL.out).mono ?_
  rintro e w1 ⟨g, c, rfl, ow, hb⟩
  have k0 := kept_of2 hb hg0
  have hB1 := hB0.trans (hb.mono hB0.size)
  have hgl := own_lt ow
  have hcl := owned_cap ow
  rw [hs0] at ow hgl
  clear hb hg0 hB0 hs0 HL
  have hE := own_empty w1
  have hbE : Below w1.heap.size w1 (w1.alloc (.cells #[] 5)) := (Below.refl _ _).alloc (Nat.le_refl _) _
  have HE := Lib.hid hE
  have hsrc : ∀ j v, (byteVs bs)[j]? = some v → (w1.alloc (.cells #[] 5)).cell? ((⟨g, 0, none⟩ : Addr).add j) = some v := by
    have h1 : (byteVs (bs ++ marksN 75)).length = bs.length + 75 := by rw [byteVs_length, List.length_append, marksN_length]
    have h := own_below ow hbE
    intro j v hj
    have hjl : j < bs.length := by have := (List.getElem?_eq_some_iff.1 hj).1; rwa [byteVs_length] at this
    rw [show (⟨g, 0, none⟩ : Addr).add j = ⟨g, j, none⟩ by unfold Addr.add; split <;> simp_all, h.cellAt j (by omega)]
    unfold byteVs at hj ⊢
    rw [List.map_append, List.getElem?_append_left (by simpa using hjl)]
    exact hj
  have HS := Lib.hid hsrc
  have HB := Lib.hid (⟨ow, k0, hB1, hbE⟩ : _ ∧ _ ∧ _ ∧ _)
  clear hE hsrc ow k0 hB1 hbE
  gi_wp2_with (gi_at_builtin; refine wpListIn_append_own _ rfl _ _ 22 rfl w1.heap.size 5 i0 (.int .u8 0) 1 1 Tryd.underlying22 hi hz0 hz1 hz2 rfl (by decide) _ _ _ rfl HE.out ⟨g, 0, none⟩ bs.length c (byteVs bs) rfl ?c0 ?c1 ?c2 ?c3 ?c4 ?c5 ?_)
  case c0 => rw [byteVs_length]; omega
  case c1 => exact HS.out
  case c2 => exact bytes_one
  case c3 => unfold maxLen; omega
  case c4 => omega
  case c5 => simp
  intro vy w2 hown2 hgrow _
  obtain ⟨Y, cy, rfl⟩ := owns_shape hown2
  have hbb := bel_own HB.out.2.2.2 HE.out (Nat.le_refl _) hgrow
  have r0 := kept_of2 hbb HB.out.2.1
  have ow := own_below HB.out.1 hbb
  have hB2 := HB.out.2.2.1.trans (hbb.mono HB.out.2.2.1.size)
  have hs2 := hbb.size
  have on : w2.ownsRow w1.heap.size 5 1 (.slice Y bs.length cy) bs.length (byteVs bs) := by simpa using hown2
  have HX := Lib.hid (⟨ow, on, r0, hB2, hs2⟩ : _ ∧ _ ∧ _ ∧ _ ∧ _)
  clear hown2 hgrow hbb r0 ow hB2 on HB HE HS
  obtain ⟨n, hn⟩ : ∃ n, n = bs.length := ⟨_, rfl⟩
  rw [← hn] at HX hbl hcl ⊢
  have HN := Lib.hid hn
  clear hn
  gi_wp2
  refine wpIn_loop_ghost_k (PlInv w n g c cy Y (w.heap.size + 1) w1.heap.size T capT ts.length 21) 21 ?start ?round
  case start => exact ⟨rfl, 0, bs, rfl, by omega, by omega, rfl, rfl, by simp, by simp, rfl, trivial, HN.out.symm, HZ.out, HX.out⟩
  case round =>
    clear HX HZ HN hs2
    rintro k ⟨tm, ds⟩ w' ⟨hsz, i, zs, hk, him, hi21, e1, e4, e5, e6, e7, hD, hzn, hzb, ow, on, r0, hB, hN2⟩ J K hJ hKK
    obtain ⟨u, hu, ha⟩ := frame_open hsz
    dsimp only at e1 e4 e5 e6 e7 hD hu ha
    rw [hu] at e1 e4 e5 e6 e7
    have ha2 : tm = #[u 0, u 1, u 2, u 3, u 4, u 5, u 6, u 7, u 8, u 9, u 10, u 11, u 12, u 13, u 14, u 15, u 16, u 17, u 18, u 19, u 20, u 21, u 22, u 23, u 24, u 25, u 26, u 27, u 28, u 29, u 30, u 31, u 32, u 33, u 34, u 35, u 36, u 37, u 38, u 39, u 40, u 41, u 42, u 43, u 44, u 45, u 46, u 47, u 48, u 49, u 50, u 51, u 52, u 53, u 54, u 55, u 56, u 57, u 58, u 59, u 60, u 61, u 62, u 63, u 64, u 65, u 66, u 67, u 68, u 69, u 70, u 71, u 72, u 73, u 74, u 75, u 76, u 77, u 78, u 79, u 80, u 81, u 82, u 83, u 84, u 85, u 86, u 87, u 88, u 89, u 90, u 91, u 92, u 93, u 94, u 95, u 96, u 97, u 98, u 99, u 100, u 101, u 102, u 103, u 104, u 105, u 106, u 107, u 108, u 109, u 110, u 111, u 112, u 113, u 114, u 115, u 116, u 117, u 118, u 119, u 120, u 121, u 122, u 123, u 124, u 125, u 126, u 127, u 128, u 129, u 130, u 131, u 132, u 133, u 134, u 135, u 136, u 137, u 138, u 139, u 140, u 141, u 142, u 143, u 144, u 145, u 146, u 147, u 148, u 149, u 150, u 151, u 152, u 153, u 154, u 155, u 156, u 157, u 158, u 159, u 160, u 161, u 162, u 163, u 164, u 165, u 166, u 167, u 168, u 169, u 170, u 171, u 172, u 173, u 174, u 175, u 176, u 177, u 178, u 179, u 180, u 181, u 182, u 183, u 184, u 185, u 186, u 187] := (Act.mk.inj ha).1
    rw [e1, e4, e5, e6, e7] at ha2
    subst ha2
    refine wpIn_wide.2 ?_
    have hiw := laid_ints ow hzn
    have hiy : IntsAt w' .u8 Y zs := owned_ints (zs := zs) (c := cy) (B := w1.heap.size) (by rw [hzn]; exact on)
    have HC1 : Hid (∀ W1, Below w'.heap.size w' W1 → Calls Tryd.prog 16 #[.slice (some ⟨g, 0, none⟩) n c] W1 (ScanOut zs W1)) := Lib.hid (fun W1 hb => by have := scan_any zs (some ⟨g, 0, none⟩) c W1 (ints_below hb hiw) hzb (by omega) (by omega); rwa [hzn] at this)
    have HC2 : Hid (∀ W1, Below w'.heap.size w' W1 → Calls Tryd.prog 34 #[.slice Y n cy] W1 (RScanOut zs W1)) := Lib.hid (fun W1 hb => by have := refscan_any zs Y cy W1 (ints_below hb hiy) hzb (by omega); rwa [hzn] at this)
    have HC3 : Hid (∀ W1, Below w'.heap.size w' W1 → Calls Tryd.prog 32 #[.slice (some ⟨g, 0, none⟩) n c] W1 (CheckOut zs W1)) := Lib.hid (fun W1 hb => by have := check_any zs (some ⟨g, 0, none⟩) c W1 (ints_below hb hiw) hzb (by omega) (by omega); rwa [hzn] at this)
    have HC4 : Hid (∀ W1, Below w'.heap.size w' W1 → Calls Tryd.prog 33 #[.slice Y n cy] W1 (CheckOut zs W1)) := Lib.hid (fun W1 hb => by have := refcheck_any zs Y cy W1 (ints_below hb hiy) hzb (by omega); rwa [hzn] at this)
    have HC5 : Hid (∀ W1, Below w'.heap.size w' W1 → Calls Tryd.prog 25 #[.slice (some ⟨g, 0, none⟩) n c] W1 (StartsOut zs W1)) := Lib.hid (fun W1 hb => by have := starts_any zs (some ⟨g, 0, none⟩) c W1 (ints_below hb hiw) hzb (by omega); rwa [hzn] at this)
    have HC6 : Hid (∀ W1, Below w'.heap.size w' W1 → Calls Tryd.prog 35 #[.slice Y n cy] W1 (StartsOut zs W1)) := Lib.hid (fun W1 hb => by have := refstarts_any zs Y cy W1 (ints_below hb hiy) hzb (by omega); rwa [hzn] at this)
    have HC7 : Hid (∀ W1, Below w'.heap.size w' W1 → Calls Tryd.prog 36 #[.slice Y n cy] W1 (RefAllOut zs W1)) := Lib.hid (fun W1 hb => by have := refall_any zs Y cy W1 (ints_below hb hiy) hzb (by omega); rwa [hzn] at this)
    have HC8 : Hid (∀ W1, Below w'.heap.size w' W1 → Calls Tryd.prog 19 #[.slice (some ⟨g, 0, none⟩) n c] W1 fun e w' => ∃ g, e = .returned (.func (.func 40) #[] #[.pointer (some ⟨g, 0, none⟩)]) ∧ HeldAt zs W1.heap.size g w' ∧ Below W1.heap.size W1 w') := Lib.hid (fun W1 hb => by have := codeall_any zs (some ⟨g, 0, none⟩) c W1 (ints_below hb hiw) (by omega); rwa [hzn] at this)
    have HC9 : Hid (∀ W1, Below w'.heap.size w' W1 → Calls Tryd.prog 24 #[.slice (some ⟨g, 0, none⟩) n c, .slice Y n cy] W1 fun e w' => e = .returned (.bool true) ∧ Below W1.heap.size W1 w') := Lib.hid (fun W1 hb => by
      have := stay_any zs zs g c Y cy (w.heap.size + 1) W1 (by rw [hzn]; exact own_below ow hb) (ints_below hb hiy) (List.take_of_length_le (Nat.le_refl _)).symm (Nat.le_refl _) (by omega)
      rwa [hzn] at this)
    have HR := Lib.hid (⟨ow, on, r0, hB, hD⟩ : _ ∧ _ ∧ _ ∧ _ ∧ _)
    have HZN := Lib.hid hzn
    have HZB := Lib.hid hzb
    have hb0 : Below w'.heap.size w' w' := Below.refl _ _
    clear ow on r0 hB hD hiw hiy hzn hzb e1 e4 e5 e6 e7 hu ha hsz
    by_cases hin : i ≤ ts.length ∧ i ≤ 20
    · have hi1 : (i : Int) ≤ (ts.length : Int) := by omega
      have hi2 : (i : Int) ≤ 20 := by omega
      have HIN := Lib.hid hin
      clear hin
      go_wp2_with (go_at_call 16; refine stop_o ?_)
      unfold StopO
      refine (HC1.out w' hb0).mono ?_
      rintro e W1 ⟨xs, ys, v, hall, rfl, ho, hr, _, hc, hb⟩
      obtain ⟨E, P, hEP⟩ : ∃ E P, scanE zs (xs.map Prod.fst) = (E, P) := ⟨_, _, rfl⟩
      rw [hEP] at hc ⊢
      dsimp only at hc ⊢
      obtain ⟨V, cv, rfl⟩ := owns_shape ho
      have hb1 := hb0.trans (hb.mono hb0.size)
      have HALL := Lib.hid hall
      have HEP := Lib.hid hEP
      have HC := Lib.hid hc
      have HO := Lib.hid (⟨ho, hr⟩ : _ ∧ _)
      clear hall hEP hc ho hr hb HC1
      go_wp2_with (go_at_call 34; refine stop_o ?_)
      unfold StopO
      refine (HC2.out W1 hb1).mono ?_
      rintro e W2 ⟨xs2, ys2, v2, hall2, rfl, ho2, hr2, hc2, hb⟩
      rw [all_fst HALL.out hall2, HEP.out] at hc2 ⊢
      dsimp only at hc2 ⊢
      obtain ⟨V2, cv2, rfl⟩ := owns_shape ho2
      have hyy : ys.map Prod.fst = ys2.map Prod.fst := by
        rcases HC.out with ⟨h, rfl⟩ | ⟨h, rfl⟩
        · rcases hc2 with ⟨_, rfl⟩ | ⟨h2, _⟩
          · exact (all_fst HALL.out hall2).symm
          · exact absurd h h2
        · rcases hc2 with ⟨h2, _⟩ | ⟨_, rfl⟩
          · exact absurd h2 h
          · rfl
      have hyl : ys.length ≤ 70000 := by
        have := all_length HALL.out
        rcases HC.out with ⟨_, rfl⟩ | ⟨_, rfl⟩
        · rw [HZN.out] at this; omega
        · simp
      have hb2 := hb1.trans (hb.mono hb1.size)
      have HO2 := Lib.hid (⟨own_below HO.out.1 hb, fun x hx => own_below (HO.out.2 x hx) hb, ho2, hr2, hyy⟩ : _ ∧ RowsAt _ _ _ ∧ _ ∧ _ ∧ _)
      clear hall2 hc2 ho2 hr2 hb HC2 hyy HO HC HEP hb1
      go_wp2_with (go_at_call 32; refine stop_o ?_)
      unfold StopO
      refine (HC3.out W2 hb2).mono ?_
      rintro e W3 ⟨xs3, hall3, rfl, hb⟩
      rw [all_fst HALL.out hall3]
      have hb3 := hb2.trans (hb.mono hb2.size)
      have HB23 := Lib.hid hb
      clear hall3 hb HC3 hb2
      go_wp2_with (go_at_call 33; refine stop_o ?_)
      unfold StopO
      refine (HC4.out W3 hb3).mono ?_
      rintro e W4 ⟨xs4, hall4, rfl, hb⟩
      rw [all_fst HALL.out hall4]
      generalize (checkE zs (xs.map Prod.fst)).1 = F
      generalize (checkE zs (xs.map Prod.fst)).2 = S
      have hb4 := hb3.trans (hb.mono hb3.size)
      have HB24 := Lib.hid (HB23.out.trans (hb.mono HB23.out.size))
      clear hall4 hb HC4 hb3 HB23
      go_wp2_with (go_at_call 25; refine stop_o ?_)
      unfold StopO
      refine (HC5.out W4 hb4).mono ?_
      rintro e W5 ⟨rfl, xs5, hall5, hrow5, hb⟩
      rw [HZN.out] at hrow5 ⊢
      have hb5 := hb4.trans (hb.mono hb4.size)
      have HB25 := Lib.hid (HB24.out.trans (hb.mono HB24.out.size))
      have HF5 := Lib.hid (all_fst HALL.out hall5)
      have HW5 := Lib.hid hrow5
      have HS5 := Lib.hid hb
      clear hall5 hrow5 hb HC5 hb4 HB24
      go_wp2_with (go_at_call 35; refine stop_o ?_)
      unfold StopO
      refine (HC6.out W5 hb5).mono ?_
      rintro e W6 ⟨rfl, xs6, hall6, hrow6, hb⟩
      rw [HZN.out] at hrow6 ⊢
      have hb6 := hb5.trans (hb.mono hb5.size)
      have HB26 := Lib.hid (HB25.out.trans (hb.mono HB25.out.size))
      have HF6 := Lib.hid (all_fst HALL.out hall6)
      have HW6 := Lib.hid (⟨row_below HW5.out hb, hrow6⟩ : _ ∧ _)
      clear hall6 hrow6 hb HC6 hb5 HB25 HW5 HS5
      go_wp2_with (go_at_call 26; refine stop_o ?_)
      unfold StopO
      refine (sameall_any ys ys2 _ _ w'.heap.size W1.heap.size W6 (own_below HO2.out.1 HB26.out) (fun x hx => own_below (HO2.out.2.1 x hx) HB26.out) (own_below HO2.out.2.2.1 HB26.out) (fun x hx => own_below (HO2.out.2.2.2.1 x hx) HB26.out) HO2.out.2.2.2.2 (by omega)).mono ?_
      rintro e W7 ⟨rfl, hb⟩
      have hb7 := hb6.trans (hb.mono hb6.size)
      have HW7 := Lib.hid (⟨row_below HW6.out.1 hb, row_below HW6.out.2 hb⟩ : _ ∧ _)
      clear hb hb6 HB26 HW6 HO2
      go_wp2_with (go_at_call 24; refine stop_o ?_)
      unfold StopO
      refine (HC9.out W7 hb7).mono ?_
      rintro e W8 ⟨rfl, hb⟩
      have hb8 := hb7.trans (hb.mono hb7.size)
      have HW8 := Lib.hid (⟨row_below HW7.out.1 hb, row_below HW7.out.2 hb⟩ : _ ∧ _)
      clear hb hb7 HW7 HC9
      go_wp2
      go_loopw [20] (fun vk wx => ∃ q : Nat, vk = .int .i64 q ∧ q ≤ n ∧ Below W8.heap.size W8 wx) (fun vk _ => n - (intOf vk).toNat)
      case atStart => exact ⟨0, rfl, Nat.zero_le _, Below.refl _ _⟩
      case round =>
        obtain ⟨q, rfl, hq, hBq⟩ := hrel
        by_cases hqn : q < n
        · have hqi : (q : Int) < (n : Int) := by omega
          have d0 := (row_below HW8.out.1 hBq).cell hqn
          have d1 := (row_below HW8.out.2 hBq).cell hqn
          rw [HF5.out] at d0
          rw [HF6.out] at d1
          generalize startAt (xs.map Prod.fst) q = b at d0 d1
          go_wp2
          go_quiet (fail)
          go_wp2
          exact ⟨⟨q + 1, by go_num, by omega, below_drewN hBq _⟩, by simp [intOf]; omega⟩
        · have hqi : ¬ (q : Int) < (n : Int) := by omega
          obtain ⟨wv, hwv⟩ : ∃ wv, wv = wr := ⟨_, rfl⟩
          subst hwv
          have hbv := hb8.trans (hBq.mono hb8.size)
          obtain ⟨bn, hbn⟩ : ∃ bn, bn = wv.heap.size := ⟨_, rfl⟩
          have n0 := heap_alloc_at wv (.cells #[.int .i64 0] 3) bn hbn
          have hb9 := hbv.alloc hbv.size (.cells #[.int .i64 0] 3)
          have hbnw : w'.heap.size ≤ bn := by have := hbv.size; omega
          have HBN := Lib.hid hbn
          clear hBq hb8 HW8 hbv hbn HF5 HF6
          go_wp2_with (go_at_call 36; refine stop_o ?_)
          unfold StopO
          rw [← HBN.out]
          generalize wv.alloc (.cells #[.int .i64 0] 3) = W9 at n0 hb9 ⊢
          clear HBN
          refine (HC7.out W9 hb9).mono ?_
          rintro e WA ⟨xa, va, halla, rfl, hoA, hrA, hb⟩
          obtain ⟨VA, ca, rfl⟩ := owns_shape hoA
          have hbA := hb9.trans (hb.mono hb9.size)
          obtain ⟨ba, hba⟩ : ∃ ba, ba = WA.heap.size := ⟨_, rfl⟩
          have n1 := heap_alloc_before (kept_of2 hb n0) (.cells #[.slice VA xa.length ca] 24)
          have a1 := heap_alloc_at WA (.cells #[.slice VA xa.length ca] 24) ba hba
          have hbB := hbA.alloc hbA.size (.cells #[.slice VA xa.length ca] 24)
          have oB := hoA.alloc (.cells #[.slice VA xa.length ca] 24)
          have rB : RowsAt W9.heap.size xa (WA.alloc (.cells #[.slice VA xa.length ca] 24)) := fun x hx => (hrA x hx).alloc _
          have hxal := all_length halla
          have hnb : bn < ba := by have := (Array.getElem?_eq_some_iff.1 (kept_of2 hb n0)).1; omega
          have HXA := Lib.hid halla
          have HBA := Lib.hid hba
          rw [HZN.out] at hxal
          clear hoA hrA hb hbA n0 hb9 hba halla HC7
          go_wp2_with (go_at_call 19; refine stop_o ?_)
          unfold StopO
          rw [← HBA.out]
          generalize WA.alloc (.cells #[.slice VA xa.length ca] 24) = WB at n1 a1 hbB oB rB ⊢
          clear HBA
          refine (HC8.out WB hbB).mono ?_
          rintro e WC ⟨gA, rfl, hheld, hb⟩
          have n2 := kept_of2 hb n1
          have a2 := kept_of2 hb a1
          have oC := own_below oB hb
          have rC : RowsAt W9.heap.size xa WC := fun x hx => own_below (rB x hx) hb
          have hbC := hbB.trans (hb.mono hbB.size)
          have hBC := HR.out.2.2.2.1.trans (hbC.mono HR.out.2.2.2.1.size)
          have hrun1 : Sem.run Tryd.prog (binOp BinOp.eql 37 (.func (.func 40) #[] #[.pointer (some ⟨gA, 0, none⟩)]) .nilFunc) WC = .ok (.bool false) WC := by kernel_rfl
          clear hbB hb n1 a1 oB rB HC8
          go_wp2
          clear hrun1
          have hwC : w.heap.size ≤ WC.heap.size := hBC.size
          have hbnC := (Array.getElem?_eq_some_iff.1 n2).1
          have hbaC := (Array.getElem?_eq_some_iff.1 a2).1
          refine (wpIn_wide (n := 8)).1 ?_
          refine wpIn_rangeF rfl (by omega) (gf := 40) (lb := #[.pointer (some ⟨gA, 0, none⟩)]) rfl trivial (enters_of Tryd.func40 (by kernel_rfl) rfl) (all1_seq zs HZB.out (by have := HZN.out; omega) gA WB.heap.size 4 WC) (Below.refl _ _) (fun _ => rfl)
            (fun pre W => OneInv w WC bn 3 (.int .i64 pre.length) W) (fun _ _ _ => False) (fun s W W' row hs hg hr => one_kept hwC hs hg hr) (fun _ _ _ _ _ h _ _ => h)
            ⟨hBC, Nat.le_refl _, fun _ _ _ => rfl, n2⟩
            (fun pre W h => held_keep' h hheld n2)
            (fun pre x r a' W => (a'.tmps.size = 188 ∧ a'.defers = []) ∧ ∃ Bx X c, WC.heap.size ≤ Bx ∧ WC.heap.size ≤ r ∧ Bx ≠ r ∧ x.2 = .slice X x.1.imm.length c ∧ W.heap[Bx]? = some (.cells #[.int .i64 x.1.at_, .int .i64 x.1.code, .slice X x.1.imm.length c, .int .i64 x.1.next] 34 (0, 0)) ∧
              W.ownsRow WC.heap.size 5 1 (.slice X x.1.imm.length c) x.1.imm.length (byteVs x.1.imm) ∧ (∃ p, Reads zs (pre.map Prod.fst) p ∧ readE zs p = (0, x.1)) ∧
              a'.tmps.getD 21 undef = .pointer (some ⟨bn, 0, none⟩) ∧ a'.tmps.getD 22 undef = .pointer (some ⟨ba, 0, none⟩) ∧ a'.tmps.getD 24 undef = .pointer (some ⟨Bx, 0, none⟩))
            (fun pre x r a' _ W W' row hs hg hr => by
              obtain ⟨h0, Bx, X, c, h1, h2, h3, h4, h5, h6, h9⟩ := hs
              exact ⟨h0, Bx, X, c, h1, h2, h3, h4, blk_stays h5 hg hr, own_stays h6 hg hr, h9⟩) ?assign ?body ?done ?stop
          case assign =>
            rintro l pre ⟨i2, v2⟩ W o2 K2 hi2 ⟨hrd, hown, _⟩ ho2 hK2
            change W.ownsRow WC.heap.size 5 1 v2 i2.imm.length (byteVs i2.imm) at hown
            obtain ⟨X, c2, rfl⟩ := owns_shape hown
            unfold elV insV
            gi_wp2
            have hsz2 : ((W.alloc o2).alloc (.cells #[.int .i64 i2.at_, .int .i64 i2.code, .slice X i2.imm.length c2, .int .i64 i2.next] 34)).heap[W.heap.size]? = some o2 := (Below.heap_alloc _ _ _ (by simp)).trans (heap_alloc_new _ _)
            have hg2 : W.grownBy ((W.alloc o2).alloc (.cells #[.int .i64 i2.at_, .int .i64 i2.code, .slice X i2.imm.length c2, .int .i64 i2.next] 34)) none := grownBy_below (((Below.refl _ W).alloc (Nat.le_refl _) _).alloc (by simp) _)
            have hi3 := one_kept hwC hi2 hg2 (fun r e => by cases e)
            have ho3 := own_stays (B := 0) hown hg2 (fun r e => by cases e)
            have hWs := hi2.2.1
            exact hK2 _ _ ((KeepsOthers.alloc _ _).from _) hi3 ⟨⟨rfl, rfl⟩, W.heap.size + 1, X, c2, by omega, hWs, by omega, rfl, heap_alloc_at _ _ _ (by simp), ho3, hrd, rfl, rfl, rfl⟩ hsz2
          case body =>
            rintro l pre ⟨i2, v2⟩ r2 o2 ⟨tm, ds2⟩ W hl2 _ hone ⟨⟨hsz, hds⟩, Bx, X, c2, hBx, hr2, hne2, hv, hx, hown, ⟨p2, hp1, hp2⟩, e21, e22, e24⟩ hro2 ho2
            dsimp only at hsz hds hv hx hown hp2 e21 e22 e24
            subst hv hds
            obtain ⟨u, hu, ha⟩ := frame_open (a := { tmps := tm, defers := [] }) hsz
            dsimp only at hu ha
            rw [hu] at e21 e22 e24
            have ha2 : tm = #[u 0, u 1, u 2, u 3, u 4, u 5, u 6, u 7, u 8, u 9, u 10, u 11, u 12, u 13, u 14, u 15, u 16, u 17, u 18, u 19, u 20, u 21, u 22, u 23, u 24, u 25, u 26, u 27, u 28, u 29, u 30, u 31, u 32, u 33, u 34, u 35, u 36, u 37, u 38, u 39, u 40, u 41, u 42, u 43, u 44, u 45, u 46, u 47, u 48, u 49, u 50, u 51, u 52, u 53, u 54, u 55, u 56, u 57, u 58, u 59, u 60, u 61, u 62, u 63, u 64, u 65, u 66, u 67, u 68, u 69, u 70, u 71, u 72, u 73, u 74, u 75, u 76, u 77, u 78, u 79, u 80, u 81, u 82, u 83, u 84, u 85, u 86, u 87, u 88, u 89, u 90, u 91, u 92, u 93, u 94, u 95, u 96, u 97, u 98, u 99, u 100, u 101, u 102, u 103, u 104, u 105, u 106, u 107, u 108, u 109, u 110, u 111, u 112, u 113, u 114, u 115, u 116, u 117, u 118, u 119, u 120, u 121, u 122, u 123, u 124, u 125, u 126, u 127, u 128, u 129, u 130, u 131, u 132, u 133, u 134, u 135, u 136, u 137, u 138, u 139, u 140, u 141, u 142, u 143, u 144, u 145, u 146, u 147, u 148, u 149, u 150, u 151, u 152, u 153, u 154, u 155, u 156, u 157, u 158, u 159, u 160, u 161, u 162, u 163, u 164, u 165, u 166, u 167, u 168, u 169, u 170, u 171, u 172, u 173, u 174, u 175, u 176, u 177, u 178, u 179, u 180, u 181, u 182, u 183, u 184, u 185, u 186, u 187] := (Act.mk.inj ha).1
            rw [e21, e22, e24] at ha2
            subst ha2
            obtain ⟨hlt2, yv2, hyy⟩ := want_at HXA.out hp1 hp2
            obtain ⟨hr1, hr2', hr3, hr4⟩ := insCells_at hyy
            dsimp only at hr1 hr2' hr3 hr4
            have hKK3 := hone.2.2.1
            have t2 := (hKK3 ba (by omega) (by omega)).trans a2
            have tn := hone.2.2.2
            have tO := one_own hone n2 oC (by decide)
            have tw : W.ownsRow W9.heap.size 5 1 yv2 i2.imm.length (byteVs i2.imm) := one_own hone n2 (rC _ (List.mem_of_getElem? hyy)) (by decide)
            obtain ⟨Xn2, cn2, rfl⟩ := owns_shape tw
            obtain ⟨ga, rfl⟩ := own_head tO (by omega)
            have HYW2 := Lib.hid (owned_ints tw)
            have HOX2 := Lib.hid (owned_ints hown)
            obtain ⟨k0, k1, k2, k3, kz, kl⟩ := cells4 hx
            have v0 := fun d os => cell_regrown k0 d os
            have v1 := fun d os => cell_regrown k1 d os
            have v2 := fun d os => cell_regrown k2 d os
            have v3 := fun d os => cell_regrown k3 d os
            have u2 := fun d os => cell_regrown (cell_of1 t2).1 d os
            have un := fun d os => cell_regrown (cell_of1 tn).1 d os
            have l0 := fun d os => cell_regrown ((tO.cellAt (pre.length * 4) (by omega)).trans hr1) d os
            have l1 := fun d os => cell_regrown ((tO.cellAt (pre.length * 4 + 1) (by omega)).trans hr2') d os
            have l2c := fun d os => cell_regrown ((tO.cellAt (pre.length * 4 + 2) (by omega)).trans hr3) d os
            have l3 := fun d os => cell_regrown ((tO.cellAt (pre.length * 4 + 3) (by omega)).trans hr4) d os
            have uS := fun rr d os => callsIn_grown (w := W) (r := rr) (fun w1 hb => same_eq i2 X Xn2 c2 cn2 w1 (ints_below hb HOX2.out) (ints_below hb HYW2.out)) d os
            unfold insV at uS
            have hd2 : decide ((xa.length : Int) ≤ (pre.length : Int)) = false := decide_eq_false (by omega)
            have hd4 : (pre.length : Int) < (xa.length : Int) := by omega
            have hd1 : decide (xa.length ≤ pre.length) = false := decide_eq_false (by omega)
            have hpl2 : pre.length ≤ 70000 := by omega
            have HO4 := Lib.hid hone
            have HRO4 := Lib.hid hro2
            clear hone hKK3 hro2 hyy hr1 hr2' hr3 hr4 hp1 hp2 tO tw hown hu ha e21 e22 e24 hsz
            gi_wp2
            refine wpIn_region_round (F := Fence.wide) (lp := l) rfl (by kernel_rfl) (by kernel_rfl) (by kernel_rfl) ?_
            repeat (refine wpQuietIn_step (fun _ _ _ _ => trivial) (fun K hK => ?_); go_simp; first | (refine hK _ ?_; clear hK K) | (apply Exists.intro; refine ⟨fun _ => ?_, hK _ ?_⟩; with_reducible exact uS _ _ _; clear hK K))
            refine wpQuietIn_nil ?_
            rintro _ ⟨pq2, rfl⟩
            have hbq2 := below_regrown W pq2.d pq2.os
            clear v0 v1 v2 v3 u2 un l0 l1 l2c l3 uS hd1 hd2 k0 k1 k2 k3 kz kl
            generalize grow (redrawn W pq2.d) pq2.os = WE at hbq2 ⊢
            have hO5 := one_kept hwC HO4.out (grownBy_below hbq2) (fun r e => by cases e)
            obtain ⟨d1, f1⟩ := cell_of1 hO5.2.2.2
            have TL := Lib.hid (turn_fin (r := r2) (m := (pre ++ [((i2, Value.slice X i2.imm.length c2) : El)]).length) (by simp) hO5 (by omega) hbnC hr2 (kept_of2 hbq2 HRO4.out) (KeepsFrom.of_grownBy (grownBy_below hbq2) (fun _ h => by cases h)))
            clear hO5 HO4 HRO4 hbq2 t2 tn hx
            gi_wp2
            exact TL.out
          case stop =>
            rintro D c pre W hD hpre hn hK
            exact hn.elim
          case done =>
            rintro D xs3 W9 hD3 hall3 hone hK3
            rw [show xs3.length = xa.length from by have := congrArg List.length (all_fst HXA.out hall3); simpa using this] at hone
            have hKK3 := hone.2.2.1
            have q2 := (hKK3 ba (by omega) (by omega)).trans a2
            have qn := hone.2.2.2
            have hbw := HR.out.2.2.2.1
            have hbws := hbw.size
            have hbCs := hbC.size
            have qw := one_own hone n2 (own_below HR.out.1 hbC) (by decide)
            have qy := one_own hone n2 (own_below HR.out.2.1 hbC) (by decide)
            have q0 := (hKK3 w.heap.size (by have := (Array.getElem?_eq_some_iff.1 HR.out.2.2.1).1; omega) (by have := (Array.getElem?_eq_some_iff.1 HR.out.2.2.1).1; omega)).trans (kept_of2 hbC HR.out.2.2.1)
            have qD : DefsL w1.heap.size ({ target := .collected D, args := #[] } :: ds) W9 := defsl_cons HR.out.2.2.2.2 (fun k o hk ho _ => (hKK3 k (by omega) (by omega)).trans (kept_of2 hbC ho)) (by omega) (by omega) hK3
            have hB9 := hone.1
            have h9s : w1.heap.size ≤ W9.heap.size := by have := hone.2.1; omega
            obtain ⟨d1, f1⟩ := cell_of1 q2
            obtain ⟨d2, f2⟩ := cell_of1 qn
            have HQ := Lib.hid (⟨qw, qy, q0, qD, hB9, h9s⟩ : _ ∧ _ ∧ _ ∧ _ ∧ _ ∧ _)
            clear hone hKK3 q2 qn qw qy q0 qD hB9 hbw oC rC n2 a2 hbC hBC hheld hall3 hK3 h9s
            by_cases hc : i < ts.length ∧ 0 < n
            · have hc1 : (i : Int) < (ts.length : Int) := by omega
              have hc2 : (0 : Int) < (n : Int) := by omega
              have hc3 : ¬ (n : Int) = 0 := by omega
              obtain ⟨x, rfl, t0, t1, t2, t3⟩ := HT.out i hc.1
              clear t2 t3
              generalize (ts[i]'hc.1).1 = z0 at t0
              generalize (ts[i]'hc.1).2 = z1 at t1
              have t0' := cell_later HQ.out.2.2.2.2.1 t0
              have t1' := cell_later HQ.out.2.2.2.2.1 t1
              rw [← addr_add_add] at t1'
              replace t1' : W9.cell? ⟨(x.add (i * 2)).block, (x.add (i * 2)).off + 1, none⟩ = some (.int .i64 z1) := t1'
              have hr : -(n : Int) < z0.tmod n ∧ z0.tmod n < (n : Int) := ⟨by have := Int.lt_tmod_of_pos z0 hc2; omega, Int.tmod_lt_of_pos z0 hc2⟩
              have hu : IntKind.u8.wrap z1 = z1 % 256 := IntKind.wrap_u8 _
              have hw : wrap64 (z0.tmod n) = z0.tmod n := by unfold wrap64; omega
              obtain ⟨gy, hgy⟩ := own_head HQ.out.2.1 hc.2
              have HCC := Lib.hid hc
              have HQ2 := HQ.out.2.1
              rw [hgy] at HQ2
              have hgy1 := own_lt HQ2
              have hgg : g ≠ gy := by omega
              have FIN : ∀ kk, kk < n → Hid (∃ zs' : List Int, zs'.length = n ∧ (∀ z ∈ zs', 0 ≤ z ∧ z < 256) ∧ ((W9.setCell ⟨g, kk, none⟩ (.int .u8 (z1 % 256))).setCell ⟨gy, kk, none⟩ (.int .u8 (z1 % 256))).ownsRow (w.heap.size + 1) 5 1 (.slice (some ⟨g, 0, none⟩) (n + 75) c) (n + 75) (byteVs (zs' ++ marksN 75)) ∧
                  ((W9.setCell ⟨g, kk, none⟩ (.int .u8 (z1 % 256))).setCell ⟨gy, kk, none⟩ (.int .u8 (z1 % 256))).ownsRow w1.heap.size 5 1 (.slice Y n cy) n (byteVs zs') ∧
                  ((W9.setCell ⟨g, kk, none⟩ (.int .u8 (z1 % 256))).setCell ⟨gy, kk, none⟩ (.int .u8 (z1 % 256))).heap[w.heap.size]? = some (.cells #[.bool false] 4 (0, 0)) ∧ Below w.heap.size w ((W9.setCell ⟨g, kk, none⟩ (.int .u8 (z1 % 256))).setCell ⟨gy, kk, none⟩ (.int .u8 (z1 % 256))) ∧
                  w1.heap.size ≤ ((W9.setCell ⟨g, kk, none⟩ (.int .u8 (z1 % 256))).setCell ⟨gy, kk, none⟩ (.int .u8 (z1 % 256))).heap.size ∧ DefsL w1.heap.size ({ target := .collected D, args := #[] } :: ds) ((W9.setCell ⟨g, kk, none⟩ (.int .u8 (z1 % 256))).setCell ⟨gy, kk, none⟩ (.int .u8 (z1 % 256)))) := by
                intro kk hkk
                refine Lib.hid ⟨zs.set kk (z1 % 256), by rw [List.length_set]; exact HZN.out, fun z hz => ?_, ?_, ?_, ?_, ?_, ?_, ?_⟩
                · rcases List.mem_or_eq_of_mem_set hz with h | rfl
                  · exact HZB.out z h
                  · omega
                · have h := own_keep (w' := (W9.setCell ⟨g, kk, none⟩ (.int .u8 (z1 % 256))).setCell ⟨gy, kk, none⟩ (.int .u8 (z1 % 256))) (own_set HQ.out.1 kk (.int .u8 (z1 % 256))) (heap_setKeep _ (by dsimp only; omega) _)
                  rw [show (byteVs (zs ++ marksN 75)).set kk (.int .u8 (z1 % 256)) = byteVs (zs.set kk (z1 % 256) ++ marksN 75) by unfold byteVs; rw [← List.map_set, List.set_append_left _ _ (by have := HZN.out; omega)]] at h
                  exact h
                · rw [hgy]
                  have h := own_set (own_keep (w' := W9.setCell ⟨g, kk, none⟩ (.int .u8 (z1 % 256))) HQ2 (heap_setKeep _ (by dsimp only; omega) _)) kk (.int .u8 (z1 % 256))
                  rw [show (byteVs zs).set kk (.int .u8 (z1 % 256)) = byteVs (zs.set kk (z1 % 256)) by unfold byteVs; rw [List.map_set]] at h
                  exact h
                · exact heap_setOther (heap_setOther HQ.out.2.2.1 (by dsimp only; omega) _) (by dsimp only; omega) _
                · exact (HQ.out.2.2.2.2.1.setCell (p := ⟨g, kk, none⟩) (by dsimp only; omega) _).setCell (p := ⟨gy, kk, none⟩) (by dsimp only; omega) _
                · simpa using HQ.out.2.2.2.2.2
                · exact defsl_keep HQ.out.2.2.2.1 fun k o hk ho => (((KeepsOthers.setCell _ _ _).from 0).trans ((KeepsOthers.setCell _ _ _).from 0)).same k _ (Nat.zero_le _) hk ho
              have HFIN := Lib.hid FIN
              have HCL : ∀ kk, kk < n → (∃ v, W9.cell? ⟨g, kk, none⟩ = some v) ∧ W9.frozen? ⟨g, kk, none⟩ = false ∧ (∃ v, W9.cell? ⟨gy, kk, none⟩ = some v) ∧ W9.frozen? ⟨gy, kk, none⟩ = false := by
                intro kk hkk
                have l1 : (byteVs (zs ++ marksN 75)).length = n + 75 := by rw [byteVs_length, List.length_append, marksN_length, HZN.out]
                have l2 : (byteVs zs).length = n := by rw [byteVs_length, HZN.out]
                obtain ⟨a1, a2⟩ := own_cell HQ.out.1 (List.getElem?_eq_getElem (i := kk) (by omega))
                obtain ⟨b1, b2⟩ := own_cell HQ2 (List.getElem?_eq_getElem (i := kk) (by omega))
                exact ⟨⟨_, a1⟩, a2, ⟨_, b1⟩, b2⟩
              have HHCL := Lib.hid HCL
              have HGY := Lib.hid hgy
              have HXB := Lib.hid (show (x.add (i * 2)).block < w.heap.size from block_lt_of_cell t0)
              clear hc t0 t1 HCL FIN HQ2
              have HHW := Lib.hid (show Below w.heap.size w W9 from HQ.out.2.2.2.2.1)
              clear HQ
              dsimp only
              go_upto_region 33 with fail
              generalize z0.tmod (n : Int) = r at hr hw ⊢
              have hY := HGY.out
              subst hY
              have hxB : (x.add (i * 2)).block < w.heap.size := HXB.out
              have SETS : ∀ kk, kk < n → Hid ((W9.setCell ⟨g, kk, none⟩ (.int .u8 (z1 % 256))).cell? ⟨(x.add (i * 2)).block, (x.add (i * 2)).off + 1, none⟩ = some (.int .i64 z1) ∧ (∃ v, (W9.setCell ⟨g, kk, none⟩ (.int .u8 (z1 % 256))).cell? ⟨gy, kk, none⟩ = some v) ∧ (W9.setCell ⟨g, kk, none⟩ (.int .u8 (z1 % 256))).frozen? ⟨gy, kk, none⟩ = false) := fun kk hkk => by
                obtain ⟨_, _, ⟨vb, c2⟩, f4⟩ := HHCL.out kk hkk
                exact Lib.hid ⟨(World.cell?_of_block (a := ⟨_, _, none⟩) (heap_setKeep _ (by dsimp only; omega) _)).trans t1', ⟨vb, (World.cell?_of_block (a := ⟨_, _, none⟩) (heap_setKeep _ (by dsimp only; omega) _)).trans c2⟩, (World.frozen?_of_block (a := ⟨_, _, none⟩) (heap_setKeep _ (by dsimp only; omega) _)).trans f4⟩
              by_cases hneg : r < 0
              · obtain ⟨kk, hkk⟩ := Int.eq_ofNat_of_zero_le (show 0 ≤ r + n by omega)
                have hkn : kk < n := by omega
                obtain rfl : r = (kk : Int) - n := by omega
                obtain ⟨⟨va, c1⟩, f3, _⟩ := HHCL.out kk hkn
                obtain ⟨t2, ⟨vb, c2⟩, f4⟩ := (SETS kk hkn).out
                have hki : (kk : Int) < (n : Int) := Int.ofNat_lt.2 hkn
                have FIN := HFIN.out kk hkn
                clear hkk SETS HFIN HHCL
                go_wp2
                obtain ⟨zs', g1, g2, g3, g4, g5, g6, g7, g8⟩ := FIN.out
                exact ⟨k - 1, by omega, hJ _ _ _ ⟨rfl, i + 1, zs', by omega, by omega, by omega, rfl, rfl, rfl, rfl, by go_num, g8, g1, g2, g3, g4, g5, g6, g7⟩⟩
              · obtain ⟨kk, hkk⟩ := Int.eq_ofNat_of_zero_le (show 0 ≤ r by omega)
                have hkn : kk < n := by omega
                obtain rfl : r = (kk : Int) := by omega
                obtain ⟨⟨va, c1⟩, f3, _⟩ := HHCL.out kk hkn
                obtain ⟨t2, ⟨vb, c2⟩, f4⟩ := (SETS kk hkn).out
                have hki : (kk : Int) < (n : Int) := Int.ofNat_lt.2 hkn
                have FIN := HFIN.out kk hkn
                clear hkk SETS HFIN HHCL
                go_wp2
                obtain ⟨zs', g1, g2, g3, g4, g5, g6, g7, g8⟩ := FIN.out
                exact ⟨k - 1, by omega, hJ _ _ _ ⟨rfl, i + 1, zs', by omega, by omega, by omega, rfl, rfl, rfl, rfl, by go_num, g8, g1, g2, g3, g4, g5, g6, g7⟩⟩
            · have hcc : (i : Int) < (ts.length : Int) → ¬ (0 : Int) < (n : Int) := by omega
              obtain ⟨g3, g4, g5, g8, g6, g7⟩ := HQ.out
              have HG := Lib.hid (⟨g3, g4, g5, g8, g6, g7⟩ : _ ∧ _ ∧ _ ∧ _ ∧ _ ∧ _)
              clear g3 g4 g5 g8 g6 g7 HQ
              dsimp only
              by_cases hil : (i : Int) < (ts.length : Int)
              · have hn0 : ¬ (0 : Int) < (n : Int) := hcc hil
                clear hcc hc
                go_wp2
                obtain ⟨g3, g4, g5, g8, g6, g7⟩ := HG.out
                exact ⟨k - 1, by omega, hJ _ _ _ ⟨rfl, i + 1, zs, by omega, by omega, by omega, rfl, rfl, rfl, rfl, by go_num, g8, HZN.out, HZB.out, g3, g4, g5, g6, g7⟩⟩
              · clear hcc hc
                go_wp2
                obtain ⟨g3, g4, g5, g8, g6, g7⟩ := HG.out
                exact ⟨k - 1, by omega, hJ _ _ _ ⟨rfl, i + 1, zs, by omega, by omega, by omega, rfl, rfl, rfl, rfl, by go_num, g8, HZN.out, HZB.out, g3, g4, g5, g6, g7⟩⟩
    · have hw1w : w.heap.size ≤ w1.heap.size := by omega
      by_cases hi1 : (i : Int) ≤ (ts.length : Int)
      · have hi2 : ¬ (i : Int) ≤ 20 := by omega
        clear hin
        obtain ⟨p0, f0⟩ := cell_of1 HR.out.2.2.1
        go_wp2
        gi_wp2_with (refine ⟨trivial, ?_⟩; gi_at_call 17; refine (callsIn_wide.2 (awake6 _)).mono ?_; rintro e w9 ⟨rfl, hb9⟩; obtain ⟨d2, f2⟩ := cell_of1 (kept_of2 hb9 HR.out.2.2.1))
        have hK9 := fun k o hk ho => (KeepsOthers.setCell w9 ⟨w.heap.size, 0, none⟩ (.bool true)).same k o hk ho
        refine leaves_defs _ _ (defsl_keep HR.out.2.2.2.2 fun k o hk ho => hK9 k o (kept_of2 hb9 hk) ho) fun W' hbW hkW => ?_
        refine ⟨_, plays_end rfl (hkW w.heap.size _ (heap_set1 (kept_of2 hb9 HR.out.2.2.1) _) rfl), rfl, ?_⟩
        have hbf := (HR.out.2.2.2.1.trans (hb9.mono HR.out.2.2.2.1.size)).setCell (p := ⟨w.heap.size, 0, none⟩) (Nat.le_refl _) (.bool true)
        exact hbf.trans (hbW.mono (by omega))
      · clear hin
        obtain ⟨p0, f0⟩ := cell_of1 HR.out.2.2.1
        go_wp2
        gi_wp2_with (refine ⟨trivial, ?_⟩; gi_at_call 17; refine (callsIn_wide.2 (awake6 _)).mono ?_; rintro e w9 ⟨rfl, hb9⟩; obtain ⟨d2, f2⟩ := cell_of1 (kept_of2 hb9 HR.out.2.2.1))
        have hK9 := fun k o hk ho => (KeepsOthers.setCell w9 ⟨w.heap.size, 0, none⟩ (.bool true)).same k o hk ho
        refine leaves_defs _ _ (defsl_keep HR.out.2.2.2.2 fun k o hk ho => hK9 k o (kept_of2 hb9 hk) ho) fun W' hbW hkW => ?_
        refine ⟨_, plays_end rfl (hkW w.heap.size _ (heap_set1 (kept_of2 hb9 HR.out.2.2.1) _) rfl), rfl, ?_⟩
        have hbf := (HR.out.2.2.2.1.trans (hb9.mono HR.out.2.2.2.1.size)).setCell (p := ⟨w.heap.size, 0, none⟩) (Nat.le_refl _) (.bool true)
        exact hbf.trans (hbW.mono (by omega))
end Go.Proofs.YthjnjdpiihpgeaaDoor
