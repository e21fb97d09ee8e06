/- CodeQ: out of Leads6, RLeads6, JumpsA, Check6 (strip.py). -/
import Derived.Test.YtfjmdffhfjnopaaDoorCodeP
import Derived.Test.YtfjmdffhfjnopaaDoorStarts
import Derived.Deep.AppendLies
import Derived.Deep.RegionHeld3
import Derived.Deep.DeepCutAuto
namespace Vouch
def leadsN (z : List Int) (fr cnt : Nat) (next : Int) : List Int := (List.range cnt).map fun j => next + distN z (fr + 2 * j)
def leadsI (i : Ins) : List Int := if standsI i then (if i.code = 226 then leadsN i.imm 1 ((i.imm.length - 1) / 2) i.next else if i.code = 224 ∨ i.code = 225 then leadsN i.imm 0 1 i.next else []) else []
theorem leadsN_snoc (z : List Int) (fr k : Nat) (next : Int) : leadsN z fr (k + 1) next = leadsN z fr k next ++ [next + distN z (fr + 2 * k)] := by unfold leadsN; rw [List.range_succ, List.map_append]; rfl
theorem leadsN_length (z : List Int) (fr k : Nat) (next : Int) : (leadsN z fr k next).length = k := by simp [leadsN]
theorem distN_range {z : List Int} (hz : ∀ x ∈ z, 0 ≤ x ∧ x < 256) (k : Nat) : -32768 ≤ distN z k ∧ distN z k < 32768 := by
  have hg : ∀ j, 0 ≤ z.getD j 0 ∧ z.getD j 0 < 256 := fun j => by
    rw [List.getD_eq_getElem?_getD]
    by_cases h : j < z.length
    · rw [List.getElem?_eq_getElem h]; exact hz _ (by simp)
    · rw [List.getElem?_eq_none (by omega)]; simp
  have h1 := hg k
  have h2 := hg (k + 1)
  unfold distN i16N pairN
  split <;> omega
theorem stands_bounds {i : Ins} (h : standsI i = true) : isOp i.code = true ∧ 0 ≤ i.at_ ∧ i.at_ ≤ 1048576 ∧ immL (opR i.code) i.imm = some i.imm.length ∧ i.next = i.at_ + 1 + i.imm.length := by
  unfold standsI at h
  simp only [Bool.and_eq_true, decide_eq_true_eq] at h
  obtain ⟨⟨⟨h1, h2⟩, h3⟩, h4⟩ := h
  cases hm : immL (opR i.code) i.imm with
  | none => rw [hm] at h4; cases h4
  | some n =>
    rw [hm] at h4
    simp only [Bool.and_eq_true, beq_iff_eq] at h4
    obtain ⟨h5, h6⟩ := h4
    subst h5
    exact ⟨h1, h2, h3, rfl, h6⟩
theorem stands_table {i : Ins} (h : standsI i = true) (hc : i.code = 226) : 1 ≤ i.imm.length ∧ (i.imm.length : Int) = 2 * i.imm.getD 0 0 + 3 ∨ False := by
  have h4 := (stands_bounds h).2.2.2.1
  rw [hc] at h4
  unfold immL at h4
  rw [if_pos (show (opR 226).imm = -1 from rfl)] at h4
  split at h4
  · cases h4
  · rename_i hl
    have := Option.some.inj h4
    left
    omega
theorem stands_jump {i : Ins} (h : standsI i = true) (hc : i.code = 224 ∨ i.code = 225) : i.imm.length = 2 := by
  have h4 := (stands_bounds h).2.2.2.1
  rcases hc with hc | hc
  · rw [hc] at h4
    have := Option.some.inj (show some (2 : Nat) = _ from h4)
    omega
  · rw [hc] at h4
    have := Option.some.inj (show some (2 : Nat) = _ from h4)
    omega
end Vouch
namespace Go.Proofs.YtfjmdffhfjnopaaDoor
open Go.RowKit Vouch Go.Vk Go.Sort
def intVs (zs : List Int) : List Value := zs.map (.int .i64)
def lenV' : Value → Nat
  | .slice _ n _ => n
  | _ => 0
theorem infoInt : (Tryd.prog.info? 3).map (fun i => (i.zero, i.size, i.bytes)) = some (some (.int .i64 0), 1, 8) := by kernel_rfl
set_option maxHeartbeats 400000 in
set_option maxRecDepth 100000 in
theorem leads_table (i : Ins) (X : Option Addr) (c : Nat) (w : World) (hc : IntsAt w .u8 X i.imm) (hz : ∀ z ∈ i.imm, 0 ≤ z ∧ z < 256) (hcap : i.imm.length ≤ c) (hx : (Lit.int .i64 i.next).wf = true) (hs : standsI i = true) (hcode : i.code = 226) :
    Calls Tryd.prog 21 #[insV i (.slice X i.imm.length c)] w fun e w' => ∃ v, e = .returned v ∧ w'.ownsRow w.heap.size 3 1 v (leadsI i).length (intVs (leadsI i)) ∧ Below w.heap.size w w' := by
  obtain ⟨i0, hi, hz0, hz1, hz2⟩ := info_parts infoInt
  obtain ⟨h1, hat0, hat1, _, hnx⟩ := stands_bounds hs
  have hl0 : 1 ≤ i.imm.length ∧ (i.imm.length : Int) = 2 * i.imm.getD 0 0 + 3 := (stands_table hs hcode).resolve_right id
  have hb00 := hz (i.imm.getD 0 0) (by rw [List.getD_eq_getElem?_getD, List.getElem?_eq_getElem (by omega)]; simp)
  obtain ⟨cnt, hcnt⟩ : ∃ cnt, i.imm.length = 2 * cnt + 1 := ⟨(i.imm.length - 1) / 2, by omega⟩
  have hL : leadsI i = leadsN i.imm 1 cnt i.next := by unfold leadsI; rw [if_pos hs, if_pos hcode, show (i.imm.length - 1) / 2 = cnt by omega]
  have hcnt1 : 1 ≤ cnt ∧ cnt ≤ 256 := by omega
  have HST := Lib.hid (fun w1 (hb : Below w.heap.size w w1) => stands_any i X c w1 (ints_below hb hc) hz (by omega) hx)
  rw [hs] at HST
  have HC := Lib.hid hc
  have HZ := Lib.hid hz
  have HLN := fun k => distN_range hz k
  obtain ⟨at_, code, imm, next⟩ := i
  dsimp only at *
  subst hcode
  have HOLD := Lib.hid hL
  unfold insV at HST ⊢
  dsimp only at HST ⊢
  have HD := Lib.hid HLN
  clear hc hz HLN hs hL h1
  have hb0 : Below w.heap.size w (w.alloc (.cells #[.int .i64 at_, .int .i64 226, .slice X imm.length c, .int .i64 next] 42)) := (Below.refl _ _).alloc (Nat.le_refl _) _
  obtain ⟨p0, p1, p2, p3, pz, pl⟩ := cells4 (heap_alloc_new w (.cells #[.int .i64 at_, .int .i64 226, .slice X imm.length c, .int .i64 next] 42))
  obtain ⟨y, rfl, hy0⟩ := HC.out 0 (by omega)
  have hcc : ¬ c = 1 := by omega
  have hc1 : (1 : Int) ≤ c := by omega
  have hc2 : 1 ≤ c := by omega
  have hc3 : (1 : Int) ≤ (imm.length : Int) := by omega
  have hc4 : 1 ≤ imm.length := by omega
  have HCNT := Lib.hid hcnt
  have HNX := Lib.hid hnx
  clear hcnt hnx hl0 hb00
  go_enter Tryd.func21, Tryd.ntmps21
  go_wp2_with (go_at_call 44; refine (HST.out _ hb0).mono ?_; rintro e w1 ⟨rfl, hb⟩; have hg1 := kept_new hb; obtain ⟨q0, q1, q2, q3, qz, ql⟩ := cells4 hg1; have hB1 := hb0.trans (hb.mono hb0.size))
  have hz0' : (imm.drop 1).length = 2 * cnt := by rw [List.length_drop, HCNT.out]; omega
  have hzb' : ∀ x ∈ imm.drop 1, 0 ≤ x ∧ x < 256 := fun x hx => HZ.out x (List.mem_of_mem_drop hx)
  have hI0 : IntsAt w .u8 (some ⟨y.block, y.off + 1, none⟩) (imm.drop 1) := by
    have := ints_drop HC.out 1
    rwa [show y.add 1 = ⟨y.block, y.off + 1, none⟩ by unfold Addr.add; rw [if_neg (by omega)]] at this
  have hLz : leadsN imm 1 cnt next = leadsN (imm.drop 1) 0 cnt next := by
    unfold leadsN distN pairN
    simp [List.getD_eq_getElem?_getD, Nat.add_comm]
  have HOLD := Lib.hid (HOLD.out.trans hLz)
  clear hLz
  generalize imm.drop 1 = z at hz0' hzb' hI0 HOLD
  go_loopw [3, 4] (fun vl vb wr => ∃ (k r : Nat) (Y : Option Addr) (c' : Nat), vb = .slice Y r c' ∧ r + 2 * k = 2 * cnt ∧ r ≤ c' ∧ IntsAt w .u8 Y (z.drop (2 * k)) ∧ wr.ownsRow w.heap.size 3 1 vl k (intVs (leadsN z 0 k next)) ∧ Below w.heap.size w wr ∧ wr.heap[w.heap.size]? = some (.cells #[.int .i64 at_, .int .i64 226, .slice (some y) imm.length c, .int .i64 next] 42 (0, 0))) (fun _ vb _ => lenV' vb)
  case atStart => exact ⟨0, _, _, _, rfl, by have := HCNT.out; omega, by omega, hI0, World.ownsRow_nil _ _ _ _, hB1, hg1⟩
  case round =>
    obtain ⟨k, r, Y, c', rfl, hr, hrc, hI, hown, hB, hgw⟩ := hrel
    obtain ⟨Xp, cp, rfl⟩ := owns_shape hown
    by_cases hlt : r = 0
    · subst hlt
      obtain rfl : k = cnt := by omega
      go_wp2
      go_ret
      refine ⟨_, rfl, ?_, hB⟩
      rw [HOLD.out, leadsN_length]
      exact hown
    · have hk : k < cnt := by omega
      obtain ⟨ya, rfl, hxa0⟩ := hI 0 (by rw [List.length_drop]; omega)
      obtain ⟨ya', hya, hxb0⟩ := hI 1 (by rw [List.length_drop]; omega)
      cases hya
      have hxa1 : w.cell? ya = some (.int .u8 (z.getD (2 * k) 0)) := by
        rw [show z.getD (2 * k) 0 = (z.drop (2 * k)).getD 0 0 by simp [List.getD_eq_getElem?_getD]]
        simpa [Addr.add] using hxa0
      have hxb1 : w.cell? (ya.add 1) = some (.int .u8 (z.getD (2 * k + 1) 0)) := by
        rw [show z.getD (2 * k + 1) 0 = (z.drop (2 * k)).getD 1 0 by simp [List.getD_eq_getElem?_getD]]
        exact hxb0
      clear hxa0 hxb0
      have ha := hzb' (z.getD (2 * k) 0) (by rw [List.getD_eq_getElem?_getD, List.getElem?_eq_getElem (by omega)]; simp)
      have hb' := hzb' (z.getD (2 * k + 1) 0) (by rw [List.getD_eq_getElem?_getD, List.getElem?_eq_getElem (by omega)]; simp)
      have hd : distN z (0 + 2 * k) = i16N (256 * z.getD (2 * k) 0 + z.getD (2 * k + 1) 0) := by rw [Nat.zero_add]; rfl
      have hdr := distN_range hzb' (0 + 2 * k)
      have HT := Lib.hid (leadsN_snoc z 0 k next)
      generalize distN z (0 + 2 * k) = d at hd hdr HT
      have hw1 : IntKind.i16.wrap (256 * z.getD (2 * k) 0 + z.getD (2 * k + 1) 0) = d := by rw [i16_wrap _ (by omega) (by omega), hd]
      clear hd
      generalize z.getD (2 * k) 0 = a at hxa1 ha hw1
      generalize z.getD (2 * k + 1) 0 = b at hxb1 hb' hw1
      have hnx2 : -1000000000 ≤ next + d ∧ next + d ≤ 1000000000 := by have := HNX.out; have := HCNT.out; omega
      have hw2 : IntKind.i64.wrap d = d := by rw [IntKind.wrap_i64]; omega
      have hw3 : IntKind.i64.wrap (next + d) = next + d := by rw [IntKind.wrap_i64]; omega
      have hw4 : wrap64 (next + d) = next + d := by unfold wrap64; omega
      have HP := Lib.hid (fun w4 (h4 : Below w.heap.size w w4) => pair_any a b ya r c' w4 ha hb' (cell_later h4 hxa1) (cell_later h4 hxb1) (by omega))
      have HNE := Lib.hid (show some w.heap.size ≠ (Value.slice Xp k cp).ownBlock from fun e => own_type hgw hown (by decide) _ e.symm rfl)
      have HOWN := Lib.hid hown
      have HI := Lib.hid hI
      have hrr : 0 < r := by omega
      have hri : (0 : Int) < (r : Int) := by omega
      clear hown hI hxa1 hxb1 ha hb'
      obtain ⟨r0, r1, r2, r3, rz, rl⟩ := cells4 hgw
      have hdl : wr.heap.size ≤ wr.drew.heap.size := Nat.le_refl _
      have hld : wr.drew.cell? ⟨w.heap.size, 3, none⟩ = some (.int .i64 next) := r3
      go_wp2
      go_region_held3 (fun w' => w'.cell? ⟨w.heap.size, 3, none⟩ = some (.int .i64 next)) (first | exact hld | exact cell_later hb5 hld | exact cell_later ((Below.refl _ _).alloc (Nat.le_refl _) _) (cell_later hb5 hld) | exact hS6)
        (first
          | (go_at_call 45; refine (HP.out _ hB.drew).mono ?_; rintro e w5 ⟨rfl, hb5⟩)
          | (refine step_append_lies _ rfl _ _ 43 rfl w.heap.size 3 i0 (.int .i64 0) 1 8 Tryd.underlying43 hi hz0 hz1 hz2 rfl (by decide) _ _ _ rfl ((own_below (W := wr.drew) HOWN.out hb5).alloc _) ⟨w5.heap.size, 0, none⟩ 1 1 [.int .i64 (next + d)] rfl rfl (cells_fresh w5 #[.int .i64 (next + d)] _ _ rfl) (by intro u hu; simp at hu; subst hu; rfl) (by decide) (by unfold maxLen; omega) (by omega) (by have := hB.drew.size; have := hb5.size; simp; omega) _ rfl ?_; intro g6 c6 w6 hown6 hgrow6 hat6 hlt6; have hS6 : w6.cell? ⟨w.heap.size, 3, none⟩ = some (.int .i64 next) := (hgrow6.cell_far ⟨w.heap.size, 3, none⟩ (by have := hb5.size; simp; omega) HNE.out).trans (cell_later ((Below.refl _ _).alloc (Nat.le_refl _) _) (cell_later hb5 hld))))
      have hb6 : Below w.heap.size w (w5.alloc (.cells #[.int .i64 (next + d)] 3)) := (hB.drew.trans (hb5.mono hB.drew.size)).alloc (by have := hB.drew.size; have := hb5.size; omega) _
      have hB6 := bel_own hb6 ((own_below (W := wr.drew) HOWN.out hb5).alloc _) (Nat.le_refl _) hgrow6
      have hg6 : w6.heap[w.heap.size]? = some (.cells #[.int .i64 at_, .int .i64 226, .slice (some y) imm.length c, .int .i64 next] 42 (0, 0)) := (hgrow6.block w.heap.size (by have := hb5.size; simp; omega) HNE.out).trans (kept_of ((hb5.trans ((Below.refl _ _).alloc hb5.size _))) (show wr.drew.heap[w.heap.size]? = _ from hgw))
      have hown7 : w6.ownsRow w.heap.size 3 1 (.slice (some ⟨g6, 0, none⟩) (k + 1) c6) (k + 1) (intVs (leadsN z 0 (k + 1) next)) := by rw [HT.out]; unfold intVs; rw [List.map_append]; exact hown6
      have hdd : z.drop (2 * (k + 1)) = (z.drop (2 * k)).drop 2 := by rw [List.drop_drop]; congr 1
      clear r0 r1 r2 r3 rz rl hld hS6 hrr hri hw1 hw2 hw3 hw4
      by_cases hcap : c' = 2
      · obtain rfl : r = 2 := by omega
        subst hcap
        have hnil : z.drop (2 * (k + 1)) = [] := List.drop_eq_nil_of_le (by omega)
        go_wp2
        exact ⟨⟨k + 1, _, _, _, rfl, by omega, by omega, by rw [hnil]; exact ints_nil _ _ _, hown7, hB6, hg6⟩, by simp [lenV']⟩
      · have hc'1 : (2 : Int) ≤ (c' : Int) := by omega
        have hc'2 : 2 ≤ c' := by omega
        have hr2 : (2 : Int) ≤ (r : Int) := by omega
        have hr3 : 2 ≤ r := by omega
        go_wp2
        refine ⟨⟨k + 1, _, _, _, rfl, by omega, by omega, ?_, hown7, hB6, hg6⟩, by simp [lenV']; omega⟩
        have := ints_drop HI.out 2
        rw [← hdd] at this
        rwa [show ya.add 2 = ⟨ya.block, ya.off + 2, none⟩ by unfold Addr.add; rw [if_neg (by omega)]] at this
set_option maxHeartbeats 400000 in
set_option maxRecDepth 100000 in
theorem leads_rjump (i : Ins) (X : Option Addr) (c : Nat) (w : World) (hc : IntsAt w .u8 X i.imm) (hz : ∀ z ∈ i.imm, 0 ≤ z ∧ z < 256) (hcap : i.imm.length ≤ c) (hx : (Lit.int .i64 i.next).wf = true) (hs : standsI i = true) (hcode : i.code = 224) :
    Calls Tryd.prog 21 #[insV i (.slice X i.imm.length c)] w fun e w' => ∃ v, e = .returned v ∧ w'.ownsRow w.heap.size 3 1 v (leadsI i).length (intVs (leadsI i)) ∧ Below w.heap.size w w' := by
  obtain ⟨i0, hi, hz0, hz1, hz2⟩ := info_parts infoInt
  obtain ⟨h1, hat0, hat1, _, hnx⟩ := stands_bounds hs
  have hl0 := stands_jump hs (.inl hcode)
  obtain ⟨cnt, hcnt1⟩ : ∃ cnt, cnt = 1 := ⟨1, rfl⟩
  have hcnt : i.imm.length = 2 * cnt := by omega
  have hL : leadsI i = leadsN i.imm 0 cnt i.next := by unfold leadsI; rw [if_pos hs, if_neg (by omega), if_pos (.inl hcode), hcnt1]
  have HST := Lib.hid (fun w1 (hb : Below w.heap.size w w1) => stands_any i X c w1 (ints_below hb hc) hz (by omega) hx)
  rw [hs] at HST
  have HC := Lib.hid hc
  have HZ := Lib.hid hz
  have HLN := fun k => distN_range hz k
  obtain ⟨at_, code, imm, next⟩ := i
  dsimp only at *
  subst hcode
  have HOLD := Lib.hid hL
  unfold insV at HST ⊢
  dsimp only at HST ⊢
  have HD := Lib.hid HLN
  clear hc hz HLN hs hL h1
  have hb0 : Below w.heap.size w (w.alloc (.cells #[.int .i64 at_, .int .i64 224, .slice X imm.length c, .int .i64 next] 42)) := (Below.refl _ _).alloc (Nat.le_refl _) _
  obtain ⟨p0, p1, p2, p3, pz, pl⟩ := cells4 (heap_alloc_new w (.cells #[.int .i64 at_, .int .i64 224, .slice X imm.length c, .int .i64 next] 42))
  obtain ⟨y, rfl, hy0⟩ := HC.out 0 (by omega)
  have hcc : ¬ c = 1 := by omega
  have hc1 : (1 : Int) ≤ c := by omega
  have hc2 : 1 ≤ c := by omega
  have hc3 : (1 : Int) ≤ (imm.length : Int) := by omega
  have hc4 : 1 ≤ imm.length := by omega
  have HCNT := Lib.hid hcnt
  have HNX := Lib.hid hnx
  have HCNT1 := Lib.hid hcnt1
  clear hcnt hnx hl0 hcnt1
  go_enter Tryd.func21, Tryd.ntmps21
  go_wp2_with (go_at_call 44; refine (HST.out _ hb0).mono ?_; rintro e w1 ⟨rfl, hb⟩; have hg1 := kept_new hb; obtain ⟨q0, q1, q2, q3, qz, ql⟩ := cells4 hg1; have hB1 := hb0.trans (hb.mono hb0.size))
  have hz0' : imm.length = 2 * cnt := HCNT.out
  have hzb' : ∀ x ∈ imm, 0 ≤ x ∧ x < 256 := HZ.out
  have hI0 : IntsAt w .u8 (some y) imm := HC.out
  obtain ⟨z, hzz⟩ : ∃ z, z = imm := ⟨imm, rfl⟩
  have HZL := Lib.hid (show imm.length = 2 * cnt from hz0')
  rw [← hzz] at hz0' hzb' hI0
  have HOLD := Lib.hid (show leadsI ⟨at_, 224, imm, next⟩ = leadsN z 0 cnt next by rw [hzz]; exact HOLD.out)
  have HZ0 := Lib.hid hz0'
  clear hzz hz0'
  go_loopw [3, 4] (fun vl vb wr => ∃ (k r : Nat) (Y : Option Addr) (c' : Nat), vb = .slice Y r c' ∧ r + 2 * k = 2 * cnt ∧ r ≤ c' ∧ IntsAt w .u8 Y (z.drop (2 * k)) ∧ wr.ownsRow w.heap.size 3 1 vl k (intVs (leadsN z 0 k next)) ∧ Below w.heap.size w wr ∧ wr.heap[w.heap.size]? = some (.cells #[.int .i64 at_, .int .i64 224, .slice (some y) imm.length c, .int .i64 next] 42 (0, 0))) (fun _ vb _ => lenV' vb)
  case atStart => exact ⟨0, _, _, _, rfl, by have := HCNT.out; omega, by omega, hI0, World.ownsRow_nil _ _ _ _, hB1, hg1⟩
  case round =>
    obtain ⟨k, r, Y, c', rfl, hr, hrc, hI, hown, hB, hgw⟩ := hrel
    obtain ⟨Xp, cp, rfl⟩ := owns_shape hown
    by_cases hlt : r = 0
    · subst hlt
      obtain rfl : k = cnt := by omega
      go_wp2
      go_ret
      refine ⟨_, rfl, ?_, hB⟩
      rw [HOLD.out, leadsN_length]
      exact hown
    · have hk : k < cnt := by omega
      obtain ⟨ya, rfl, hxa0⟩ := hI 0 (by rw [List.length_drop, HZ0.out]; omega)
      obtain ⟨ya', hya, hxb0⟩ := hI 1 (by rw [List.length_drop, HZ0.out]; omega)
      cases hya
      have hxa1 : w.cell? ya = some (.int .u8 (z.getD (2 * k) 0)) := by
        rw [show z.getD (2 * k) 0 = (z.drop (2 * k)).getD 0 0 by simp [List.getD_eq_getElem?_getD]]
        simpa [Addr.add] using hxa0
      have hxb1 : w.cell? (ya.add 1) = some (.int .u8 (z.getD (2 * k + 1) 0)) := by
        rw [show z.getD (2 * k + 1) 0 = (z.drop (2 * k)).getD 1 0 by simp [List.getD_eq_getElem?_getD]]
        exact hxb0
      clear hxa0 hxb0
      have ha := hzb' (z.getD (2 * k) 0) (by rw [List.getD_eq_getElem?_getD, List.getElem?_eq_getElem (by have := HZ0.out; omega)]; simp)
      have hb' := hzb' (z.getD (2 * k + 1) 0) (by rw [List.getD_eq_getElem?_getD, List.getElem?_eq_getElem (by have := HZ0.out; omega)]; simp)
      have hd : distN z (0 + 2 * k) = i16N (256 * z.getD (2 * k) 0 + z.getD (2 * k + 1) 0) := by rw [Nat.zero_add]; rfl
      have hdr := distN_range hzb' (0 + 2 * k)
      have HT := Lib.hid (leadsN_snoc z 0 k next)
      generalize distN z (0 + 2 * k) = d at hd hdr HT
      have hw1 : IntKind.i16.wrap (256 * z.getD (2 * k) 0 + z.getD (2 * k + 1) 0) = d := by rw [i16_wrap _ (by omega) (by omega), hd]
      clear hd
      generalize z.getD (2 * k) 0 = a at hxa1 ha hw1
      generalize z.getD (2 * k + 1) 0 = b at hxb1 hb' hw1
      have hnx2 : -1000000000 ≤ next + d ∧ next + d ≤ 1000000000 := by have := HNX.out; have := HCNT.out; have := HCNT1.out; omega
      have hw2 : IntKind.i64.wrap d = d := by rw [IntKind.wrap_i64]; omega
      have hw3 : IntKind.i64.wrap (next + d) = next + d := by rw [IntKind.wrap_i64]; omega
      have hw4 : wrap64 (next + d) = next + d := by unfold wrap64; omega
      have HP := Lib.hid (fun w4 (h4 : Below w.heap.size w w4) => pair_any a b ya r c' w4 ha hb' (cell_later h4 hxa1) (cell_later h4 hxb1) (by omega))
      have HNE := Lib.hid (show some w.heap.size ≠ (Value.slice Xp k cp).ownBlock from fun e => own_type hgw hown (by decide) _ e.symm rfl)
      have HOWN := Lib.hid hown
      have HI := Lib.hid hI
      have hrr : 0 < r := by omega
      have hri : (0 : Int) < (r : Int) := by omega
      clear hown hI hxa1 hxb1 ha hb'
      obtain ⟨r0, r1, r2, r3, rz, rl⟩ := cells4 hgw
      have hdl : wr.heap.size ≤ wr.drew.heap.size := Nat.le_refl _
      have hld : wr.drew.cell? ⟨w.heap.size, 3, none⟩ = some (.int .i64 next) := r3
      go_wp2
      go_region_held3 (fun w' => w'.cell? ⟨w.heap.size, 3, none⟩ = some (.int .i64 next)) (first | exact hld | exact cell_later hb5 hld | exact cell_later ((Below.refl _ _).alloc (Nat.le_refl _) _) (cell_later hb5 hld) | exact hS6)
        (first
          | (go_at_call 45; refine (HP.out _ hB.drew).mono ?_; rintro e w5 ⟨rfl, hb5⟩)
          | (refine step_append_lies _ rfl _ _ 43 rfl w.heap.size 3 i0 (.int .i64 0) 1 8 Tryd.underlying43 hi hz0 hz1 hz2 rfl (by decide) _ _ _ rfl ((own_below (W := wr.drew) HOWN.out hb5).alloc _) ⟨w5.heap.size, 0, none⟩ 1 1 [.int .i64 (next + d)] rfl rfl (cells_fresh w5 #[.int .i64 (next + d)] _ _ rfl) (by intro u hu; simp at hu; subst hu; rfl) (by decide) (by have := HCNT1.out; unfold maxLen; omega) (by have := HCNT1.out; omega) (by have := hB.drew.size; have := hb5.size; simp; omega) _ rfl ?_; intro g6 c6 w6 hown6 hgrow6 hat6 hlt6; have hS6 : w6.cell? ⟨w.heap.size, 3, none⟩ = some (.int .i64 next) := (hgrow6.cell_far ⟨w.heap.size, 3, none⟩ (by have := hb5.size; simp; omega) HNE.out).trans (cell_later ((Below.refl _ _).alloc (Nat.le_refl _) _) (cell_later hb5 hld))))
      have hb6 : Below w.heap.size w (w5.alloc (.cells #[.int .i64 (next + d)] 3)) := (hB.drew.trans (hb5.mono hB.drew.size)).alloc (by have := hB.drew.size; have := hb5.size; omega) _
      have hB6 := bel_own hb6 ((own_below (W := wr.drew) HOWN.out hb5).alloc _) (Nat.le_refl _) hgrow6
      have hg6 : w6.heap[w.heap.size]? = some (.cells #[.int .i64 at_, .int .i64 224, .slice (some y) imm.length c, .int .i64 next] 42 (0, 0)) := (hgrow6.block w.heap.size (by have := hb5.size; simp; omega) HNE.out).trans (kept_of ((hb5.trans ((Below.refl _ _).alloc hb5.size _))) (show wr.drew.heap[w.heap.size]? = _ from hgw))
      have hown7 : w6.ownsRow w.heap.size 3 1 (.slice (some ⟨g6, 0, none⟩) (k + 1) c6) (k + 1) (intVs (leadsN z 0 (k + 1) next)) := by rw [HT.out]; unfold intVs; rw [List.map_append]; exact hown6
      have hdd : z.drop (2 * (k + 1)) = (z.drop (2 * k)).drop 2 := by rw [List.drop_drop]; congr 1
      clear r0 r1 r2 r3 rz rl hld hS6 hrr hri hw1 hw2 hw3 hw4
      by_cases hcap : c' = 2
      · obtain rfl : r = 2 := by omega
        subst hcap
        have hnil : z.drop (2 * (k + 1)) = [] := List.drop_eq_nil_of_le (by have := HZ0.out; omega)
        go_wp2
        exact ⟨⟨k + 1, _, _, _, rfl, by omega, by omega, by rw [hnil]; exact ints_nil _ _ _, hown7, hB6, hg6⟩, by simp [lenV']⟩
      · have hc'1 : (2 : Int) ≤ (c' : Int) := by omega
        have hc'2 : 2 ≤ c' := by omega
        have hr2 : (2 : Int) ≤ (r : Int) := by omega
        have hr3 : 2 ≤ r := by omega
        go_wp2
        refine ⟨⟨k + 1, _, _, _, rfl, by omega, by omega, ?_, hown7, hB6, hg6⟩, by simp [lenV']; omega⟩
        have := ints_drop HI.out 2
        rw [← hdd] at this
        rwa [show ya.add 2 = ⟨ya.block, ya.off + 2, none⟩ by unfold Addr.add; rw [if_neg (by omega)]] at this
set_option maxHeartbeats 400000 in
set_option maxRecDepth 100000 in
theorem leads_rjumpi (i : Ins) (X : Option Addr) (c : Nat) (w : World) (hc : IntsAt w .u8 X i.imm) (hz : ∀ z ∈ i.imm, 0 ≤ z ∧ z < 256) (hcap : i.imm.length ≤ c) (hx : (Lit.int .i64 i.next).wf = true) (hs : standsI i = true) (hcode : i.code = 225) :
    Calls Tryd.prog 21 #[insV i (.slice X i.imm.length c)] w fun e w' => ∃ v, e = .returned v ∧ w'.ownsRow w.heap.size 3 1 v (leadsI i).length (intVs (leadsI i)) ∧ Below w.heap.size w w' := by
  obtain ⟨i0, hi, hz0, hz1, hz2⟩ := info_parts infoInt
  obtain ⟨h1, hat0, hat1, _, hnx⟩ := stands_bounds hs
  have hl0 := stands_jump hs (.inr hcode)
  obtain ⟨cnt, hcnt1⟩ : ∃ cnt, cnt = 1 := ⟨1, rfl⟩
  have hcnt : i.imm.length = 2 * cnt := by omega
  have hL : leadsI i = leadsN i.imm 0 cnt i.next := by unfold leadsI; rw [if_pos hs, if_neg (by omega), if_pos (.inr hcode), hcnt1]
  have HST := Lib.hid (fun w1 (hb : Below w.heap.size w w1) => stands_any i X c w1 (ints_below hb hc) hz (by omega) hx)
  rw [hs] at HST
  have HC := Lib.hid hc
  have HZ := Lib.hid hz
  have HLN := fun k => distN_range hz k
  obtain ⟨at_, code, imm, next⟩ := i
  dsimp only at *
  subst hcode
  have HOLD := Lib.hid hL
  unfold insV at HST ⊢
  dsimp only at HST ⊢
  have HD := Lib.hid HLN
  clear hc hz HLN hs hL h1
  have hb0 : Below w.heap.size w (w.alloc (.cells #[.int .i64 at_, .int .i64 225, .slice X imm.length c, .int .i64 next] 42)) := (Below.refl _ _).alloc (Nat.le_refl _) _
  obtain ⟨p0, p1, p2, p3, pz, pl⟩ := cells4 (heap_alloc_new w (.cells #[.int .i64 at_, .int .i64 225, .slice X imm.length c, .int .i64 next] 42))
  obtain ⟨y, rfl, hy0⟩ := HC.out 0 (by omega)
  have hcc : ¬ c = 1 := by omega
  have hc1 : (1 : Int) ≤ c := by omega
  have hc2 : 1 ≤ c := by omega
  have hc3 : (1 : Int) ≤ (imm.length : Int) := by omega
  have hc4 : 1 ≤ imm.length := by omega
  have HCNT := Lib.hid hcnt
  have HNX := Lib.hid hnx
  have HCNT1 := Lib.hid hcnt1
  clear hcnt hnx hl0 hcnt1
  go_enter Tryd.func21, Tryd.ntmps21
  go_wp2_with (go_at_call 44; refine (HST.out _ hb0).mono ?_; rintro e w1 ⟨rfl, hb⟩; have hg1 := kept_new hb; obtain ⟨q0, q1, q2, q3, qz, ql⟩ := cells4 hg1; have hB1 := hb0.trans (hb.mono hb0.size))
  have hz0' : imm.length = 2 * cnt := HCNT.out
  have hzb' : ∀ x ∈ imm, 0 ≤ x ∧ x < 256 := HZ.out
  have hI0 : IntsAt w .u8 (some y) imm := HC.out
  obtain ⟨z, hzz⟩ : ∃ z, z = imm := ⟨imm, rfl⟩
  have HZL := Lib.hid (show imm.length = 2 * cnt from hz0')
  rw [← hzz] at hz0' hzb' hI0
  have HOLD := Lib.hid (show leadsI ⟨at_, 225, imm, next⟩ = leadsN z 0 cnt next by rw [hzz]; exact HOLD.out)
  have HZ0 := Lib.hid hz0'
  clear hzz hz0'
  go_loopw [3, 4] (fun vl vb wr => ∃ (k r : Nat) (Y : Option Addr) (c' : Nat), vb = .slice Y r c' ∧ r + 2 * k = 2 * cnt ∧ r ≤ c' ∧ IntsAt w .u8 Y (z.drop (2 * k)) ∧ wr.ownsRow w.heap.size 3 1 vl k (intVs (leadsN z 0 k next)) ∧ Below w.heap.size w wr ∧ wr.heap[w.heap.size]? = some (.cells #[.int .i64 at_, .int .i64 225, .slice (some y) imm.length c, .int .i64 next] 42 (0, 0))) (fun _ vb _ => lenV' vb)
  case atStart => exact ⟨0, _, _, _, rfl, by have := HCNT.out; omega, by omega, hI0, World.ownsRow_nil _ _ _ _, hB1, hg1⟩
  case round =>
    obtain ⟨k, r, Y, c', rfl, hr, hrc, hI, hown, hB, hgw⟩ := hrel
    obtain ⟨Xp, cp, rfl⟩ := owns_shape hown
    by_cases hlt : r = 0
    · subst hlt
      obtain rfl : k = cnt := by omega
      go_wp2
      go_ret
      refine ⟨_, rfl, ?_, hB⟩
      rw [HOLD.out, leadsN_length]
      exact hown
    · have hk : k < cnt := by omega
      obtain ⟨ya, rfl, hxa0⟩ := hI 0 (by rw [List.length_drop, HZ0.out]; omega)
      obtain ⟨ya', hya, hxb0⟩ := hI 1 (by rw [List.length_drop, HZ0.out]; omega)
      cases hya
      have hxa1 : w.cell? ya = some (.int .u8 (z.getD (2 * k) 0)) := by
        rw [show z.getD (2 * k) 0 = (z.drop (2 * k)).getD 0 0 by simp [List.getD_eq_getElem?_getD]]
        simpa [Addr.add] using hxa0
      have hxb1 : w.cell? (ya.add 1) = some (.int .u8 (z.getD (2 * k + 1) 0)) := by
        rw [show z.getD (2 * k + 1) 0 = (z.drop (2 * k)).getD 1 0 by simp [List.getD_eq_getElem?_getD]]
        exact hxb0
      clear hxa0 hxb0
      have ha := hzb' (z.getD (2 * k) 0) (by rw [List.getD_eq_getElem?_getD, List.getElem?_eq_getElem (by have := HZ0.out; omega)]; simp)
      have hb' := hzb' (z.getD (2 * k + 1) 0) (by rw [List.getD_eq_getElem?_getD, List.getElem?_eq_getElem (by have := HZ0.out; omega)]; simp)
      have hd : distN z (0 + 2 * k) = i16N (256 * z.getD (2 * k) 0 + z.getD (2 * k + 1) 0) := by rw [Nat.zero_add]; rfl
      have hdr := distN_range hzb' (0 + 2 * k)
      have HT := Lib.hid (leadsN_snoc z 0 k next)
      generalize distN z (0 + 2 * k) = d at hd hdr HT
      have hw1 : IntKind.i16.wrap (256 * z.getD (2 * k) 0 + z.getD (2 * k + 1) 0) = d := by rw [i16_wrap _ (by omega) (by omega), hd]
      clear hd
      generalize z.getD (2 * k) 0 = a at hxa1 ha hw1
      generalize z.getD (2 * k + 1) 0 = b at hxb1 hb' hw1
      have hnx2 : -1000000000 ≤ next + d ∧ next + d ≤ 1000000000 := by have := HNX.out; have := HCNT.out; have := HCNT1.out; omega
      have hw2 : IntKind.i64.wrap d = d := by rw [IntKind.wrap_i64]; omega
      have hw3 : IntKind.i64.wrap (next + d) = next + d := by rw [IntKind.wrap_i64]; omega
      have hw4 : wrap64 (next + d) = next + d := by unfold wrap64; omega
      have HP := Lib.hid (fun w4 (h4 : Below w.heap.size w w4) => pair_any a b ya r c' w4 ha hb' (cell_later h4 hxa1) (cell_later h4 hxb1) (by omega))
      have HNE := Lib.hid (show some w.heap.size ≠ (Value.slice Xp k cp).ownBlock from fun e => own_type hgw hown (by decide) _ e.symm rfl)
      have HOWN := Lib.hid hown
      have HI := Lib.hid hI
      have hrr : 0 < r := by omega
      have hri : (0 : Int) < (r : Int) := by omega
      clear hown hI hxa1 hxb1 ha hb'
      obtain ⟨r0, r1, r2, r3, rz, rl⟩ := cells4 hgw
      have hdl : wr.heap.size ≤ wr.drew.heap.size := Nat.le_refl _
      have hld : wr.drew.cell? ⟨w.heap.size, 3, none⟩ = some (.int .i64 next) := r3
      go_wp2
      go_region_held3 (fun w' => w'.cell? ⟨w.heap.size, 3, none⟩ = some (.int .i64 next)) (first | exact hld | exact cell_later hb5 hld | exact cell_later ((Below.refl _ _).alloc (Nat.le_refl _) _) (cell_later hb5 hld) | exact hS6)
        (first
          | (go_at_call 45; refine (HP.out _ hB.drew).mono ?_; rintro e w5 ⟨rfl, hb5⟩)
          | (refine step_append_lies _ rfl _ _ 43 rfl w.heap.size 3 i0 (.int .i64 0) 1 8 Tryd.underlying43 hi hz0 hz1 hz2 rfl (by decide) _ _ _ rfl ((own_below (W := wr.drew) HOWN.out hb5).alloc _) ⟨w5.heap.size, 0, none⟩ 1 1 [.int .i64 (next + d)] rfl rfl (cells_fresh w5 #[.int .i64 (next + d)] _ _ rfl) (by intro u hu; simp at hu; subst hu; rfl) (by decide) (by have := HCNT1.out; unfold maxLen; omega) (by have := HCNT1.out; omega) (by have := hB.drew.size; have := hb5.size; simp; omega) _ rfl ?_; intro g6 c6 w6 hown6 hgrow6 hat6 hlt6; have hS6 : w6.cell? ⟨w.heap.size, 3, none⟩ = some (.int .i64 next) := (hgrow6.cell_far ⟨w.heap.size, 3, none⟩ (by have := hb5.size; simp; omega) HNE.out).trans (cell_later ((Below.refl _ _).alloc (Nat.le_refl _) _) (cell_later hb5 hld))))
      have hb6 : Below w.heap.size w (w5.alloc (.cells #[.int .i64 (next + d)] 3)) := (hB.drew.trans (hb5.mono hB.drew.size)).alloc (by have := hB.drew.size; have := hb5.size; omega) _
      have hB6 := bel_own hb6 ((own_below (W := wr.drew) HOWN.out hb5).alloc _) (Nat.le_refl _) hgrow6
      have hg6 : w6.heap[w.heap.size]? = some (.cells #[.int .i64 at_, .int .i64 225, .slice (some y) imm.length c, .int .i64 next] 42 (0, 0)) := (hgrow6.block w.heap.size (by have := hb5.size; simp; omega) HNE.out).trans (kept_of ((hb5.trans ((Below.refl _ _).alloc hb5.size _))) (show wr.drew.heap[w.heap.size]? = _ from hgw))
      have hown7 : w6.ownsRow w.heap.size 3 1 (.slice (some ⟨g6, 0, none⟩) (k + 1) c6) (k + 1) (intVs (leadsN z 0 (k + 1) next)) := by rw [HT.out]; unfold intVs; rw [List.map_append]; exact hown6
      have hdd : z.drop (2 * (k + 1)) = (z.drop (2 * k)).drop 2 := by rw [List.drop_drop]; congr 1
      clear r0 r1 r2 r3 rz rl hld hS6 hrr hri hw1 hw2 hw3 hw4
      by_cases hcap : c' = 2
      · obtain rfl : r = 2 := by omega
        subst hcap
        have hnil : z.drop (2 * (k + 1)) = [] := List.drop_eq_nil_of_le (by have := HZ0.out; omega)
        go_wp2
        exact ⟨⟨k + 1, _, _, _, rfl, by omega, by omega, by rw [hnil]; exact ints_nil _ _ _, hown7, hB6, hg6⟩, by simp [lenV']⟩
      · have hc'1 : (2 : Int) ≤ (c' : Int) := by omega
        have hc'2 : 2 ≤ c' := by omega
        have hr2 : (2 : Int) ≤ (r : Int) := by omega
        have hr3 : 2 ≤ r := by omega
        go_wp2
        refine ⟨⟨k + 1, _, _, _, rfl, by omega, by omega, ?_, hown7, hB6, hg6⟩, by simp [lenV']; omega⟩
        have := ints_drop HI.out 2
        rw [← hdd] at this
        rwa [show ya.add 2 = ⟨ya.block, ya.off + 2, none⟩ by unfold Addr.add; rw [if_neg (by omega)]] at this
set_option maxHeartbeats 400000 in
set_option maxRecDepth 100000 in
theorem leads_none (i : Ins) (X : Option Addr) (c : Nat) (w : World) (hc : IntsAt w .u8 X i.imm) (hz : ∀ z ∈ i.imm, 0 ≤ z ∧ z < 256) (hn : i.imm.length ≤ 140737488355328) (hx : (Lit.int .i64 i.next).wf = true) (hs : standsI i = false ∨ (i.code ≠ 224 ∧ i.code ≠ 225 ∧ i.code ≠ 226)) :
    Calls Tryd.prog 21 #[insV i (.slice X i.imm.length c)] w fun e w' => ∃ v, e = .returned v ∧ w'.ownsRow w.heap.size 3 1 v (leadsI i).length (intVs (leadsI i)) ∧ Below w.heap.size w w' := by
  have hL : leadsI i = [] := by
    unfold leadsI
    rcases hs with h | ⟨h1, h2, h3⟩
    · rw [h]; rfl
    · rw [if_neg h3, if_neg (show ¬(i.code = 224 ∨ i.code = 225) by omega)]; split <;> rfl
  rw [hL]
  have HST := Lib.hid (fun w1 (hb : Below w.heap.size w w1) => stands_any i X c w1 (ints_below hb hc) hz hn hx)
  clear hc hz hL
  obtain ⟨at_, code, imm, next⟩ := i
  unfold insV at HST ⊢
  dsimp only at HST hs ⊢
  have hb0 : Below w.heap.size w (w.alloc (.cells #[.int .i64 at_, .int .i64 code, .slice X imm.length c, .int .i64 next] 42)) := (Below.refl _ _).alloc (Nat.le_refl _) _
  obtain ⟨p0, p1, p2, p3, pz, pl⟩ := cells4 (heap_alloc_new w (.cells #[.int .i64 at_, .int .i64 code, .slice X imm.length c, .int .i64 next] 42))
  rcases hs with h | ⟨h1, h2, h3⟩
  · rw [h] at HST
    go_enter Tryd.func21, Tryd.ntmps21
    go_wp2_with (go_at_call 44; refine (HST.out _ hb0).mono ?_; rintro e w1 ⟨rfl, hb⟩)
    go_ret
    exact ⟨_, rfl, World.ownsRow_nil _ _ _ _, hb0.trans (hb.mono hb0.size)⟩
  · cases hs : standsI ⟨at_, code, imm, next⟩ with
    | false =>
      rw [hs] at HST
      clear hs
      go_enter Tryd.func21, Tryd.ntmps21
      go_wp2_with (go_at_call 44; refine (HST.out _ hb0).mono ?_; rintro e w1 ⟨rfl, hb⟩)
      go_ret
      exact ⟨_, rfl, World.ownsRow_nil _ _ _ _, hb0.trans (hb.mono hb0.size)⟩
    | true =>
      rw [hs] at HST
      clear hs
      have e1 : (code == 224) = false := by rw [beq_eq_false_iff_ne]; exact h1
      have e2 : (code == 225) = false := by rw [beq_eq_false_iff_ne]; exact h2
      have e3 : (code == 226) = false := by rw [beq_eq_false_iff_ne]; exact h3
      go_enter Tryd.func21, Tryd.ntmps21
      go_wp2_with (go_at_call 44; refine (HST.out _ hb0).mono ?_; rintro e w1 ⟨rfl, hb⟩; have hg1 := kept_new hb; obtain ⟨q0, q1, q2, q3, qz, ql⟩ := cells4 hg1)
      go_ret
      exact ⟨_, rfl, World.ownsRow_nil _ _ _ _, hb0.trans (hb.mono hb0.size)⟩
/-- Where an instruction's jumps lead, of whatever instruction. -/
theorem leads_any (i : Ins) (X : Option Addr) (c : Nat) (w : World) (hc : IntsAt w .u8 X i.imm) (hz : ∀ z ∈ i.imm, 0 ≤ z ∧ z < 256) (hn : i.imm.length ≤ 140737488355328) (hcap : i.imm.length ≤ c) (hx : (Lit.int .i64 i.next).wf = true) :
    Calls Tryd.prog 21 #[insV i (.slice X i.imm.length c)] w fun e w' => ∃ v, e = .returned v ∧ w'.ownsRow w.heap.size 3 1 v (leadsI i).length (intVs (leadsI i)) ∧ Below w.heap.size w w' := by
  by_cases hs : standsI i = true
  · by_cases h6 : i.code = 226
    · exact leads_table i X c w hc hz hcap hx hs h6
    by_cases h4 : i.code = 224
    · exact leads_rjump i X c w hc hz hcap hx hs h4
    by_cases h5 : i.code = 225
    · exact leads_rjumpi i X c w hc hz hcap hx hs h5
    exact leads_none i X c w hc hz hn hx (.inr ⟨h4, h5, h6⟩)
  · exact leads_none i X c w hc hz hn hx (.inl (by simpa using hs))
end Go.Proofs.YtfjmdffhfjnopaaDoor
namespace Vouch
/-- Where a standing instruction's jumps lie in its immediate bytes. -/
theorem leads_form {i : Ins} (hz : ∀ z ∈ i.imm, 0 ≤ z ∧ z < 256) (hs : standsI i = true) : ∃ fr cnt, leadsI i = leadsN i.imm fr cnt i.next ∧ cnt ≤ 256 ∧ fr + 2 * cnt ≤ i.imm.length ∧ (cnt = 0 ∨ (i.imm.length ≤ 600 ∧ -1000000 ≤ i.next ∧ i.next ≤ 2000000)) ∧
    ((i.code = 226 ∧ fr = 1 ∧ fr + 2 * cnt = i.imm.length) ∨ ((i.code = 224 ∨ i.code = 225) ∧ fr = 0 ∧ cnt = 1) ∨ (i.code ≠ 224 ∧ i.code ≠ 225 ∧ i.code ≠ 226 ∧ fr = 0 ∧ cnt = 0)) := by
  obtain ⟨h1, hat0, hat1, him, hnx⟩ := stands_bounds hs
  by_cases h6 : i.code = 226
  · have hl0 := (stands_table hs h6).resolve_right id
    have hb00 := hz (i.imm.getD 0 0) (by rw [List.getD_eq_getElem?_getD, List.getElem?_eq_getElem (by omega)]; simp)
    refine ⟨1, (i.imm.length - 1) / 2, by unfold leadsI; rw [if_pos hs, if_pos h6], by omega, by omega, .inr ⟨by omega, by omega, by omega⟩, .inl ⟨h6, rfl, by omega⟩⟩
  · by_cases h4 : i.code = 224 ∨ i.code = 225
    · have hl0 := stands_jump hs h4
      exact ⟨0, 1, by unfold leadsI; rw [if_pos hs, if_neg h6, if_pos h4], by omega, by omega, .inr ⟨by omega, by omega, by omega⟩, .inr (.inl ⟨h4, rfl, rfl⟩)⟩
    · refine ⟨0, 0, ?_, by omega, by omega, .inl rfl, .inr (.inr ⟨fun h => h4 (.inl h), fun h => h4 (.inr h), h6, rfl, rfl⟩)⟩
      unfold leadsI
      rw [if_pos hs, if_neg h6, if_neg h4]
      rfl
end Vouch
namespace Go.Proofs.YtfjmdffhfjnopaaDoor
open Go.RowKit Vouch Go.Vk Go.Sort
end Go.Proofs.YtfjmdffhfjnopaaDoor
namespace Vouch
def hiB (z : Int) : Int := z / 256 % 256
def loB (z : Int) : Int := z % 256
def twos (zs : List Int) : List Int := zs.flatMap fun z => [hiB z, loB z]
theorem twos_length (zs : List Int) : (twos zs).length = 2 * zs.length := by
  induction zs with
  | nil => rfl
  | cons z zs ih => unfold twos at ih ⊢; rw [List.flatMap_cons, List.length_append, ih, List.length_cons]; simp; omega
theorem twos_append (a b : List Int) : twos (a ++ b) = twos a ++ twos b := by simp [twos]
theorem twos_snoc {zs : List Int} {k : Nat} (h : k < zs.length) : twos (zs.take (k + 1)) = twos (zs.take k) ++ [hiB (zs.getD k 0), loB (zs.getD k 0)] := by
  rw [List.take_add_one, List.getElem?_eq_getElem h, twos_append, List.getD_eq_getElem?_getD, List.getElem?_eq_getElem h]
  rfl
theorem twos_at {zs : List Int} {k : Nat} (h : k < zs.length) : (twos zs).getD (2 * k) 0 = hiB (zs.getD k 0) ∧ (twos zs).getD (2 * k + 1) 0 = loB (zs.getD k 0) := by
  have e : twos zs = twos (zs.take k) ++ (hiB (zs.getD k 0) :: loB (zs.getD k 0) :: twos (zs.drop (k + 1))) := by
    conv => lhs; rw [← List.take_append_drop (k + 1) zs]
    rw [twos_append, twos_snoc h, List.append_assoc]
    rfl
  have hl : (twos (zs.take k)).length = 2 * k := by rw [twos_length, List.length_take]; omega
  rw [e]
  constructor
  · rw [List.getD_eq_getElem?_getD, List.getElem?_append_right (by omega), hl]; simp
  · rw [List.getD_eq_getElem?_getD, List.getElem?_append_right (by omega), hl, show 2 * k + 1 - 2 * k = 1 by omega]; simp
theorem byte_hi (z : Int) : 0 ≤ hiB z ∧ hiB z < 256 := by unfold hiB; omega
theorem byte_lo (z : Int) : 0 ≤ loB z ∧ loB z < 256 := by unfold loB; omega
theorem hi_lo (z : Int) : 256 * hiB z + loB z = z % 65536 := by unfold hiB loB; omega
def jimm (zs : List Int) (N : Nat) : List Int := ((N : Int) - 1) :: twos (zs.take N)
theorem jimm_length {zs : List Int} {N : Nat} (h : N ≤ zs.length) : (jimm zs N).length = 1 + 2 * N := by unfold jimm; rw [List.length_cons, twos_length, List.length_take]; omega
theorem jimm_at {zs : List Int} {N k : Nat} (h : N ≤ zs.length) (hk : k < N) : (jimm zs N).getD (1 + 2 * k) 0 = hiB (zs.getD k 0) ∧ (jimm zs N).getD (1 + 2 * k + 1) 0 = loB (zs.getD k 0) := by
  have ht := twos_at (zs := zs.take N) (k := k) (by rw [List.length_take]; omega)
  rw [show (zs.take N).getD k 0 = zs.getD k 0 by rw [List.getD_eq_getElem?_getD, List.getElem?_take, if_pos hk, ← List.getD_eq_getElem?_getD]] at ht
  unfold jimm
  rw [show 1 + 2 * k = (2 * k) + 1 by omega, show 2 * k + 1 + 1 = (2 * k + 1) + 1 from rfl, List.getD_cons_succ, List.getD_cons_succ]
  exact ht
theorem jimm_byte {zs : List Int} {N : Nat} (h1 : 1 ≤ N) (h2 : N ≤ 256) : ∀ x ∈ jimm zs N, 0 ≤ x ∧ x < 256 := by
  intro x hx
  unfold jimm at hx
  rcases List.mem_cons.1 hx with h | h
  · omega
  · unfold twos at h
    obtain ⟨z, _, hz⟩ := List.mem_flatMap.1 h
    rcases List.mem_cons.1 hz with h | h
    · rw [h]; exact byte_hi z
    · rw [List.mem_singleton.1 h]; exact byte_lo z
theorem jimm_stands {zs : List Int} {N : Nat} {at_ : Int} (h : N ≤ zs.length) (h1 : 1 ≤ N) (h2 : N ≤ 256) (ha : 0 ≤ at_ ∧ at_ ≤ 65535) : standsI ⟨at_, 226, jimm zs N, at_ + 1 + (1 + 2 * (N : Int))⟩ = true := by
  have hl := jimm_length h
  have hi : immL (opR 226) (jimm zs N) = some (1 + 2 * N) := by
    unfold immL
    rw [if_pos (show (opR 226).imm = -1 from rfl), if_neg (by omega)]
    congr 1
    unfold jimm
    rw [List.getD_cons_zero]
    omega
  unfold standsI
  dsimp only
  rw [hi, show isOp 226 = true from by decide +kernel, decide_eq_true (show 0 ≤ at_ by omega), decide_eq_true (show at_ ≤ 1048576 by omega)]
  simp only [Bool.true_and, hl, Bool.and_eq_true, beq_iff_eq]
  exact ⟨trivial, by omega⟩
theorem jimm_leads {zs : List Int} {N : Nat} {at_ : Int} (h : N ≤ zs.length) (h1 : 1 ≤ N) (h2 : N ≤ 256) (ha : 0 ≤ at_ ∧ at_ ≤ 65535) : leadsI ⟨at_, 226, jimm zs N, at_ + 1 + (1 + 2 * (N : Int))⟩ = leadsN (jimm zs N) 1 N (at_ + 1 + (1 + 2 * (N : Int))) := by
  unfold leadsI
  rw [if_pos (jimm_stands h h1 h2 ha), if_pos rfl]
  dsimp only
  rw [jimm_length h, show (1 + 2 * N - 1) / 2 = N by omega]
theorem leadsN_at (z : List Int) (fr N k : Nat) (next : Int) (hk : k < N) : (leadsN z fr N next).getD k 0 = next + distN z (fr + 2 * k) := by
  unfold leadsN
  rw [List.getD_eq_getElem?_getD, List.getElem?_map, List.getElem?_range hk]
  rfl
theorem jimm_dist {zs : List Int} {N k : Nat} (h : N ≤ zs.length) (hk : k < N) : distN (jimm zs N) (1 + 2 * k) = i16N (zs.getD k 0 % 65536) := by
  have := jimm_at h hk
  unfold distN pairN
  rw [this.1, this.2, hi_lo]
theorem lone_stands {at_ C h l : Int} (hC : C = 224 ∨ C = 225) (ha : 0 ≤ at_ ∧ at_ ≤ 65535) : standsI ⟨at_, C, [h, l], at_ + 3⟩ = true := by
  have hi : immL (opR C) [h, l] = some 2 := by rcases hC with rfl | rfl <;> rfl
  have ho : isOp C = true := by rcases hC with rfl | rfl <;> decide +kernel
  unfold standsI
  dsimp only
  rw [hi, ho, decide_eq_true (show 0 ≤ at_ by omega), decide_eq_true (show at_ ≤ 1048576 by omega)]
  simp only [Bool.true_and, Bool.and_eq_true, beq_iff_eq]
  exact ⟨rfl, by omega⟩
theorem lone_leads {at_ C : Int} (z : Int) (hC : C = 224 ∨ C = 225) (ha : 0 ≤ at_ ∧ at_ ≤ 65535) : leadsI ⟨at_, C, [hiB z, loB z], at_ + 3⟩ = [at_ + 3 + i16N (z % 65536)] := by
  unfold leadsI
  rw [if_pos (lone_stands hC ha), if_neg (by dsimp only; omega), if_pos hC]
  show [at_ + 3 + i16N (256 * hiB z + loB z)] = _
  rw [hi_lo]
end Vouch
namespace Go.Proofs.YtfjmdffhfjnopaaDoor
open Go.RowKit Vouch Go.Vk Go.Sort
theorem owned_ints64 {w : World} {B : Nat} {X : Option Addr} {c : Nat} {zs : List Int} (h : w.ownsRow B 3 1 (.slice X zs.length c) zs.length (intVs zs)) : IntsAt w .i64 X zs := fun i hi => by
  obtain ⟨g, rfl⟩ := own_head h (by omega)
  refine ⟨_, rfl, ?_⟩
  rw [show (⟨g, 0, none⟩ : Addr).add i = ⟨g, i, none⟩ by unfold Addr.add; split <;> simp_all, h.cellAt i (by omega)]
  simp [intVs, List.getD_eq_getElem?_getD, List.getElem?_eq_getElem hi]
theorem u16_i16 (z : Int) : IntKind.i16.wrap (IntKind.u16.wrap z) = i16N (z % 65536) := by
  rw [show IntKind.u16.wrap z = z % 65536 by simp [IntKind.wrap, IntKind.bits, IntKind.signed]]
  exact i16_wrap _ (by omega) (by omega)
theorem mask16 (z : Int) (h0 : 0 ≤ z) (h1 : z < 9223372036854775808) : bits .and .i64 z 65535 = z % 65536 := bits_mask .i64 63 (by decide) wraps_i64 16 (by decide) z h0 h1
end Go.Proofs.YtfjmdffhfjnopaaDoor
namespace Vouch
def goodTo (n : Nat) (l : List Ins) (t : Int) : Bool := decide (0 ≤ t) && decide (t < n) && startAt l t.toNat
def badI (n : Nat) (l : List Ins) (i : Ins) : Bool := (leadsI i).any fun t => !goodTo n l t
/-- Check's number and place, of a section whose instructions l are. -/
def checkE (bs : List Int) (l : List Ins) : Int × Int := if (scanE bs l).1 = 0 then (match l.find? (badI bs.length l) with | some i => (63, i.at_) | none => (0, 0)) else scanE bs l
theorem find_at {p : Ins → Bool} {l : List Ins} {k : Nat} {i : Ins} (hi : l[k]? = some i) (h : ∀ m, m < k → p (l.getD m zeroI) = false) (hp : p i = true) : l.find? p = some i := by
  obtain ⟨hk, rfl⟩ := List.getElem?_eq_some_iff.1 hi
  rw [List.find?_eq_some_iff_getElem]
  refine ⟨hp, k, hk, rfl, fun j hj => ?_⟩
  have := h j hj
  rw [List.getD_eq_getElem?_getD, List.getElem?_eq_getElem (by omega)] at this
  simpa using this
theorem find_none {p : Ins → Bool} {l : List Ins} (h : ∀ m, m < l.length → p (l.getD m zeroI) = false) : l.find? p = none := by
  rw [List.find?_eq_none]
  intro x hx
  obtain ⟨m, hm, rfl⟩ := List.mem_iff_getElem.1 hx
  have := h m hm
  rw [List.getD_eq_getElem?_getD, List.getElem?_eq_getElem hm] at this
  simpa using this
theorem bad_none {n : Nat} {l : List Ins} {i : Ins} (h : ∀ m, m < (leadsI i).length → goodTo n l ((leadsI i).getD m 0) = true) : badI n l i = false := by
  unfold badI
  rw [List.any_eq_false]
  intro x hx
  obtain ⟨m, hm, rfl⟩ := List.mem_iff_getElem.1 hx
  have := h m hm
  rw [List.getD_eq_getElem?_getD, List.getElem?_eq_getElem hm] at this
  simpa using this
theorem bad_some {n : Nat} {l : List Ins} {i : Ins} {m : Nat} (hm : m < (leadsI i).length) (h : goodTo n l ((leadsI i).getD m 0) = false) : badI n l i = true := by
  unfold badI
  rw [List.any_eq_true]
  refine ⟨(leadsI i).getD m 0, ?_, by rw [h]; rfl⟩
  rw [List.getD_eq_getElem?_getD, List.getElem?_eq_getElem hm]
  simp
theorem leadsI_len {i : Ins} (hz : ∀ z ∈ i.imm, 0 ≤ z ∧ z < 256) : (leadsI i).length ≤ 256 := by
  cases hs : standsI i with
  | false => unfold leadsI; rw [hs]; simp
  | true =>
    obtain ⟨fr, cnt, hL, hcnt, _⟩ := leads_form hz hs
    rw [hL, leadsN_length]
    exact hcnt
theorem check_bad {bs : List Int} {l : List Ins} {k m : Nat} {i : Ins} (hs : (scanE bs l).1 = 0) (hi : l[k]? = some i) (h : ∀ m, m < k → badI bs.length l (l.getD m zeroI) = false) (hm : m < (leadsI i).length) (hb : goodTo bs.length l ((leadsI i).getD m 0) = false) : checkE bs l = (63, i.at_) := by
  unfold checkE
  rw [if_pos hs, find_at hi h (bad_some hm hb)]
theorem check_good {bs : List Int} {l : List Ins} (hs : (scanE bs l).1 = 0) (h : ∀ m, m < l.length → badI bs.length l (l.getD m zeroI) = false) : checkE bs l = (0, 0) := by
  unfold checkE
  rw [if_pos hs, find_none h]
end Vouch
namespace Go.Proofs.YtfjmdffhfjnopaaDoor
open Go.RowKit Vouch Go.Vk Go.Sort
/-- What Check hands back. -/
def CheckOut (bs : List Int) (w : World) (e : Ending) (w' : World) : Prop := ∃ xs : List El, AllOf bs xs ∧ e = .returned (.tuple #[.int .i64 (checkE bs (xs.map Prod.fst)).1, .int .i64 (checkE bs (xs.map Prod.fst)).2]) ∧ Below w.heap.size w w'
theorem checkOut_mk {bs : List Int} {w : World} {e : Ending} {w' : World} (xs : List El) (h : AllOf bs xs) (he : e = .returned (.tuple #[.int .i64 (checkE bs (xs.map Prod.fst)).1, .int .i64 (checkE bs (xs.map Prod.fst)).2])) (hb : Below w.heap.size w w') : CheckOut bs w e w' := ⟨xs, h, he, hb⟩
theorem all_same {bs : List Int} {xs ys : List El} (h : AllOf bs xs) (h' : AllOf bs ys) : ys.map Prod.fst = xs.map Prod.fst := by
  obtain ⟨p, h1, h2⟩ := h
  obtain ⟨q, h3, h4⟩ := h'
  exact (reads_all h1 h2 h3 h4).1
set_option maxHeartbeats 1000000 in
set_option maxRecDepth 100000 in
theorem check_any (bs : List Int) (A : Option Addr) (cap : Nat) (w : World) (hc : IntsAt w .u8 A bs) (hz : ∀ z ∈ bs, 0 ≤ z ∧ z < 256) (hn : bs.length ≤ 4294967296) (hcap : bs.length ≤ cap) :
    Calls Tryd.prog 55 #[.slice A bs.length cap] w (CheckOut bs w) := by
  have HSC := Lib.hid (scan_any bs A cap w hc hz hn hcap)
  have HSS := Lib.hid (fun w1 (hb : Below w.heap.size w w1) => starts_any bs A cap w1 (ints_below hb hc) hz hn)
  have HZ := Lib.hid hz
  clear hc hz
  go_enter Tryd.func55, Tryd.ntmps55
  go_wp2_with (go_at_call 64; refine stop_o ?_)
  unfold StopO
  refine HSC.out.mono ?_
  rintro e w1 ⟨xs, ys, v, hall, rfl, hown, hrows, hris, hys, hb1⟩
  have HALL := Lib.hid hall
  rcases hys with ⟨h0, hxy⟩ | ⟨h0, hxy⟩
  · obtain rfl : xs = ys := hxy.symm
    rw [h0]
    have HSE := Lib.hid h0
    clear h0 hall
    go_wp2_with (go_at_call 65; refine stop_o ?_)
    unfold StopO
    refine (HSS.out w1 hb1).mono ?_
    rintro e w2 ⟨rfl, xs', hall', hrow, hb2⟩
    rw [all_same HALL.out hall'] at hrow
    have hB2 := hb1.trans (hb2.mono hb1.size)
    clear hall'
    have hlen : xs.length ≤ bs.length := by
      obtain ⟨p, hp, _⟩ := HALL.out
      have := reads_length hp
      simpa using this
    obtain ⟨Xl, cl, rfl⟩ := owns_shape hown
    have HOWN := Lib.hid (own_below hown hb2)
    have HROWS := Lib.hid (fun x hx => own_below (hrows x hx) hb2)
    clear hown hrows hris
    go_wp2
    go_loopw [26] (fun vk wr => ∃ k : Nat, vk = .int .i64 k ∧ k ≤ xs.length ∧ (∀ m, m < k → badI bs.length (xs.map Prod.fst) ((xs.map Prod.fst).getD m zeroI) = false) ∧ Below w2.heap.size w2 wr) (fun vk _ => xs.length - (intOf vk).toNat)
    case atStart => exact ⟨0, rfl, Nat.zero_le _, fun m h => absurd h (Nat.not_lt_zero _), Below.refl _ _⟩
    case round =>
      obtain ⟨k, rfl, hk, hgood, hBr⟩ := hrel
      have HG := Lib.hid hgood
      clear hgood
      by_cases hlt : k < xs.length
      · obtain ⟨⟨i, yv⟩, hy⟩ : ∃ y, xs[k]? = some y := ⟨_, List.getElem?_eq_getElem hlt⟩
        obtain ⟨hr1, hr2, hr3, hr4⟩ := insCells_at hy
        have hyr := HROWS.out _ (List.mem_of_getElem? hy)
        have hik : (xs.map Prod.fst)[k]? = some i := by rw [List.getElem?_map, hy]; rfl
        dsimp only at hr1 hr2 hr3 hr4
        replace hyr : w2.ownsRow w.heap.size 5 1 yv i.imm.length (byteVs i.imm) := hyr
        obtain ⟨X, c, rfl⟩ := owns_shape hyr
        obtain ⟨gl, rfl⟩ := own_head HOWN.out (by omega)
        obtain ⟨q, hq1, hq2⟩ : ∃ q, Reads bs ((xs.take k).map Prod.fst) q ∧ readE bs q = (0, i) := by
          obtain ⟨p, hp, _⟩ := HALL.out
          exact reads_at hp hy
        obtain ⟨hq0, hqn, hq5, hat, hnx, hil⟩ := read_next hq2
        have him := (read_parts hq2).2.2.1
        have hib : ∀ z ∈ i.imm, 0 ≤ z ∧ z < 256 := fun z h => by
          rw [him] at h
          exact HZ.out z (List.mem_of_mem_drop (List.mem_of_mem_take h))
        have c0 := cell_later hBr ((HOWN.out.cellAt (k * 4) (by omega)).trans hr1)
        have c1 := cell_later hBr ((HOWN.out.cellAt (k * 4 + 1) (by omega)).trans hr2)
        have c2 := cell_later hBr ((HOWN.out.cellAt (k * 4 + 2) (by omega)).trans hr3)
        have c3 := cell_later hBr ((HOWN.out.cellAt (k * 4 + 3) (by omega)).trans hr4)
        have HIK := Lib.hid hik
        have hnw : (Lit.int .i64 i.next).wf = true := wf64 (by omega) (by omega)
        have hLm := leadsI_len hib
        have HAT := Lib.hid hat
        have HNX := Lib.hid hnx
        have h1 : (k : Int) < (xs.length : Int) := by omega
        have hbx := (Below.refl wr.heap.size wr).alloc (Nat.le_refl _) (.cells #[.int .i64 i.at_, .int .i64 i.code, .slice X i.imm.length c, .int .i64 i.next] 42)
        have hgx := heap_alloc_new wr (.cells #[.int .i64 i.at_, .int .i64 i.code, .slice X i.imm.length c, .int .i64 i.next] 42)
        have hB3 := hBr.trans (hbx.mono hBr.size)
        have HL := Lib.hid (leads_any i X c _ (ints_below hB3 (owned_ints hyr)) hib (by omega) (owned_cap hyr) hnw)
        obtain ⟨p0, p1, p2, p3, pz, pl⟩ := cells4 hgx
        unfold insV at HL
        clear hr1 hr2 hr3 hr4 hq2 hq1 him hik hy hat hnx hib
        have hrow3 := row_below hrow hB3
        go_wp2_with (go_at_call 21; refine stop_o ?_)
        generalize wr.alloc (.cells #[.int .i64 i.at_, .int .i64 i.code, .slice X i.imm.length c, .int .i64 i.next] 42) = W3 at hbx hgx hB3 HL p0 p1 p2 p3 pz pl hrow3 ⊢
        unfold StopO
        refine HL.out.mono ?_
        rintro e w4 ⟨vl, rfl, hol, hb4⟩
        obtain ⟨Xt, ct, rfl⟩ := owns_shape hol
        have hrow4 := row_below hrow3 hb4
        have hg4 := kept_of hb4 hgx
        have hB4 := hB3.trans (hb4.mono hB3.size)
        have HLI := Lib.hid (owned_ints64 hol)
        clear p0 p1 p2 p3 pz pl hol c0 c1 c2 c3 hrow3 hgx
        go_wp2
        go_loopw [33] (fun vj wx => ∃ j : Nat, vj = .int .i64 j ∧ j ≤ (leadsI i).length ∧ (∀ m, m < j → goodTo bs.length (xs.map Prod.fst) ((leadsI i).getD m 0) = true) ∧ Below w4.heap.size w4 wx) (fun vj _ => (leadsI i).length - (intOf vj).toNat)
        case atStart => exact ⟨0, rfl, Nat.zero_le _, fun m h => absurd h (Nat.not_lt_zero _), Below.refl _ _⟩
        case round =>
          obtain ⟨j, rfl, hj, hgd, hBj⟩ := hrel
          have HGD := Lib.hid hgd
          clear hgd
          have hrow5 := row_below hrow4 hBj
          obtain ⟨p0, p1, p2, p3, pz, pl⟩ := cells4 (kept_of hBj hg4)
          by_cases hjl : j < (leadsI i).length
          · obtain ⟨y, rfl, hy⟩ := HLI.out j hjl
            have hy' := cell_later hBj hy
            have hj1 : (j : Int) < ((leadsI i).length : Int) := by omega
            have HBAD := Lib.hid (fun (h : goodTo bs.length (xs.map Prod.fst) ((leadsI i).getD j 0) = false) => check_bad HSE.out HIK.out HG.out hjl h)
            have HSN := Lib.hid (fun (h : goodTo bs.length (xs.map Prod.fst) ((leadsI i).getD j 0) = true) m (hm : m < j + 1) => if e : m < j then HGD.out m e else (by rw [show m = j by omega]; exact h))
            generalize (leadsI i).getD j 0 = t at hy' HBAD HSN
            clear hy
            have HROW := Lib.hid hrow5
            by_cases ht0 : t < 0
            · have hb := HBAD.out (by unfold goodTo; rw [decide_eq_false (by omega)]; rfl)
              have HB := Lib.hid hb
              clear hb
              go_wp2
              go_quiet (fail)
              go_wp2
              refine bodyPost_ret (results_tmp2 rfl _ _ _) rfl (checkOut_mk xs HALL.out (by rw [HB.out]; rfl) (below_drewN (hB2.trans ((hB4.trans (hBj.mono hB4.size)).mono hB2.size)) _))
            · by_cases ht1 : (bs.length : Int) ≤ t
              · have hb := HBAD.out (by unfold goodTo; rw [decide_eq_false (show ¬ t < (bs.length : Int) by omega)]; simp)
                have ht2 : ¬ t < (bs.length : Int) := by omega
                have HB := Lib.hid hb
                clear hb
                go_wp2
                go_quiet (fail)
                go_wp2
                refine bodyPost_ret (results_tmp2 rfl _ _ _) rfl (checkOut_mk xs HALL.out (by rw [HB.out]; rfl) (below_drewN (hB2.trans ((hB4.trans (hBj.mono hB4.size)).mono hB2.size)) _))
              · obtain ⟨q', hq'⟩ : ∃ q' : Nat, t = q' := ⟨t.toNat, by omega⟩
                subst hq'
                have hcq := HROW.out.cell (i := q') (by omega)
                cases hst : startAt (xs.map Prod.fst) q' with
                | true =>
                  have hs := HSN.out (by unfold goodTo; rw [decide_eq_true (by omega), decide_eq_true (by omega)]; simpa using hst)
                  rw [hst] at hcq
                  have HS := Lib.hid hs
                  clear hs hst
                  have ht3 : (q' : Int) < (bs.length : Int) := by omega
                  go_wp2
                  exact ⟨⟨j + 1, by go_num, by omega, HS.out, hBj⟩, by simp [intOf]; omega⟩
                | false =>
                  have hb := HBAD.out (by unfold goodTo; rw [decide_eq_true (by omega), decide_eq_true (by omega)]; simpa using hst)
                  rw [hst] at hcq
                  have ht3 : (q' : Int) < (bs.length : Int) := by omega
                  clear hst
                  have HB := Lib.hid hb
                  clear hb
                  go_wp2
                  go_quiet (fail)
                  go_wp2
                  refine bodyPost_ret (results_tmp2 rfl _ _ _) rfl (checkOut_mk xs HALL.out (by rw [HB.out]; rfl) (below_drewN (hB2.trans ((hB4.trans (hBj.mono hB4.size)).mono hB2.size)) _))
          · have hje : (leadsI i).length = j := by omega
            have hbn := bad_none (n := bs.length) (l := xs.map Prod.fst) (i := i) (fun m hm => HGD.out m (by omega))
            have hj1 : ¬ (j : Int) < ((leadsI i).length : Int) := by omega
            have HBN := Lib.hid (fun m (hm : m < k + 1) => (show badI bs.length (xs.map Prod.fst) ((xs.map Prod.fst).getD m zeroI) = false from if e : m < k then HG.out m e else (by rw [show m = k by omega, List.getD_eq_getElem?_getD, HIK.out]; exact hbn)))
            clear hbn hje
            go_wp2
            exact ⟨⟨k + 1, by go_num, by omega, HBN.out, hB4.trans (hBj.mono hB4.size)⟩, by simp [intOf]; omega⟩
      · have hk' : k = xs.length := by omega
        subst hk'
        have hck := check_good HSE.out (fun m hm => HG.out m (by simpa using hm))
        have HCK := Lib.hid hck
        have h1 : ¬ (xs.length : Int) < (xs.length : Int) := by omega
        clear hck
        go_wp2
        refine bodyPost_ret (results_tmp2 rfl _ _ _) rfl (checkOut_mk xs HALL.out (by rw [HCK.out]; rfl) (hB2.trans (hBr.mono hB2.size)))
  · subst hxy
    have hne : ((scanE bs (xs.map Prod.fst)).1 != 0) = true := by simpa using h0
    have hck : checkE bs (xs.map Prod.fst) = scanE bs (xs.map Prod.fst) := by unfold checkE; rw [if_neg h0]
    have HCK := Lib.hid hck
    generalize scanE bs (xs.map Prod.fst) = r at hne HCK ⊢
    clear h0 hck hall
    go_wp2
    refine bodyPost_ret (results_tmp2 rfl _ _ _) rfl (checkOut_mk xs HALL.out (by rw [HCK.out]; rfl) hb1)
end Go.Proofs.YtfjmdffhfjnopaaDoor
