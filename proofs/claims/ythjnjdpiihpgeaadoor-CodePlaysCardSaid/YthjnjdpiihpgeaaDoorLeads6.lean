/- code.Leads: where an instruction's jumps lead. -/
import Derived.Test.YthjnjdpiihpgeaaDoorPair6
import Derived.Deep.AppendLies
import Derived.Deep.RegionHeld3
namespace Vouch
def leadsN (z : List Int) (fr cnt : Nat) (next : Int) : List Int := (List.range cnt).map fun j => next + distN z (fr + 2 * j)
def leadsI (i : Ins) : List Int := if standsI i then (if i.code = 226 then leadsN i.imm 1 ((i.imm.length - 1) / 2) i.next else if i.code = 224 ∨ i.code = 225 then leadsN i.imm 0 1 i.next else []) else []
theorem leadsN_snoc (z : List Int) (fr k : Nat) (next : Int) : leadsN z fr (k + 1) next = leadsN z fr k next ++ [next + distN z (fr + 2 * k)] := by unfold leadsN; rw [List.range_succ, List.map_append]; rfl
theorem leadsN_length (z : List Int) (fr k : Nat) (next : Int) : (leadsN z fr k next).length = k := by simp [leadsN]
theorem distN_range {z : List Int} (hz : ∀ x ∈ z, 0 ≤ x ∧ x < 256) (k : Nat) : -32768 ≤ distN z k ∧ distN z k < 32768 := by
  have hg : ∀ j, 0 ≤ z.getD j 0 ∧ z.getD j 0 < 256 := fun j => by
    rw [List.getD_eq_getElem?_getD]
    by_cases h : j < z.length
    · rw [List.getElem?_eq_getElem h]; exact hz _ (by simp)
    · rw [List.getElem?_eq_none (by omega)]; simp
  have h1 := hg k
  have h2 := hg (k + 1)
  unfold distN i16N pairN
  split <;> omega
theorem stands_bounds {i : Ins} (h : standsI i = true) : isOp i.code = true ∧ 0 ≤ i.at_ ∧ i.at_ ≤ 1048576 ∧ immL (opR i.code) i.imm = some i.imm.length ∧ i.next = i.at_ + 1 + i.imm.length := by
  unfold standsI at h
  simp only [Bool.and_eq_true, decide_eq_true_eq] at h
  obtain ⟨⟨⟨h1, h2⟩, h3⟩, h4⟩ := h
  cases hm : immL (opR i.code) i.imm with
  | none => rw [hm] at h4; cases h4
  | some n =>
    rw [hm] at h4
    simp only [Bool.and_eq_true, beq_iff_eq] at h4
    obtain ⟨h5, h6⟩ := h4
    subst h5
    exact ⟨h1, h2, h3, rfl, h6⟩
theorem stands_table {i : Ins} (h : standsI i = true) (hc : i.code = 226) : 1 ≤ i.imm.length ∧ (i.imm.length : Int) = 2 * i.imm.getD 0 0 + 3 ∨ False := by
  have h4 := (stands_bounds h).2.2.2.1
  rw [hc] at h4
  unfold immL at h4
  rw [if_pos (show (opR 226).imm = -1 from rfl)] at h4
  split at h4
  · cases h4
  · rename_i hl
    have := Option.some.inj h4
    left
    omega
theorem stands_jump {i : Ins} (h : standsI i = true) (hc : i.code = 224 ∨ i.code = 225) : i.imm.length = 2 := by
  have h4 := (stands_bounds h).2.2.2.1
  rcases hc with hc | hc
  · rw [hc] at h4
    have := Option.some.inj (show some (2 : Nat) = _ from h4)
    omega
  · rw [hc] at h4
    have := Option.some.inj (show some (2 : Nat) = _ from h4)
    omega
end Vouch
namespace Go.Proofs.YthjnjdpiihpgeaaDoor
open Go.RowKit Vouch Go.Vk Go.Sort
def intVs (zs : List Int) : List Value := zs.map (.int .i64)
def lenV' : Value → Nat
  | .slice _ n _ => n
  | _ => 0
theorem infoInt : (Tryd.prog.info? 3).map (fun i => (i.zero, i.size, i.bytes)) = some (some (.int .i64 0), 1, 8) := by kernel_rfl
set_option maxHeartbeats 400000 in
set_option maxRecDepth 100000 in
theorem leads_table (i : Ins) (X : Option Addr) (c : Nat) (w : World) (hc : IntsAt w .u8 X i.imm) (hz : ∀ z ∈ i.imm, 0 ≤ z ∧ z < 256) (hcap : i.imm.length ≤ c) (hx : (Lit.int .i64 i.next).wf = true) (hs : standsI i = true) (hcode : i.code = 226) :
    Calls Tryd.prog 28 #[insV i (.slice X i.imm.length c)] w fun e w' => ∃ v, e = .returned v ∧ w'.ownsRow w.heap.size 3 1 v (leadsI i).length (intVs (leadsI i)) ∧ Below w.heap.size w w' := by
  obtain ⟨i0, hi, hz0, hz1, hz2⟩ := info_parts infoInt
  obtain ⟨h1, hat0, hat1, _, hnx⟩ := stands_bounds hs
  have hl0 : 1 ≤ i.imm.length ∧ (i.imm.length : Int) = 2 * i.imm.getD 0 0 + 3 := (stands_table hs hcode).resolve_right id
  have hb00 := hz (i.imm.getD 0 0) (by rw [List.getD_eq_getElem?_getD, List.getElem?_eq_getElem (by omega)]; simp)
  obtain ⟨cnt, hcnt⟩ : ∃ cnt, i.imm.length = 2 * cnt + 1 := ⟨(i.imm.length - 1) / 2, by omega⟩
  have hL : leadsI i = leadsN i.imm 1 cnt i.next := by unfold leadsI; rw [if_pos hs, if_pos hcode, show (i.imm.length - 1) / 2 = cnt by omega]
  have hcnt1 : 1 ≤ cnt ∧ cnt ≤ 256 := by omega
  have HST := Lib.hid (fun w1 (hb : Below w.heap.size w w1) => stands_any i X c w1 (ints_below hb hc) hz (by omega) hx)
  rw [hs] at HST
  have HC := Lib.hid hc
  have HZ := Lib.hid hz
  have HLN := fun k => distN_range hz k
  obtain ⟨at_, code, imm, next⟩ := i
  dsimp only at *
  subst hcode
  have HOLD := Lib.hid hL
  unfold insV at HST ⊢
  dsimp only at HST ⊢
  have HD := Lib.hid HLN
  clear hc hz HLN hs hL h1
  have hb0 : Below w.heap.size w (w.alloc (.cells #[.int .i64 at_, .int .i64 226, .slice X imm.length c, .int .i64 next] 34)) := (Below.refl _ _).alloc (Nat.le_refl _) _
  obtain ⟨p0, p1, p2, p3, pz, pl⟩ := cells4 (heap_alloc_new w (.cells #[.int .i64 at_, .int .i64 226, .slice X imm.length c, .int .i64 next] 34))
  obtain ⟨y, rfl, hy0⟩ := HC.out 0 (by omega)
  have hcc : ¬ c = 1 := by omega
  have hc1 : (1 : Int) ≤ c := by omega
  have hc2 : 1 ≤ c := by omega
  have hc3 : (1 : Int) ≤ (imm.length : Int) := by omega
  have hc4 : 1 ≤ imm.length := by omega
  have HCNT := Lib.hid hcnt
  have HNX := Lib.hid hnx
  clear hcnt hnx hl0 hb00
  go_enter Tryd.func28, Tryd.ntmps28
  go_wp2_with (go_at_call 43; refine (HST.out _ hb0).mono ?_; rintro e w1 ⟨rfl, hb⟩; have hg1 := kept_new hb; obtain ⟨q0, q1, q2, q3, qz, ql⟩ := cells4 hg1; have hB1 := hb0.trans (hb.mono hb0.size))
  have hz0' : (imm.drop 1).length = 2 * cnt := by rw [List.length_drop, HCNT.out]; omega
  have hzb' : ∀ x ∈ imm.drop 1, 0 ≤ x ∧ x < 256 := fun x hx => HZ.out x (List.mem_of_mem_drop hx)
  have hI0 : IntsAt w .u8 (some ⟨y.block, y.off + 1, none⟩) (imm.drop 1) := by
    have := ints_drop HC.out 1
    rwa [show y.add 1 = ⟨y.block, y.off + 1, none⟩ by unfold Addr.add; rw [if_neg (by omega)]] at this
  have hLz : leadsN imm 1 cnt next = leadsN (imm.drop 1) 0 cnt next := by
    unfold leadsN distN pairN
    simp [List.getD_eq_getElem?_getD, Nat.add_comm]
  have HOLD := Lib.hid (HOLD.out.trans hLz)
  clear hLz
  generalize imm.drop 1 = z at hz0' hzb' hI0 HOLD
  go_loopw [3, 4] (fun vl vb wr => ∃ (k r : Nat) (Y : Option Addr) (c' : Nat), vb = .slice Y r c' ∧ r + 2 * k = 2 * cnt ∧ r ≤ c' ∧ IntsAt w .u8 Y (z.drop (2 * k)) ∧ wr.ownsRow w.heap.size 3 1 vl k (intVs (leadsN z 0 k next)) ∧ Below w.heap.size w wr ∧ wr.heap[w.heap.size]? = some (.cells #[.int .i64 at_, .int .i64 226, .slice (some y) imm.length c, .int .i64 next] 34 (0, 0))) (fun _ vb _ => lenV' vb)
  case atStart => exact ⟨0, _, _, _, rfl, by have := HCNT.out; omega, by omega, hI0, World.ownsRow_nil _ _ _ _, hB1, hg1⟩
  case round =>
    obtain ⟨k, r, Y, c', rfl, hr, hrc, hI, hown, hB, hgw⟩ := hrel
    obtain ⟨Xp, cp, rfl⟩ := owns_shape hown
    by_cases hlt : r = 0
    · subst hlt
      obtain rfl : k = cnt := by omega
      go_wp2
      go_ret
      refine ⟨_, rfl, ?_, hB⟩
      rw [HOLD.out, leadsN_length]
      exact hown
    · have hk : k < cnt := by omega
      obtain ⟨ya, rfl, hxa0⟩ := hI 0 (by rw [List.length_drop]; omega)
      obtain ⟨ya', hya, hxb0⟩ := hI 1 (by rw [List.length_drop]; omega)
      cases hya
      have hxa1 : w.cell? ya = some (.int .u8 (z.getD (2 * k) 0)) := by
        rw [show z.getD (2 * k) 0 = (z.drop (2 * k)).getD 0 0 by simp [List.getD_eq_getElem?_getD]]
        simpa [Addr.add] using hxa0
      have hxb1 : w.cell? (ya.add 1) = some (.int .u8 (z.getD (2 * k + 1) 0)) := by
        rw [show z.getD (2 * k + 1) 0 = (z.drop (2 * k)).getD 1 0 by simp [List.getD_eq_getElem?_getD]]
        exact hxb0
      clear hxa0 hxb0
      have ha := hzb' (z.getD (2 * k) 0) (by rw [List.getD_eq_getElem?_getD, List.getElem?_eq_getElem (by omega)]; simp)
      have hb' := hzb' (z.getD (2 * k + 1) 0) (by rw [List.getD_eq_getElem?_getD, List.getElem?_eq_getElem (by omega)]; simp)
      have hd : distN z (0 + 2 * k) = i16N (256 * z.getD (2 * k) 0 + z.getD (2 * k + 1) 0) := by rw [Nat.zero_add]; rfl
      have hdr := distN_range hzb' (0 + 2 * k)
      have HT := Lib.hid (leadsN_snoc z 0 k next)
      generalize distN z (0 + 2 * k) = d at hd hdr HT
      have hw1 : IntKind.i16.wrap (256 * z.getD (2 * k) 0 + z.getD (2 * k + 1) 0) = d := by rw [i16_wrap _ (by omega) (by omega), hd]
      clear hd
      generalize z.getD (2 * k) 0 = a at hxa1 ha hw1
      generalize z.getD (2 * k + 1) 0 = b at hxb1 hb' hw1
      have hnx2 : -1000000000 ≤ next + d ∧ next + d ≤ 1000000000 := by have := HNX.out; have := HCNT.out; omega
      have hw2 : IntKind.i64.wrap d = d := by rw [IntKind.wrap_i64]; omega
      have hw3 : IntKind.i64.wrap (next + d) = next + d := by rw [IntKind.wrap_i64]; omega
      have hw4 : wrap64 (next + d) = next + d := by unfold wrap64; omega
      have HP := Lib.hid (fun w4 (h4 : Below w.heap.size w w4) => pair_any a b ya r c' w4 ha hb' (cell_later h4 hxa1) (cell_later h4 hxb1) (by omega))
      have HNE := Lib.hid (show some w.heap.size ≠ (Value.slice Xp k cp).ownBlock from fun e => own_type hgw hown (by decide) _ e.symm rfl)
      have HOWN := Lib.hid hown
      have HI := Lib.hid hI
      have hrr : 0 < r := by omega
      have hri : (0 : Int) < (r : Int) := by omega
      clear hown hI hxa1 hxb1 ha hb'
      obtain ⟨r0, r1, r2, r3, rz, rl⟩ := cells4 hgw
      have hdl : wr.heap.size ≤ wr.drew.heap.size := Nat.le_refl _
      have hld : wr.drew.cell? ⟨w.heap.size, 3, none⟩ = some (.int .i64 next) := r3
      go_wp2
      go_region_held3 (fun w' => w'.cell? ⟨w.heap.size, 3, none⟩ = some (.int .i64 next)) (first | exact hld | exact cell_later hb5 hld | exact cell_later ((Below.refl _ _).alloc (Nat.le_refl _) _) (cell_later hb5 hld) | exact hS6)
        (first
          | (go_at_call 44; refine (HP.out _ hB.drew).mono ?_; rintro e w5 ⟨rfl, hb5⟩)
          | (refine step_append_lies _ rfl _ _ 53 rfl w.heap.size 3 i0 (.int .i64 0) 1 8 Tryd.underlying53 hi hz0 hz1 hz2 rfl (by decide) _ _ _ rfl ((own_below (W := wr.drew) HOWN.out hb5).alloc _) ⟨w5.heap.size, 0, none⟩ 1 1 [.int .i64 (next + d)] rfl rfl (cells_fresh w5 #[.int .i64 (next + d)] _ _ rfl) (by intro u hu; simp at hu; subst hu; rfl) (by decide) (by unfold maxLen; omega) (by omega) (by have := hB.drew.size; have := hb5.size; simp; omega) _ rfl ?_; intro g6 c6 w6 hown6 hgrow6 hat6 hlt6; have hS6 : w6.cell? ⟨w.heap.size, 3, none⟩ = some (.int .i64 next) := (hgrow6.cell_far ⟨w.heap.size, 3, none⟩ (by have := hb5.size; simp; omega) HNE.out).trans (cell_later ((Below.refl _ _).alloc (Nat.le_refl _) _) (cell_later hb5 hld))))
      have hb6 : Below w.heap.size w (w5.alloc (.cells #[.int .i64 (next + d)] 3)) := (hB.drew.trans (hb5.mono hB.drew.size)).alloc (by have := hB.drew.size; have := hb5.size; omega) _
      have hB6 := bel_own hb6 ((own_below (W := wr.drew) HOWN.out hb5).alloc _) (Nat.le_refl _) hgrow6
      have hg6 : w6.heap[w.heap.size]? = some (.cells #[.int .i64 at_, .int .i64 226, .slice (some y) imm.length c, .int .i64 next] 34 (0, 0)) := (hgrow6.block w.heap.size (by have := hb5.size; simp; omega) HNE.out).trans (kept_of ((hb5.trans ((Below.refl _ _).alloc hb5.size _))) (show wr.drew.heap[w.heap.size]? = _ from hgw))
      have hown7 : w6.ownsRow w.heap.size 3 1 (.slice (some ⟨g6, 0, none⟩) (k + 1) c6) (k + 1) (intVs (leadsN z 0 (k + 1) next)) := by rw [HT.out]; unfold intVs; rw [List.map_append]; exact hown6
      have hdd : z.drop (2 * (k + 1)) = (z.drop (2 * k)).drop 2 := by rw [List.drop_drop]; congr 1
      clear r0 r1 r2 r3 rz rl hld hS6 hrr hri hw1 hw2 hw3 hw4
      by_cases hcap : c' = 2
      · obtain rfl : r = 2 := by omega
        subst hcap
        have hnil : z.drop (2 * (k + 1)) = [] := List.drop_eq_nil_of_le (by omega)
        go_wp2
        exact ⟨⟨k + 1, _, _, _, rfl, by omega, by omega, by rw [hnil]; exact ints_nil _ _ _, hown7, hB6, hg6⟩, by simp [lenV']⟩
      · have hc'1 : (2 : Int) ≤ (c' : Int) := by omega
        have hc'2 : 2 ≤ c' := by omega
        have hr2 : (2 : Int) ≤ (r : Int) := by omega
        have hr3 : 2 ≤ r := by omega
        go_wp2
        refine ⟨⟨k + 1, _, _, _, rfl, by omega, by omega, ?_, hown7, hB6, hg6⟩, by simp [lenV']; omega⟩
        have := ints_drop HI.out 2
        rw [← hdd] at this
        rwa [show ya.add 2 = ⟨ya.block, ya.off + 2, none⟩ by unfold Addr.add; rw [if_neg (by omega)]] at this
set_option maxHeartbeats 400000 in
set_option maxRecDepth 100000 in
theorem leads_rjump (i : Ins) (X : Option Addr) (c : Nat) (w : World) (hc : IntsAt w .u8 X i.imm) (hz : ∀ z ∈ i.imm, 0 ≤ z ∧ z < 256) (hcap : i.imm.length ≤ c) (hx : (Lit.int .i64 i.next).wf = true) (hs : standsI i = true) (hcode : i.code = 224) :
    Calls Tryd.prog 28 #[insV i (.slice X i.imm.length c)] w fun e w' => ∃ v, e = .returned v ∧ w'.ownsRow w.heap.size 3 1 v (leadsI i).length (intVs (leadsI i)) ∧ Below w.heap.size w w' := by
  obtain ⟨i0, hi, hz0, hz1, hz2⟩ := info_parts infoInt
  obtain ⟨h1, hat0, hat1, _, hnx⟩ := stands_bounds hs
  have hl0 := stands_jump hs (.inl hcode)
  obtain ⟨cnt, hcnt1⟩ : ∃ cnt, cnt = 1 := ⟨1, rfl⟩
  have hcnt : i.imm.length = 2 * cnt := by omega
  have hL : leadsI i = leadsN i.imm 0 cnt i.next := by unfold leadsI; rw [if_pos hs, if_neg (by omega), if_pos (.inl hcode), hcnt1]
  have HST := Lib.hid (fun w1 (hb : Below w.heap.size w w1) => stands_any i X c w1 (ints_below hb hc) hz (by omega) hx)
  rw [hs] at HST
  have HC := Lib.hid hc
  have HZ := Lib.hid hz
  have HLN := fun k => distN_range hz k
  obtain ⟨at_, code, imm, next⟩ := i
  dsimp only at *
  subst hcode
  have HOLD := Lib.hid hL
  unfold insV at HST ⊢
  dsimp only at HST ⊢
  have HD := Lib.hid HLN
  clear hc hz HLN hs hL h1
  have hb0 : Below w.heap.size w (w.alloc (.cells #[.int .i64 at_, .int .i64 224, .slice X imm.length c, .int .i64 next] 34)) := (Below.refl _ _).alloc (Nat.le_refl _) _
  obtain ⟨p0, p1, p2, p3, pz, pl⟩ := cells4 (heap_alloc_new w (.cells #[.int .i64 at_, .int .i64 224, .slice X imm.length c, .int .i64 next] 34))
  obtain ⟨y, rfl, hy0⟩ := HC.out 0 (by omega)
  have hcc : ¬ c = 1 := by omega
  have hc1 : (1 : Int) ≤ c := by omega
  have hc2 : 1 ≤ c := by omega
  have hc3 : (1 : Int) ≤ (imm.length : Int) := by omega
  have hc4 : 1 ≤ imm.length := by omega
  have HCNT := Lib.hid hcnt
  have HNX := Lib.hid hnx
  have HCNT1 := Lib.hid hcnt1
  clear hcnt hnx hl0 hcnt1
  go_enter Tryd.func28, Tryd.ntmps28
  go_wp2_with (go_at_call 43; refine (HST.out _ hb0).mono ?_; rintro e w1 ⟨rfl, hb⟩; have hg1 := kept_new hb; obtain ⟨q0, q1, q2, q3, qz, ql⟩ := cells4 hg1; have hB1 := hb0.trans (hb.mono hb0.size))
  have hz0' : imm.length = 2 * cnt := HCNT.out
  have hzb' : ∀ x ∈ imm, 0 ≤ x ∧ x < 256 := HZ.out
  have hI0 : IntsAt w .u8 (some y) imm := HC.out
  obtain ⟨z, hzz⟩ : ∃ z, z = imm := ⟨imm, rfl⟩
  have HZL := Lib.hid (show imm.length = 2 * cnt from hz0')
  rw [← hzz] at hz0' hzb' hI0
  have HOLD := Lib.hid (show leadsI ⟨at_, 224, imm, next⟩ = leadsN z 0 cnt next by rw [hzz]; exact HOLD.out)
  have HZ0 := Lib.hid hz0'
  clear hzz hz0'
  go_loopw [3, 4] (fun vl vb wr => ∃ (k r : Nat) (Y : Option Addr) (c' : Nat), vb = .slice Y r c' ∧ r + 2 * k = 2 * cnt ∧ r ≤ c' ∧ IntsAt w .u8 Y (z.drop (2 * k)) ∧ wr.ownsRow w.heap.size 3 1 vl k (intVs (leadsN z 0 k next)) ∧ Below w.heap.size w wr ∧ wr.heap[w.heap.size]? = some (.cells #[.int .i64 at_, .int .i64 224, .slice (some y) imm.length c, .int .i64 next] 34 (0, 0))) (fun _ vb _ => lenV' vb)
  case atStart => exact ⟨0, _, _, _, rfl, by have := HCNT.out; omega, by omega, hI0, World.ownsRow_nil _ _ _ _, hB1, hg1⟩
  case round =>
    obtain ⟨k, r, Y, c', rfl, hr, hrc, hI, hown, hB, hgw⟩ := hrel
    obtain ⟨Xp, cp, rfl⟩ := owns_shape hown
    by_cases hlt : r = 0
    · subst hlt
      obtain rfl : k = cnt := by omega
      go_wp2
      go_ret
      refine ⟨_, rfl, ?_, hB⟩
      rw [HOLD.out, leadsN_length]
      exact hown
    · have hk : k < cnt := by omega
      obtain ⟨ya, rfl, hxa0⟩ := hI 0 (by rw [List.length_drop, HZ0.out]; omega)
      obtain ⟨ya', hya, hxb0⟩ := hI 1 (by rw [List.length_drop, HZ0.out]; omega)
      cases hya
      have hxa1 : w.cell? ya = some (.int .u8 (z.getD (2 * k) 0)) := by
        rw [show z.getD (2 * k) 0 = (z.drop (2 * k)).getD 0 0 by simp [List.getD_eq_getElem?_getD]]
        simpa [Addr.add] using hxa0
      have hxb1 : w.cell? (ya.add 1) = some (.int .u8 (z.getD (2 * k + 1) 0)) := by
        rw [show z.getD (2 * k + 1) 0 = (z.drop (2 * k)).getD 1 0 by simp [List.getD_eq_getElem?_getD]]
        exact hxb0
      clear hxa0 hxb0
      have ha := hzb' (z.getD (2 * k) 0) (by rw [List.getD_eq_getElem?_getD, List.getElem?_eq_getElem (by have := HZ0.out; omega)]; simp)
      have hb' := hzb' (z.getD (2 * k + 1) 0) (by rw [List.getD_eq_getElem?_getD, List.getElem?_eq_getElem (by have := HZ0.out; omega)]; simp)
      have hd : distN z (0 + 2 * k) = i16N (256 * z.getD (2 * k) 0 + z.getD (2 * k + 1) 0) := by rw [Nat.zero_add]; rfl
      have hdr := distN_range hzb' (0 + 2 * k)
      have HT := Lib.hid (leadsN_snoc z 0 k next)
      generalize distN z (0 + 2 * k) = d at hd hdr HT
      have hw1 : IntKind.i16.wrap (256 * z.getD (2 * k) 0 + z.getD (2 * k + 1) 0) = d := by rw [i16_wrap _ (by omega) (by omega), hd]
      clear hd
      generalize z.getD (2 * k) 0 = a at hxa1 ha hw1
      generalize z.getD (2 * k + 1) 0 = b at hxb1 hb' hw1
      have hnx2 : -1000000000 ≤ next + d ∧ next + d ≤ 1000000000 := by have := HNX.out; have := HCNT.out; have := HCNT1.out; omega
      have hw2 : IntKind.i64.wrap d = d := by rw [IntKind.wrap_i64]; omega
      have hw3 : IntKind.i64.wrap (next + d) = next + d := by rw [IntKind.wrap_i64]; omega
      have hw4 : wrap64 (next + d) = next + d := by unfold wrap64; omega
      have HP := Lib.hid (fun w4 (h4 : Below w.heap.size w w4) => pair_any a b ya r c' w4 ha hb' (cell_later h4 hxa1) (cell_later h4 hxb1) (by omega))
      have HNE := Lib.hid (show some w.heap.size ≠ (Value.slice Xp k cp).ownBlock from fun e => own_type hgw hown (by decide) _ e.symm rfl)
      have HOWN := Lib.hid hown
      have HI := Lib.hid hI
      have hrr : 0 < r := by omega
      have hri : (0 : Int) < (r : Int) := by omega
      clear hown hI hxa1 hxb1 ha hb'
      obtain ⟨r0, r1, r2, r3, rz, rl⟩ := cells4 hgw
      have hdl : wr.heap.size ≤ wr.drew.heap.size := Nat.le_refl _
      have hld : wr.drew.cell? ⟨w.heap.size, 3, none⟩ = some (.int .i64 next) := r3
      go_wp2
      go_region_held3 (fun w' => w'.cell? ⟨w.heap.size, 3, none⟩ = some (.int .i64 next)) (first | exact hld | exact cell_later hb5 hld | exact cell_later ((Below.refl _ _).alloc (Nat.le_refl _) _) (cell_later hb5 hld) | exact hS6)
        (first
          | (go_at_call 44; refine (HP.out _ hB.drew).mono ?_; rintro e w5 ⟨rfl, hb5⟩)
          | (refine step_append_lies _ rfl _ _ 53 rfl w.heap.size 3 i0 (.int .i64 0) 1 8 Tryd.underlying53 hi hz0 hz1 hz2 rfl (by decide) _ _ _ rfl ((own_below (W := wr.drew) HOWN.out hb5).alloc _) ⟨w5.heap.size, 0, none⟩ 1 1 [.int .i64 (next + d)] rfl rfl (cells_fresh w5 #[.int .i64 (next + d)] _ _ rfl) (by intro u hu; simp at hu; subst hu; rfl) (by decide) (by have := HCNT1.out; unfold maxLen; omega) (by have := HCNT1.out; omega) (by have := hB.drew.size; have := hb5.size; simp; omega) _ rfl ?_; intro g6 c6 w6 hown6 hgrow6 hat6 hlt6; have hS6 : w6.cell? ⟨w.heap.size, 3, none⟩ = some (.int .i64 next) := (hgrow6.cell_far ⟨w.heap.size, 3, none⟩ (by have := hb5.size; simp; omega) HNE.out).trans (cell_later ((Below.refl _ _).alloc (Nat.le_refl _) _) (cell_later hb5 hld))))
      have hb6 : Below w.heap.size w (w5.alloc (.cells #[.int .i64 (next + d)] 3)) := (hB.drew.trans (hb5.mono hB.drew.size)).alloc (by have := hB.drew.size; have := hb5.size; omega) _
      have hB6 := bel_own hb6 ((own_below (W := wr.drew) HOWN.out hb5).alloc _) (Nat.le_refl _) hgrow6
      have hg6 : w6.heap[w.heap.size]? = some (.cells #[.int .i64 at_, .int .i64 224, .slice (some y) imm.length c, .int .i64 next] 34 (0, 0)) := (hgrow6.block w.heap.size (by have := hb5.size; simp; omega) HNE.out).trans (kept_of ((hb5.trans ((Below.refl _ _).alloc hb5.size _))) (show wr.drew.heap[w.heap.size]? = _ from hgw))
      have hown7 : w6.ownsRow w.heap.size 3 1 (.slice (some ⟨g6, 0, none⟩) (k + 1) c6) (k + 1) (intVs (leadsN z 0 (k + 1) next)) := by rw [HT.out]; unfold intVs; rw [List.map_append]; exact hown6
      have hdd : z.drop (2 * (k + 1)) = (z.drop (2 * k)).drop 2 := by rw [List.drop_drop]; congr 1
      clear r0 r1 r2 r3 rz rl hld hS6 hrr hri hw1 hw2 hw3 hw4
      by_cases hcap : c' = 2
      · obtain rfl : r = 2 := by omega
        subst hcap
        have hnil : z.drop (2 * (k + 1)) = [] := List.drop_eq_nil_of_le (by have := HZ0.out; omega)
        go_wp2
        exact ⟨⟨k + 1, _, _, _, rfl, by omega, by omega, by rw [hnil]; exact ints_nil _ _ _, hown7, hB6, hg6⟩, by simp [lenV']⟩
      · have hc'1 : (2 : Int) ≤ (c' : Int) := by omega
        have hc'2 : 2 ≤ c' := by omega
        have hr2 : (2 : Int) ≤ (r : Int) := by omega
        have hr3 : 2 ≤ r := by omega
        go_wp2
        refine ⟨⟨k + 1, _, _, _, rfl, by omega, by omega, ?_, hown7, hB6, hg6⟩, by simp [lenV']; omega⟩
        have := ints_drop HI.out 2
        rw [← hdd] at this
        rwa [show ya.add 2 = ⟨ya.block, ya.off + 2, none⟩ by unfold Addr.add; rw [if_neg (by omega)]] at this
set_option maxHeartbeats 400000 in
set_option maxRecDepth 100000 in
theorem leads_rjumpi (i : Ins) (X : Option Addr) (c : Nat) (w : World) (hc : IntsAt w .u8 X i.imm) (hz : ∀ z ∈ i.imm, 0 ≤ z ∧ z < 256) (hcap : i.imm.length ≤ c) (hx : (Lit.int .i64 i.next).wf = true) (hs : standsI i = true) (hcode : i.code = 225) :
    Calls Tryd.prog 28 #[insV i (.slice X i.imm.length c)] w fun e w' => ∃ v, e = .returned v ∧ w'.ownsRow w.heap.size 3 1 v (leadsI i).length (intVs (leadsI i)) ∧ Below w.heap.size w w' := by
  obtain ⟨i0, hi, hz0, hz1, hz2⟩ := info_parts infoInt
  obtain ⟨h1, hat0, hat1, _, hnx⟩ := stands_bounds hs
  have hl0 := stands_jump hs (.inr hcode)
  obtain ⟨cnt, hcnt1⟩ : ∃ cnt, cnt = 1 := ⟨1, rfl⟩
  have hcnt : i.imm.length = 2 * cnt := by omega
  have hL : leadsI i = leadsN i.imm 0 cnt i.next := by unfold leadsI; rw [if_pos hs, if_neg (by omega), if_pos (.inr hcode), hcnt1]
  have HST := Lib.hid (fun w1 (hb : Below w.heap.size w w1) => stands_any i X c w1 (ints_below hb hc) hz (by omega) hx)
  rw [hs] at HST
  have HC := Lib.hid hc
  have HZ := Lib.hid hz
  have HLN := fun k => distN_range hz k
  obtain ⟨at_, code, imm, next⟩ := i
  dsimp only at *
  subst hcode
  have HOLD := Lib.hid hL
  unfold insV at HST ⊢
  dsimp only at HST ⊢
  have HD := Lib.hid HLN
  clear hc hz HLN hs hL h1
  have hb0 : Below w.heap.size w (w.alloc (.cells #[.int .i64 at_, .int .i64 225, .slice X imm.length c, .int .i64 next] 34)) := (Below.refl _ _).alloc (Nat.le_refl _) _
  obtain ⟨p0, p1, p2, p3, pz, pl⟩ := cells4 (heap_alloc_new w (.cells #[.int .i64 at_, .int .i64 225, .slice X imm.length c, .int .i64 next] 34))
  obtain ⟨y, rfl, hy0⟩ := HC.out 0 (by omega)
  have hcc : ¬ c = 1 := by omega
  have hc1 : (1 : Int) ≤ c := by omega
  have hc2 : 1 ≤ c := by omega
  have hc3 : (1 : Int) ≤ (imm.length : Int) := by omega
  have hc4 : 1 ≤ imm.length := by omega
  have HCNT := Lib.hid hcnt
  have HNX := Lib.hid hnx
  have HCNT1 := Lib.hid hcnt1
  clear hcnt hnx hl0 hcnt1
  go_enter Tryd.func28, Tryd.ntmps28
  go_wp2_with (go_at_call 43; refine (HST.out _ hb0).mono ?_; rintro e w1 ⟨rfl, hb⟩; have hg1 := kept_new hb; obtain ⟨q0, q1, q2, q3, qz, ql⟩ := cells4 hg1; have hB1 := hb0.trans (hb.mono hb0.size))
  have hz0' : imm.length = 2 * cnt := HCNT.out
  have hzb' : ∀ x ∈ imm, 0 ≤ x ∧ x < 256 := HZ.out
  have hI0 : IntsAt w .u8 (some y) imm := HC.out
  obtain ⟨z, hzz⟩ : ∃ z, z = imm := ⟨imm, rfl⟩
  have HZL := Lib.hid (show imm.length = 2 * cnt from hz0')
  rw [← hzz] at hz0' hzb' hI0
  have HOLD := Lib.hid (show leadsI ⟨at_, 225, imm, next⟩ = leadsN z 0 cnt next by rw [hzz]; exact HOLD.out)
  have HZ0 := Lib.hid hz0'
  clear hzz hz0'
  go_loopw [3, 4] (fun vl vb wr => ∃ (k r : Nat) (Y : Option Addr) (c' : Nat), vb = .slice Y r c' ∧ r + 2 * k = 2 * cnt ∧ r ≤ c' ∧ IntsAt w .u8 Y (z.drop (2 * k)) ∧ wr.ownsRow w.heap.size 3 1 vl k (intVs (leadsN z 0 k next)) ∧ Below w.heap.size w wr ∧ wr.heap[w.heap.size]? = some (.cells #[.int .i64 at_, .int .i64 225, .slice (some y) imm.length c, .int .i64 next] 34 (0, 0))) (fun _ vb _ => lenV' vb)
  case atStart => exact ⟨0, _, _, _, rfl, by have := HCNT.out; omega, by omega, hI0, World.ownsRow_nil _ _ _ _, hB1, hg1⟩
  case round =>
    obtain ⟨k, r, Y, c', rfl, hr, hrc, hI, hown, hB, hgw⟩ := hrel
    obtain ⟨Xp, cp, rfl⟩ := owns_shape hown
    by_cases hlt : r = 0
    · subst hlt
      obtain rfl : k = cnt := by omega
      go_wp2
      go_ret
      refine ⟨_, rfl, ?_, hB⟩
      rw [HOLD.out, leadsN_length]
      exact hown
    · have hk : k < cnt := by omega
      obtain ⟨ya, rfl, hxa0⟩ := hI 0 (by rw [List.length_drop, HZ0.out]; omega)
      obtain ⟨ya', hya, hxb0⟩ := hI 1 (by rw [List.length_drop, HZ0.out]; omega)
      cases hya
      have hxa1 : w.cell? ya = some (.int .u8 (z.getD (2 * k) 0)) := by
        rw [show z.getD (2 * k) 0 = (z.drop (2 * k)).getD 0 0 by simp [List.getD_eq_getElem?_getD]]
        simpa [Addr.add] using hxa0
      have hxb1 : w.cell? (ya.add 1) = some (.int .u8 (z.getD (2 * k + 1) 0)) := by
        rw [show z.getD (2 * k + 1) 0 = (z.drop (2 * k)).getD 1 0 by simp [List.getD_eq_getElem?_getD]]
        exact hxb0
      clear hxa0 hxb0
      have ha := hzb' (z.getD (2 * k) 0) (by rw [List.getD_eq_getElem?_getD, List.getElem?_eq_getElem (by have := HZ0.out; omega)]; simp)
      have hb' := hzb' (z.getD (2 * k + 1) 0) (by rw [List.getD_eq_getElem?_getD, List.getElem?_eq_getElem (by have := HZ0.out; omega)]; simp)
      have hd : distN z (0 + 2 * k) = i16N (256 * z.getD (2 * k) 0 + z.getD (2 * k + 1) 0) := by rw [Nat.zero_add]; rfl
      have hdr := distN_range hzb' (0 + 2 * k)
      have HT := Lib.hid (leadsN_snoc z 0 k next)
      generalize distN z (0 + 2 * k) = d at hd hdr HT
      have hw1 : IntKind.i16.wrap (256 * z.getD (2 * k) 0 + z.getD (2 * k + 1) 0) = d := by rw [i16_wrap _ (by omega) (by omega), hd]
      clear hd
      generalize z.getD (2 * k) 0 = a at hxa1 ha hw1
      generalize z.getD (2 * k + 1) 0 = b at hxb1 hb' hw1
      have hnx2 : -1000000000 ≤ next + d ∧ next + d ≤ 1000000000 := by have := HNX.out; have := HCNT.out; have := HCNT1.out; omega
      have hw2 : IntKind.i64.wrap d = d := by rw [IntKind.wrap_i64]; omega
      have hw3 : IntKind.i64.wrap (next + d) = next + d := by rw [IntKind.wrap_i64]; omega
      have hw4 : wrap64 (next + d) = next + d := by unfold wrap64; omega
      have HP := Lib.hid (fun w4 (h4 : Below w.heap.size w w4) => pair_any a b ya r c' w4 ha hb' (cell_later h4 hxa1) (cell_later h4 hxb1) (by omega))
      have HNE := Lib.hid (show some w.heap.size ≠ (Value.slice Xp k cp).ownBlock from fun e => own_type hgw hown (by decide) _ e.symm rfl)
      have HOWN := Lib.hid hown
      have HI := Lib.hid hI
      have hrr : 0 < r := by omega
      have hri : (0 : Int) < (r : Int) := by omega
      clear hown hI hxa1 hxb1 ha hb'
      obtain ⟨r0, r1, r2, r3, rz, rl⟩ := cells4 hgw
      have hdl : wr.heap.size ≤ wr.drew.heap.size := Nat.le_refl _
      have hld : wr.drew.cell? ⟨w.heap.size, 3, none⟩ = some (.int .i64 next) := r3
      go_wp2
      go_region_held3 (fun w' => w'.cell? ⟨w.heap.size, 3, none⟩ = some (.int .i64 next)) (first | exact hld | exact cell_later hb5 hld | exact cell_later ((Below.refl _ _).alloc (Nat.le_refl _) _) (cell_later hb5 hld) | exact hS6)
        (first
          | (go_at_call 44; refine (HP.out _ hB.drew).mono ?_; rintro e w5 ⟨rfl, hb5⟩)
          | (refine step_append_lies _ rfl _ _ 53 rfl w.heap.size 3 i0 (.int .i64 0) 1 8 Tryd.underlying53 hi hz0 hz1 hz2 rfl (by decide) _ _ _ rfl ((own_below (W := wr.drew) HOWN.out hb5).alloc _) ⟨w5.heap.size, 0, none⟩ 1 1 [.int .i64 (next + d)] rfl rfl (cells_fresh w5 #[.int .i64 (next + d)] _ _ rfl) (by intro u hu; simp at hu; subst hu; rfl) (by decide) (by have := HCNT1.out; unfold maxLen; omega) (by have := HCNT1.out; omega) (by have := hB.drew.size; have := hb5.size; simp; omega) _ rfl ?_; intro g6 c6 w6 hown6 hgrow6 hat6 hlt6; have hS6 : w6.cell? ⟨w.heap.size, 3, none⟩ = some (.int .i64 next) := (hgrow6.cell_far ⟨w.heap.size, 3, none⟩ (by have := hb5.size; simp; omega) HNE.out).trans (cell_later ((Below.refl _ _).alloc (Nat.le_refl _) _) (cell_later hb5 hld))))
      have hb6 : Below w.heap.size w (w5.alloc (.cells #[.int .i64 (next + d)] 3)) := (hB.drew.trans (hb5.mono hB.drew.size)).alloc (by have := hB.drew.size; have := hb5.size; omega) _
      have hB6 := bel_own hb6 ((own_below (W := wr.drew) HOWN.out hb5).alloc _) (Nat.le_refl _) hgrow6
      have hg6 : w6.heap[w.heap.size]? = some (.cells #[.int .i64 at_, .int .i64 225, .slice (some y) imm.length c, .int .i64 next] 34 (0, 0)) := (hgrow6.block w.heap.size (by have := hb5.size; simp; omega) HNE.out).trans (kept_of ((hb5.trans ((Below.refl _ _).alloc hb5.size _))) (show wr.drew.heap[w.heap.size]? = _ from hgw))
      have hown7 : w6.ownsRow w.heap.size 3 1 (.slice (some ⟨g6, 0, none⟩) (k + 1) c6) (k + 1) (intVs (leadsN z 0 (k + 1) next)) := by rw [HT.out]; unfold intVs; rw [List.map_append]; exact hown6
      have hdd : z.drop (2 * (k + 1)) = (z.drop (2 * k)).drop 2 := by rw [List.drop_drop]; congr 1
      clear r0 r1 r2 r3 rz rl hld hS6 hrr hri hw1 hw2 hw3 hw4
      by_cases hcap : c' = 2
      · obtain rfl : r = 2 := by omega
        subst hcap
        have hnil : z.drop (2 * (k + 1)) = [] := List.drop_eq_nil_of_le (by have := HZ0.out; omega)
        go_wp2
        exact ⟨⟨k + 1, _, _, _, rfl, by omega, by omega, by rw [hnil]; exact ints_nil _ _ _, hown7, hB6, hg6⟩, by simp [lenV']⟩
      · have hc'1 : (2 : Int) ≤ (c' : Int) := by omega
        have hc'2 : 2 ≤ c' := by omega
        have hr2 : (2 : Int) ≤ (r : Int) := by omega
        have hr3 : 2 ≤ r := by omega
        go_wp2
        refine ⟨⟨k + 1, _, _, _, rfl, by omega, by omega, ?_, hown7, hB6, hg6⟩, by simp [lenV']; omega⟩
        have := ints_drop HI.out 2
        rw [← hdd] at this
        rwa [show ya.add 2 = ⟨ya.block, ya.off + 2, none⟩ by unfold Addr.add; rw [if_neg (by omega)]] at this
set_option maxHeartbeats 400000 in
set_option maxRecDepth 100000 in
theorem leads_none (i : Ins) (X : Option Addr) (c : Nat) (w : World) (hc : IntsAt w .u8 X i.imm) (hz : ∀ z ∈ i.imm, 0 ≤ z ∧ z < 256) (hn : i.imm.length ≤ 140737488355328) (hx : (Lit.int .i64 i.next).wf = true) (hs : standsI i = false ∨ (i.code ≠ 224 ∧ i.code ≠ 225 ∧ i.code ≠ 226)) :
    Calls Tryd.prog 28 #[insV i (.slice X i.imm.length c)] w fun e w' => ∃ v, e = .returned v ∧ w'.ownsRow w.heap.size 3 1 v (leadsI i).length (intVs (leadsI i)) ∧ Below w.heap.size w w' := by
  have hL : leadsI i = [] := by
    unfold leadsI
    rcases hs with h | ⟨h1, h2, h3⟩
    · rw [h]; rfl
    · rw [if_neg h3, if_neg (show ¬(i.code = 224 ∨ i.code = 225) by omega)]; split <;> rfl
  rw [hL]
  have HST := Lib.hid (fun w1 (hb : Below w.heap.size w w1) => stands_any i X c w1 (ints_below hb hc) hz hn hx)
  clear hc hz hL
  obtain ⟨at_, code, imm, next⟩ := i
  unfold insV at HST ⊢
  dsimp only at HST hs ⊢
  have hb0 : Below w.heap.size w (w.alloc (.cells #[.int .i64 at_, .int .i64 code, .slice X imm.length c, .int .i64 next] 34)) := (Below.refl _ _).alloc (Nat.le_refl _) _
  obtain ⟨p0, p1, p2, p3, pz, pl⟩ := cells4 (heap_alloc_new w (.cells #[.int .i64 at_, .int .i64 code, .slice X imm.length c, .int .i64 next] 34))
  rcases hs with h | ⟨h1, h2, h3⟩
  · rw [h] at HST
    go_enter Tryd.func28, Tryd.ntmps28
    go_wp2_with (go_at_call 43; refine (HST.out _ hb0).mono ?_; rintro e w1 ⟨rfl, hb⟩)
    go_ret
    exact ⟨_, rfl, World.ownsRow_nil _ _ _ _, hb0.trans (hb.mono hb0.size)⟩
  · cases hs : standsI ⟨at_, code, imm, next⟩ with
    | false =>
      rw [hs] at HST
      clear hs
      go_enter Tryd.func28, Tryd.ntmps28
      go_wp2_with (go_at_call 43; refine (HST.out _ hb0).mono ?_; rintro e w1 ⟨rfl, hb⟩)
      go_ret
      exact ⟨_, rfl, World.ownsRow_nil _ _ _ _, hb0.trans (hb.mono hb0.size)⟩
    | true =>
      rw [hs] at HST
      clear hs
      have e1 : (code == 224) = false := by rw [beq_eq_false_iff_ne]; exact h1
      have e2 : (code == 225) = false := by rw [beq_eq_false_iff_ne]; exact h2
      have e3 : (code == 226) = false := by rw [beq_eq_false_iff_ne]; exact h3
      go_enter Tryd.func28, Tryd.ntmps28
      go_wp2_with (go_at_call 43; refine (HST.out _ hb0).mono ?_; rintro e w1 ⟨rfl, hb⟩; have hg1 := kept_new hb; obtain ⟨q0, q1, q2, q3, qz, ql⟩ := cells4 hg1)
      go_ret
      exact ⟨_, rfl, World.ownsRow_nil _ _ _ _, hb0.trans (hb.mono hb0.size)⟩
/-- Where an instruction's jumps lead, of whatever instruction. -/
theorem leads_any (i : Ins) (X : Option Addr) (c : Nat) (w : World) (hc : IntsAt w .u8 X i.imm) (hz : ∀ z ∈ i.imm, 0 ≤ z ∧ z < 256) (hn : i.imm.length ≤ 140737488355328) (hcap : i.imm.length ≤ c) (hx : (Lit.int .i64 i.next).wf = true) :
    Calls Tryd.prog 28 #[insV i (.slice X i.imm.length c)] w fun e w' => ∃ v, e = .returned v ∧ w'.ownsRow w.heap.size 3 1 v (leadsI i).length (intVs (leadsI i)) ∧ Below w.heap.size w w' := by
  by_cases hs : standsI i = true
  · by_cases h6 : i.code = 226
    · exact leads_table i X c w hc hz hcap hx hs h6
    by_cases h4 : i.code = 224
    · exact leads_rjump i X c w hc hz hcap hx hs h4
    by_cases h5 : i.code = 225
    · exact leads_rjumpi i X c w hc hz hcap hx hs h5
    exact leads_none i X c w hc hz hn hx (.inr ⟨h4, h5, h6⟩)
  · exact leads_none i X c w hc hz hn hx (.inl (by simpa using hs))
end Go.Proofs.YthjnjdpiihpgeaaDoor
