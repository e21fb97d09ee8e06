/- vouchref6.Leads: where an instruction's jumps lead, the document's answer. -/
import Derived.Test.YthjnjdpiihpgeaaDoorLeads6
import Derived.Deep.DeepCutAuto
namespace Vouch
/-- Where a standing instruction's jumps lie in its immediate bytes. -/
theorem leads_form {i : Ins} (hz : ∀ z ∈ i.imm, 0 ≤ z ∧ z < 256) (hs : standsI i = true) : ∃ fr cnt, leadsI i = leadsN i.imm fr cnt i.next ∧ cnt ≤ 256 ∧ fr + 2 * cnt ≤ i.imm.length ∧ (cnt = 0 ∨ (i.imm.length ≤ 600 ∧ -1000000 ≤ i.next ∧ i.next ≤ 2000000)) ∧
    ((i.code = 226 ∧ fr = 1 ∧ fr + 2 * cnt = i.imm.length) ∨ ((i.code = 224 ∨ i.code = 225) ∧ fr = 0 ∧ cnt = 1) ∨ (i.code ≠ 224 ∧ i.code ≠ 225 ∧ i.code ≠ 226 ∧ fr = 0 ∧ cnt = 0)) := by
  obtain ⟨h1, hat0, hat1, him, hnx⟩ := stands_bounds hs
  by_cases h6 : i.code = 226
  · have hl0 := (stands_table hs h6).resolve_right id
    have hb00 := hz (i.imm.getD 0 0) (by rw [List.getD_eq_getElem?_getD, List.getElem?_eq_getElem (by omega)]; simp)
    refine ⟨1, (i.imm.length - 1) / 2, by unfold leadsI; rw [if_pos hs, if_pos h6], by omega, by omega, .inr ⟨by omega, by omega, by omega⟩, .inl ⟨h6, rfl, by omega⟩⟩
  · by_cases h4 : i.code = 224 ∨ i.code = 225
    · have hl0 := stands_jump hs h4
      exact ⟨0, 1, by unfold leadsI; rw [if_pos hs, if_neg h6, if_pos h4], by omega, by omega, .inr ⟨by omega, by omega, by omega⟩, .inr (.inl ⟨h4, rfl, rfl⟩)⟩
    · refine ⟨0, 0, ?_, by omega, by omega, .inl rfl, .inr (.inr ⟨fun h => h4 (.inl h), fun h => h4 (.inr h), h6, rfl, rfl⟩)⟩
      unfold leadsI
      rw [if_pos hs, if_neg h6, if_neg h4]
      rfl
end Vouch
namespace Go.Proofs.YthjnjdpiihpgeaaDoor
open Go.RowKit Vouch Go.Vk Go.Sort
set_option maxHeartbeats 400000 in
set_option maxRecDepth 100000 in
theorem rleads_any (i : Ins) (X : Option Addr) (c : Nat) (w : World) (hc : IntsAt w .u8 X i.imm) (hz : ∀ z ∈ i.imm, 0 ≤ z ∧ z < 256) (hn : i.imm.length ≤ 140737488355328) (hx : (Lit.int .i64 i.next).wf = true) :
    Calls Tryd.prog 29 #[insV i (.slice X i.imm.length c)] w fun e w' => ∃ v, e = .returned v ∧ w'.ownsRow w.heap.size 3 1 v (leadsI i).length (intVs (leadsI i)) ∧ Below w.heap.size w w' := by
  obtain ⟨i0, hi, hz0, hz1, hz2⟩ := info_parts infoInt
  have HST := Lib.hid (fun w1 (hb : Below w.heap.size w w1) => rstands_any i X c w1 (ints_below hb hc) hz hn hx)
  have HC := Lib.hid hc
  have HZ := Lib.hid hz
  cases hs : standsI i with
  | false =>
    have hL : leadsI i = [] := by unfold leadsI; rw [hs]; rfl
    rw [hL]
    rw [hs] at HST
    clear hc hz hL hs
    obtain ⟨at_, code, imm, next⟩ := i
    unfold insV at HST ⊢
    dsimp only at *
    have hb0 : Below w.heap.size w (w.alloc (.cells #[.int .i64 at_, .int .i64 code, .slice X imm.length c, .int .i64 next] 34)) := (Below.refl _ _).alloc (Nat.le_refl _) _
    obtain ⟨p0, p1, p2, p3, pz, pl⟩ := cells4 (heap_alloc_new w (.cells #[.int .i64 at_, .int .i64 code, .slice X imm.length c, .int .i64 next] 34))
    go_enter Tryd.func29, Tryd.ntmps29
    go_wp2_with (go_at_call 45; refine (HST.out _ hb0).mono ?_; rintro e w1 ⟨rfl, hb⟩)
    go_ret
    exact ⟨_, rfl, World.ownsRow_nil _ _ _ _, hb0.trans (hb.mono hb0.size)⟩
  | true =>
    obtain ⟨fr, cnt, hL, hcnt, hfc, hlen, hcode⟩ := leads_form hz hs
    rw [hs] at HST
    have HLN := Lib.hid (fun k => distN_range hz k)
    have HOLD := Lib.hid hL
    clear hc hz hL hs
    obtain ⟨at_, code, imm, next⟩ := i
    unfold insV at HST ⊢
    dsimp only at *
    have hb0 : Below w.heap.size w (w.alloc (.cells #[.int .i64 at_, .int .i64 code, .slice X imm.length c, .int .i64 next] 34)) := (Below.refl _ _).alloc (Nat.le_refl _) _
    obtain ⟨p0, p1, p2, p3, pz, pl⟩ := cells4 (heap_alloc_new w (.cells #[.int .i64 at_, .int .i64 code, .slice X imm.length c, .int .i64 next] 34))
    go_enter Tryd.func29, Tryd.ntmps29
    obtain ⟨b4, hb4⟩ : ∃ b4, b4 = decide (code = 224 ∨ code = 225) := ⟨_, rfl⟩
    obtain ⟨b6, hb6⟩ : ∃ b6, b6 = decide (code = 226) := ⟨_, rfl⟩
    obtain ⟨tq, htq⟩ : ∃ tq : Nat, tq = fr + 2 * cnt := ⟨_, rfl⟩
    have HTQ := Lib.hid htq
    obtain ⟨t6, ht6⟩ : ∃ t6 : Int, t6 = if b4 then 2 else 0 := ⟨_, rfl⟩
    have HT6 := Lib.hid ht6
    have HB4 := Lib.hid hb4
    have HB6 := Lib.hid hb6
    have HCO := Lib.hid hcode
    clear hb4 hb6 hcode ht6 htq
    go_upto_region 7 with (go_at_call 45; refine (HST.out _ hb0).mono ?_; rintro e w1 ⟨rfl, hb⟩; have hg1 := kept_new hb; obtain ⟨q0, q1, q2, q3, qz, ql⟩ := cells4 hg1; have hB1 := hb0.trans (hb.mono hb0.size))
    go_cut [20] (fun s20 wx => s20 = .bool b4 ∧ wx = w1)
    case first =>
      rcases HCO.out with ⟨rfl, h⟩ | ⟨rfl | rfl, h⟩ | ⟨h1, h2, h3, h⟩
      · go_wp2_with fail
        go_meet
        exact ⟨by rw [HB4.out]; rfl, rfl⟩
      · go_wp2_with fail
        go_meet
        exact ⟨by rw [HB4.out]; rfl, rfl⟩
      · go_wp2_with fail
        go_meet
        exact ⟨by rw [HB4.out]; rfl, rfl⟩
      · go_wp2_with fail
        go_meet
        exact ⟨by rw [HB4.out, decide_eq_false (by omega)]; simp [h1, h2], rfl⟩
    case rest =>
      obtain ⟨rfl, rfl⟩ := hcut
      go_upto_if 20 with fail
      go_cut [6] (fun s6 wx => s6 = .int .i64 t6 ∧ wx = wc)
      case first =>
        cases b4 <;> (go_wp2_with fail; go_meet; exact ⟨by rw [HT6.out]; rfl, rfl⟩)
      case rest =>
        obtain ⟨rfl, hw⟩ := hcut
        subst hw
        go_upto_region 9 with fail
        go_cut [23] (fun s23 wx => s23 = .bool b6 ∧ wx = wc)
        case first =>
          rcases HCO.out with ⟨rfl, h⟩ | ⟨rfl | rfl, h⟩ | ⟨h1, h2, h3, h⟩
          · go_wp2_with fail
            go_meet
            exact ⟨by rw [HB6.out]; rfl, rfl⟩
          · go_wp2_with fail
            go_meet
            exact ⟨by rw [HB6.out]; rfl, rfl⟩
          · go_wp2_with fail
            go_meet
            exact ⟨by rw [HB6.out]; rfl, rfl⟩
          · go_wp2_with fail
            go_meet
            exact ⟨by rw [HB6.out, decide_eq_false (by omega)]; simp [h3], rfl⟩
        case rest =>
          obtain ⟨rfl, hw⟩ := hcut
          subst hw
          go_upto_if 23 with fail
          go_cut [5, 6] (fun s5 s6 wx => s5 = .int .i64 (fr : Int) ∧ s6 = .int .i64 (tq : Int) ∧ wx = wc)
          case first =>
            rcases HCO.out with ⟨rfl, rfl, h⟩ | ⟨h0, rfl, rfl⟩ | ⟨h1, h2, h3, rfl, rfl⟩
            · have h1 : b6 = true := by rw [HB6.out]; rfl
              subst h1
              go_wp2_with fail
              go_meet
              exact ⟨rfl, by rw [HTQ.out, h], rfl⟩
            · have h1 : b6 = false := by rw [HB6.out]; exact decide_eq_false (by omega)
              have h2 : b4 = true := by rw [HB4.out]; exact decide_eq_true h0
              subst h1 h2
              go_wp2_with fail
              go_meet
              exact ⟨rfl, by rw [HT6.out, HTQ.out]; rfl, rfl⟩
            · have h4 : b6 = false := by rw [HB6.out]; exact decide_eq_false h3
              have h5 : b4 = false := by rw [HB4.out]; exact decide_eq_false (by omega)
              subst h4 h5
              go_wp2_with fail
              go_meet
              exact ⟨rfl, by rw [HT6.out, HTQ.out]; rfl, rfl⟩
          case rest =>
            obtain ⟨rfl, rfl, hw⟩ := hcut
            subst hw
            have HCNT := Lib.hid hlen
            have HFC := Lib.hid hfc
            clear hlen hfc
            go_wp2
            go_loopw [3, 7] (fun vl vk wr => ∃ k : Nat, vk = .int .i64 ((fr + 2 * k : Nat) : Int) ∧ k ≤ cnt ∧ wr.ownsRow w.heap.size 3 1 vl k (intVs (leadsN imm fr k next)) ∧ Below w.heap.size w wr ∧ wr.heap[w.heap.size]? = some (.cells #[.int .i64 at_, .int .i64 code, .slice X imm.length c, .int .i64 next] 34 (0, 0))) (fun _ vk _ => tq - (intOf vk).toNat)
            case atStart => exact ⟨0, rfl, Nat.zero_le _, World.ownsRow_nil _ _ _ _, hB1, hg1⟩
            case round =>
              obtain ⟨k, rfl, hk, hown, hB, hgw⟩ := hrel
              obtain ⟨Xp, cp, rfl⟩ := owns_shape hown
              by_cases hlt : k < cnt
              · have hnx := HCNT.out.resolve_left (by omega)
                have hfc := HFC.out
                have hdr := distN_range HZ.out (fr + 2 * k)
                have HT := Lib.hid (leadsN_snoc imm fr k next)
                have HP := Lib.hid (fun w4 (h4 : Below w.heap.size w w4) => distance_any imm X c (fr + 2 * k) w4 (ints_below h4 HC.out) HZ.out (by omega) hn)
                generalize distN imm (fr + 2 * k) = d at hdr HT HP
                have hw3 : IntKind.i64.wrap (next + d) = next + d := by rw [IntKind.wrap_i64]; omega
                have hw4 : wrap64 (next + d) = next + d := by unfold wrap64; omega
                have HNE := Lib.hid (show some w.heap.size ≠ (Value.slice Xp k cp).ownBlock from fun e => own_type hgw hown (by decide) _ e.symm rfl)
                have HOWN := Lib.hid hown
                clear hown
                obtain ⟨r0, r1, r2, r3, rz, rl⟩ := cells4 hgw
                have hld : wr.drew.cell? ⟨w.heap.size, 3, none⟩ = some (.int .i64 next) := r3
                have hld2 : wr.drew.cell? ⟨w.heap.size, 2, none⟩ = some (.slice X imm.length c) := r2
                have hdl : wr.heap.size ≤ wr.drew.heap.size := Nat.le_refl _
                have htq := HTQ.out
                have hlt1 : ((fr + 2 * k : Nat) : Int) < (tq : Int) := by omega
                have hlt2 : fr + 2 * k < tq := by omega
                have hlt3 : (fr : Int) + 2 * (k : Int) < (tq : Int) := by omega
                clear htq
                go_wp2
                go_region_held3 (fun w' => w'.cell? ⟨w.heap.size, 3, none⟩ = some (.int .i64 next) ∧ w'.cell? ⟨w.heap.size, 2, none⟩ = some (.slice X imm.length c)) ((refine ⟨?_, ?_⟩ <;> first | exact hld | exact hld2 | exact cell_later hb5 hld | exact cell_later hb5 hld2 | exact cell_later ((Below.refl _ _).alloc (Nat.le_refl _) _) (cell_later hb5 hld) | exact cell_later ((Below.refl _ _).alloc (Nat.le_refl _) _) (cell_later hb5 hld2) | exact hS6 | exact hS7))
                  (first
                    | (go_at_call 46; refine (HP.out _ hB.drew).mono ?_; rintro e w5 ⟨rfl, hb5⟩)
                    | (refine step_append_lies _ rfl _ _ 53 rfl w.heap.size 3 i0 (.int .i64 0) 1 8 Tryd.underlying53 hi hz0 hz1 hz2 rfl (by decide) _ k _ rfl ((own_below (W := wr.drew) HOWN.out hb5).alloc _) ⟨w5.heap.size, 0, none⟩ 1 1 [.int .i64 (next + d)] rfl rfl (cells_fresh w5 #[.int .i64 (next + d)] _ _ rfl) (by intro u hu; simp at hu; subst hu; rfl) (by decide) (by unfold maxLen; omega) (by omega) (by have := hB.drew.size; have := hb5.size; simp; omega) _ rfl ?_; intro g6 c6 w6 hown6 hgrow6 hat6 hlt6; have hS6 : w6.cell? ⟨w.heap.size, 3, none⟩ = some (.int .i64 next) := (hgrow6.cell_far ⟨w.heap.size, 3, none⟩ (by have := hb5.size; simp; omega) HNE.out).trans (cell_later ((Below.refl _ _).alloc (Nat.le_refl _) _) (cell_later hb5 hld)); have hS7 : w6.cell? ⟨w.heap.size, 2, none⟩ = some (.slice X imm.length c) := (hgrow6.cell_far ⟨w.heap.size, 2, none⟩ (by have := hb5.size; simp; omega) HNE.out).trans (cell_later ((Below.refl _ _).alloc (Nat.le_refl _) _) (cell_later hb5 hld2))))
                have hb6 : Below w.heap.size w (w5.alloc (.cells #[.int .i64 (next + d)] 3)) := (hB.drew.trans (hb5.mono hB.drew.size)).alloc (by have := hB.drew.size; have := hb5.size; omega) _
                have hB6 := bel_own hb6 ((own_below (W := wr.drew) HOWN.out hb5).alloc _) (Nat.le_refl _) hgrow6
                have hg6 : w6.heap[w.heap.size]? = some (.cells #[.int .i64 at_, .int .i64 code, .slice X imm.length c, .int .i64 next] 34 (0, 0)) := (hgrow6.block w.heap.size (by have := hb5.size; simp; omega) HNE.out).trans (kept_of ((hb5.trans ((Below.refl _ _).alloc hb5.size _))) (show wr.drew.heap[w.heap.size]? = _ from hgw))
                have hown7 : w6.ownsRow w.heap.size 3 1 (.slice (some ⟨g6, 0, none⟩) (k + 1) c6) (k + 1) (intVs (leadsN imm fr (k + 1) next)) := by rw [HT.out]; unfold intVs; rw [List.map_append]; exact hown6
                clear r0 r1 r2 r3 rz rl hld hld2 hS6 hS7 hw3 hw4 hlt1 hlt2
                go_wp2
                exact ⟨⟨k + 1, by go_num, by omega, hown7, hB6, hg6⟩, by have := HTQ.out; simp [intOf]; omega⟩
              · obtain rfl : k = cnt := by omega
                have HOWN := Lib.hid hown
                have hlt1 : ¬ ((fr + 2 * k : Nat) : Int) < (tq : Int) := by have := HTQ.out; omega
                have hlt2 : ¬ fr + 2 * k < tq := by have := HTQ.out; omega
                have hlt3 : ¬ (fr : Int) + 2 * (k : Int) < (tq : Int) := by omega
                clear hown
                go_wp2
                go_ret
                refine ⟨_, rfl, ?_, hB⟩
                rw [HOLD.out, leadsN_length]
                exact HOWN.out
end Go.Proofs.YthjnjdpiihpgeaaDoor
