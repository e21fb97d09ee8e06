/- vouchlaw4.OpNeeds returns true. -/
import Derived.Test.YtchhbifldfnppaaDoorRNeeds
import Derived.Test.YtchhbifldfnppaaDoorOwnB
import Derived.Test.YtchhbifldfnppaaDoorOpenPairs
import Derived.Test.YtchhbifldfnppaaDoorFits4
import Derived.Test.YtchhbifldfnppaaDoorRound
import Derived.Deep.RegionHeld3
import Derived.Deep.DeepCutAuto
namespace Go.Proofs.YtchhbifldfnppaaDoor
open Go.RowKit Vouch Go.Vk Go.Sort
theorem addr_succ (x : Addr) (k : Nat) : x.add (k + 1) = ⟨(x.add k).block, (x.add k).off + 1, none⟩ := by
  unfold Addr.add
  by_cases h : k = 0
  · subst h; simp
  · simp [h]; omega
theorem marks_at (zs : List Int) : (zs ++ [171, 172, 173]).getD zs.length 0 = 171 ∧ (zs ++ [171, 172, 173]).getD (zs.length + 1) 0 = 172 ∧ (zs ++ [171, 172, 173]).getD (zs.length + 2) 0 = 173 := by
  refine ⟨?_, ?_, ?_⟩
  · rw [List.getD_eq_getElem?_getD, List.getElem?_append_right (Nat.le_refl _), Nat.sub_self]; rfl
  · rw [List.getD_eq_getElem?_getD, List.getElem?_append_right (by omega), show zs.length + 1 - zs.length = 1 by omega]; rfl
  · rw [List.getD_eq_getElem?_getD, List.getElem?_append_right (by omega), show zs.length + 2 - zs.length = 2 by omega]; rfl
set_option maxHeartbeats 400000 in
set_option maxRecDepth 100000 in
theorem keptlaw_any (zs : List Int) (g c : Nat) (B : Option Addr) (capB : Nat) (w : World) (hc : IntsAt w .u8 (some ⟨g, 0, none⟩) (zs ++ [171, 172, 173])) (hb : IntsAt w .u8 B zs) (hn : zs.length ≤ 140737488355328) :
    Calls Tryd.prog 18 #[.slice (some ⟨g, 0, none⟩) (zs.length + 3) c, .slice B zs.length capB] w fun e w' => e = .returned (.bool true) ∧ Below w.heap.size w w' := by
  obtain ⟨m0, m1, m2⟩ := marks_at zs
  obtain ⟨y0, hy0, k0⟩ := hc zs.length (by simp)
  obtain ⟨y1, hy1, k1⟩ := hc (zs.length + 1) (by simp)
  obtain ⟨y2, hy2, k2⟩ := hc (zs.length + 2) (by simp)
  cases hy0
  cases hy1
  cases hy2
  rw [m0, addr_zero] at k0
  rw [m1, addr_zero] at k1
  rw [m2, addr_zero] at k2
  have HC := Lib.hid hc
  have HB := Lib.hid hb
  have HK0 := Lib.hid k0
  have HK1 := Lib.hid k1
  have HK2 := Lib.hid k2
  obtain ⟨n, hnn⟩ : ∃ n, n = zs.length := ⟨_, rfl⟩
  rw [← hnn] at HK0 HK1 HK2 hn ⊢
  have HN := Lib.hid hnn
  clear hc hb m0 m1 m2 k0 k1 k2 hnn
  go_enter Tryd.func18, Tryd.ntmps18
  go_wp2
  go_loopw [5] (fun vi wr => ∃ k : Nat, vi = .int .i64 k ∧ k ≤ n ∧ Below w.heap.size w wr) (fun vi _ => n - (intOf vi).toNat)
  case atStart => exact ⟨0, rfl, Nat.zero_le _, Below.refl _ _⟩
  case round =>
    obtain ⟨k, rfl, hk, hB⟩ := hrel
    by_cases hlt : k < n
    · obtain ⟨y, hy, hx⟩ := HC.out k (by rw [List.length_append, ← HN.out]; omega)
      cases hy
      obtain ⟨z, rfl, hz⟩ := HB.out k (by rw [← HN.out]; exact hlt)
      rw [addr_zero, show (zs ++ ([171, 172, 173] : List Int) : List Int).getD k 0 = zs.getD k 0 by simp [List.getD_eq_getElem?_getD, List.getElem?_append_left (show k < zs.length by rw [← HN.out]; exact hlt)]] at hx
      have d1 := cell_later hB hx
      have d2 := cell_later hB hz
      generalize zs.getD k 0 = b at d1 d2
      clear hx hz
      have h1 : (k : Int) < (n : Int) := by omega
      have h2 : (k : Int) < (n : Int) + 3 := by omega
      go_wp2
      go_quiet (fail)
      go_wp2
      exact ⟨⟨k + 1, by go_num, by omega, below_drewN hB nq⟩, by simp [intOf]; omega⟩
    · have h1 : ¬ (k : Int) < (n : Int) := by omega
      have d0 := cell_later hB HK0.out
      have d1 := cell_later hB HK1.out
      have d2 := cell_later hB HK2.out
      have h2 : (n : Int) < (n : Int) + 3 := by omega
      have h3 : (n : Int) + 1 < (n : Int) + 3 := by omega
      have h4 : (n : Int) + 2 < (n : Int) + 3 := by omega
      go_wp2
      go_ret
      exact ⟨rfl, hB⟩
set_option maxHeartbeats 1000000 in
set_option maxRecDepth 100000 in
theorem opneeds_walk (X : Option Addr) (cap : Nat) (ls : List Pr) (w : World) (hp : PairsAt w X ls) (hn : ls.length ≤ 140737488355328) :
    Calls Tryd.prog 7 #[.slice X ls.length cap] w fun e w' => e = .returned (.bool true) ∧ Below w.heap.size w w' := by
  obtain ⟨i0, hi, hz0, hz1, hz2⟩ := info_parts infoByte
  have HP := Lib.hid hp
  clear hp
  go_enter Tryd.func7, Tryd.ntmps7
  go_wp2
  go_loopw [3, 4] (fun vn vi wr => ∃ (i : Nat) (m : Int), vi = .int .i64 i ∧ vn = .int .i64 m ∧ i ≤ ls.length ∧ 0 ≤ m ∧ m ≤ 40000 ∧ (∀ j (h : j < ls.length), j < i → (ls[j]).imm.length ≤ 40000) ∧ Below w.heap.size w wr) (fun _ vi _ => ls.length - (intOf vi).toNat)
  case atStart => exact ⟨0, 0, rfl, rfl, Nat.zero_le _, Int.le_refl _, by omega, fun j h h0 => absurd h0 (Nat.not_lt_zero _), Below.refl _ _⟩
  case round =>
    obtain ⟨i, m, rfl, rfl, hil, hm0, hm1, hsm, hB⟩ := hrel
    have HSM := Lib.hid hsm
    clear hsm
    by_cases hlt : i < ls.length
    · obtain ⟨x, rfl, hc0, hc1, hci, hcw, hcc, hcn, hcb, hcd⟩ := HP.out i hlt
      have hpi : ∀ j (h : j < ls.length), j < i + 1 → (ls[i]).imm.length ≤ 40000 → (ls[j]).imm.length ≤ 40000 := by
        intro j h hj hz
        by_cases e : j < i
        · exact HSM.out j h e
        · have e2 : j = i := by omega
          subst e2
          exact hz
      have HPI := Lib.hid hpi
      clear hpi
      generalize ls[i] = pr at hc0 hc1 hci hcw hcc hcn hcb hcd HPI
      obtain ⟨code, z, A, capz⟩ := pr
      dsimp only at hc0 hc1 hci hcw hcc hcn hcb hcd HPI
      rw [addr_succ] at hc1
      have d1 := cell_later hB hc1
      have h1 : (i : Int) < (ls.length : Int) := by omega
      clear hc0 hc1
      by_cases hgt : (40000 : Int) < m + (z.length + 1)
      · go_wp2
        go_ret
        exact ⟨rfl, hB⟩
      · have hz4 : z.length ≤ 40000 := by omega
        go_wp2
        exact ⟨⟨i + 1, m + (z.length + 1), by go_num, rfl, by omega, by omega, by omega, fun j h hj => HPI.out j h hj hz4, hB⟩, by simp [intOf]; omega⟩
    · obtain rfl : ls.length = i := by omega
      have h1 : ¬ (ls.length : Int) < (ls.length : Int) := by omega
      go_wp2
      go_loopw [5] (fun vi wx => ∃ i : Nat, vi = .int .i64 i ∧ i ≤ ls.length ∧ Below w.heap.size w wx) (fun vi _ => ls.length - (intOf vi).toNat)
      case atStart => exact ⟨0, rfl, Nat.zero_le _, hB⟩
      case round =>
        clear hB
        obtain ⟨i, rfl, hil2, hB⟩ := hrel
        by_cases hlt2 : i < ls.length
        · obtain ⟨x, rfl, hc0, hc1, hci, hcw, hcc, hcn, hcb, hcd⟩ := HP.out i hlt2
          have hz4 := HSM.out i hlt2 hlt2
          generalize ls[i] = pr at hc0 hc1 hci hcw hcc hcn hcb hcd hz4
          obtain ⟨code, z, A, capz⟩ := pr
          dsimp only at hc0 hc1 hci hcw hcc hcn hcb hcd hz4
          have hzb : ∀ n ∈ z, 0 ≤ n ∧ n < 256 := fun n h => byte_wf (hcw n h)
          obtain ⟨n, hnz⟩ : ∃ n, n = z.length := ⟨_, rfl⟩
          rw [← hnz, addr_succ] at hc1
          rw [← hnz] at hcc hcb hz4
          have HNZ := Lib.hid hnz
          have HCI := Lib.hid hci
          have HZB := Lib.hid hzb
          have HCN := Lib.hid hcn
          have HC0 := Lib.hid hc0
          have HC1 := Lib.hid hc1
          have h1 : (i : Int) < (ls.length : Int) := by omega
          clear hcw hcn hci hzb hnz
          have d0 := cell_later hB HC0.out
          have d1 := cell_later hB HC1.out
          have uA := fun d os => cell_regrown d0 d os
          have uB := fun d os => cell_regrown d1 d os
          have uN := fun d os => calls_grown (w := wr) (fun w1 hb => rneeds_any code A capz z w1 (ints_below (hB.trans (hb.mono hB.size)) HCI.out) HZB.out (by have := HNZ.out; omega)) d os
          rw [← HNZ.out] at uN
          obtain ⟨r1, r2, r3, hr⟩ : ∃ r1 r2 r3, needsV code z = .tuple #[.int .i64 r1, .int .i64 r2, .bool r3] := ⟨_, _, _, rfl⟩
          have HNV := Lib.hid hr
          rw [hr] at uN
          clear hr
          go_wp2
          refine wp_region_quiet_below (by kernel_rfl) (by kernel_rfl) ?_
          repeat (refine wpQuiet_step (fun K hK => ?_); go_simp; first | (refine hK _ ?_; clear hK K) | (apply Exists.intro; refine ⟨fun _ => ?_, hK _ ?_⟩; with_reducible exact uN _ _; clear hK K))
          refine wpQuiet_nil ?_
          rintro _ ⟨pq, rfl⟩
          have hb1 := below_regrown wr pq.d pq.os
          generalize grow (redrawn wr pq.d) pq.os = W1 at hb1 ⊢
          have hB1 := hB.trans (hb1.mono hB.size)
          clear uA uB uN d0 d1
          have d1 := cell_later hB1 HC1.out
          have hbE : Below W1.heap.size W1 (W1.alloc (.cells #[] 5)) := (Below.refl _ _).alloc (Nat.le_refl _) _
          have d2 := cell_later hbE d1
          go_wp2_with (at_builtin; refine wpList_append_ints rfl _ _ rfl W1.heap.size _ 0 [] rfl (own_empty W1) A n capz z rfl HNZ.out (ints_below (hB1.trans (hbE.mono hB1.size)) HCI.out) HCN.out hcc (by omega) (by simp) ?_)
          intro v2 w2 ho2 hg2
          obtain ⟨Y2, c2, rfl⟩ := owns_shape ho2
          have hb2 := bel_own hbE (own_empty W1) (Nat.le_refl _) hg2
          go_wp2_with (at_builtin; refine wpList_append_ints rfl _ _ rfl W1.heap.size _ n z ?e0 (ho2.alloc _) (some ⟨w2.heap.size, 0, none⟩) 3 3 [171, 172, 173] rfl rfl (ints_fresh _ _ _ _ rfl) (fun h => by cases h) (Nat.le_refl _) (by omega) (by have := hb2.size; simp; omega) ?_)
          case e0 => rfl
          intro v3 w3 ho3 hg3
          have hb3a := hb2.alloc hb2.size (.cells #[.int .u8 171, .int .u8 172, .int .u8 173] 5)
          have hb3 := bel_own hb3a (ho2.alloc _) (Nat.le_refl _) hg3
          obtain ⟨Y3, c3, rfl⟩ := owns_shape ho3
          obtain ⟨g, rfl⟩ := own_head ho3 (by omega)
          have hB3 := hB1.trans (hb3.mono hB1.size)
          have hgl := own_lt ho3
          have hcc3 := owned_cap ho3
          have hgw : w.heap.size ≤ g := by have := hB1.size; omega
          clear hg2 hg3 hbE hb2 hb3a ho2 d1 d2
          have d1 := cell_later hB3 HC1.out
          have hn3 : (n : Int) ≤ (c3 : Int) := by omega
          go_wp2
          have h3l : (z ++ ([171, 172, 173] : List Int)).length = n + 3 := by rw [List.length_append, HNZ.out]; rfl
          have HI3 := Lib.hid (owned_ints (w := w3) (c := c3) (zs := z ++ [171, 172, 173]) (by rw [h3l]; exact ho3))
          have HO3 := Lib.hid (show w3.ownsRow W1.heap.size 5 1 (.slice (some ⟨g, 0, none⟩) n c3) n (byteVs z) by have := own_cut ho3 n (by omega); rwa [show (byteVs (z ++ ([171, 172, 173] : List Int))).take n = byteVs z by unfold byteVs; rw [List.map_append, List.take_left' (by simp [HNZ.out])]] at this)
          clear h3l ho3
          go_loopw [11] (fun vk wx => ∃ k : Nat, vk = .int .i64 k ∧ k ≤ 2 ∧ Below w3.heap.size w3 wx) (fun vk _ => 2 - (intOf vk).toNat)
          case atStart => exact ⟨0, rfl, Nat.zero_le _, Below.refl _ _⟩
          case round =>
            obtain ⟨k, rfl, hk2, hBk⟩ := hrel
            have hBw := hB3.trans (hBk.mono hB3.size)
            clear d1
            by_cases hkl : k < 2
            · have e0 := cell_later hBw HC0.out
              have e1 := cell_later hBw HC1.out
              have HN4 := Lib.hid (fun w1 (hb : Below wr.heap.size wr w1) => needs_any code (some ⟨g, 0, none⟩) c3 z w1 (ints_below hb (ints_below hBk (by have := ints_take HI3.out n; rw [HNZ.out, List.take_left] at this; exact this))) HZB.out (by have := HNZ.out; omega))
              rw [HNV.out, ← HNZ.out] at HN4
              have HK4 := Lib.hid (fun w1 (hb : Below wr.heap.size wr w1) => keptlaw_any z g c3 A capz w1 (ints_below hb (ints_below hBk HI3.out)) (ints_below (hBw.trans (hb.mono hBw.size)) HCI.out) (by have := HNZ.out; omega))
              rw [← HNZ.out] at HK4
              have hk1 : (k : Int) < 2 := by omega
              go_wp2_with (first
                | (go_at_call 17; refine (HN4.out _ (Below.refl _ _)).mono ?_; rintro e w5 ⟨rfl, hb5⟩; have f1 := cell_later (hBw.trans (hb5.mono hBw.size)) HC1.out)
                | (go_at_call 18; refine (HK4.out _ hb5).mono ?_; rintro e w6 ⟨rfl, hb6⟩))
              exact ⟨⟨k + 1, by go_num, by omega, hBk.trans ((hb5.trans (hb6.mono hb5.size)).mono hBk.size)⟩, by simp [intOf]; omega⟩
            · have hk1 : ¬ (k : Int) < 2 := by omega
              have ho4 := own_below HO3.out hBk
              go_wp2
              go_loopw [15] (fun vk wx => ∃ (k : Nat) (zs : List Int), vk = .int .i64 k ∧ k ≤ n ∧ n = zs.length ∧ (∀ q ∈ zs, 0 ≤ q ∧ q < 256) ∧ wx.ownsRow W1.heap.size 5 1 (.slice (some ⟨g, 0, none⟩) n c3) n (byteVs zs) ∧ Below w.heap.size w wx) (fun vk _ => n - (intOf vk).toNat)
              case atStart => exact ⟨0, z, rfl, Nat.zero_le _, HNZ.out, HZB.out, ho4, hBw⟩
              case round =>
                clear ho4 hBw hBk
                obtain ⟨j, zs, rfl, hj, hzl, hzb, hoz, hBj⟩ := hrel
                have HZL := Lib.hid hzl
                have HZZ := Lib.hid hzb
                clear hzl hzb
                by_cases hjn : j < n
                · obtain ⟨hv1, hv2⟩ := own_cell hoz (j := j) (v := .int .u8 (zs.getD j 0)) (by have := HZL.out; unfold byteVs; rw [List.getElem?_map, List.getElem?_eq_getElem (by omega), List.getD_eq_getElem?_getD, List.getElem?_eq_getElem (by omega)]; rfl)
                  have HOZ := Lib.hid hoz
                  generalize zs.getD j 0 = q at hv1
                  have hb : 0 ≤ IntKind.u8.wrap (q + 85) ∧ IntKind.u8.wrap (q + 85) < 256 := by rw [IntKind.wrap_u8]; omega
                  have hj1 : (j : Int) < (n : Int) := by omega
                  clear hoz
                  go_wp2
                  refine ⟨⟨j + 1, zs.set j _, by go_num, by omega, by have := HZL.out; simpa using this, ?_, by rw [byteVs_set]; exact own_set HOZ.out j _, hBj.setCell (by dsimp only; omega) _⟩, by simp [intOf]; omega⟩
                  intro p hp
                  rcases List.mem_or_eq_of_mem_set hp with h | h
                  · exact HZZ.out p h
                  · rw [h]; exact hb
                · have hj1 : ¬ (j : Int) < (n : Int) := by omega
                  have HOZ := Lib.hid hoz
                  have e0 : wr.cell? (x.add (i * 2)) = some (.int .i64 code) := cell_later hBj HC0.out
                  obtain ⟨s1, s2, s3, hsr⟩ : ∃ s1 s2 s3, needsV code zs = .tuple #[.int .i64 s1, .int .i64 s2, .bool s3] := ⟨_, _, _, rfl⟩
                  have HSR := Lib.hid hsr
                  have HRN5 := Lib.hid (fun (Y : Option Addr) (cY : Nat) w1 (h : IntsAt w1 .u8 Y zs) => rneeds_any code Y cY zs w1 h HZZ.out (by have := HZL.out; omega))
                  have HN5 := Lib.hid (fun (Y : Option Addr) (cY : Nat) w1 (h : IntsAt w1 .u8 Y zs) => needs_any code Y cY zs w1 h HZZ.out (by have := HZL.out; omega))
                  rw [hsr, ← HZL.out] at HRN5 HN5
                  have hxb : (x.add (i * 2)).block < w.heap.size := block_lt_of_cell HC0.out
                  have hws := hBj.size
                  clear hsr hoz
                  go_wp2
                  go_region_held3 (fun w' => w'.cell? (x.add (i * 2)) = some (.int .i64 code)) (first | exact e0 | exact cell_later ((Below.refl _ wr).alloc (Nat.le_refl _) _) e0 | exact cell_later (((Below.refl _ wr).alloc (Nat.le_refl _) _).drew) e0 | exact hS6 | exact cell_later hb7 hS6)
                    (first
                      | (refine step_append_own rfl _ _ 39 rfl wr.heap.size 5 i0 (.int .u8 0) 1 1 Tryd.underlying39 hi hz0 hz1 hz2 rfl (by decide) _ 0 _ rfl (own_empty wr).drew ⟨g, 0, none⟩ n c3 (byteVs zs) rfl (by rw [byteVs_length, ← HZL.out, Nat.mul_one]) (bytes_src (ints_below (((Below.refl _ wr).alloc (Nat.le_refl _) _).drew) (owned_ints (HZL.out ▸ HOZ.out)))) bytes_one (by unfold maxLen; omega) (by omega) (by simp) ?_; intro v6 w6 hown6 hgrow6; obtain ⟨Y6, c6, rfl⟩ := owns_shape hown6; have hb6 := bel_own ((Below.refl _ wr).alloc (Nat.le_refl _) (.cells #[] 5)).drew (own_empty wr).drew (Nat.le_refl _) hgrow6; have hS6 := cell_later hb6 e0; have hown7 : w6.ownsRow wr.heap.size 5 1 (.slice Y6 n c6) n (byteVs zs) := (by simpa using hown6); have hI6 := Lib.hid (owned_ints (w := w6) (X := Y6) (c := c6) (zs := zs) (B := wr.heap.size) (by rw [← HZL.out]; exact hown7)))
                      | (go_at_call 16; ((with_reducible refine (HRN5.out Y6 c6 w6 hI6.out).mono ?_)); rintro e w7 ⟨rfl, hb7⟩))
                  have hb67 := hb6.trans (hb7.mono hb6.size)
                  have hI8 := Lib.hid (ints_below hb67 (owned_ints (w := wr) (X := some ⟨g, 0, none⟩) (c := c3) (zs := zs) (B := W1.heap.size) (by rw [← HZL.out]; exact HOZ.out)))
                  have e1 := cell_later hb7 hS6
                  have hB7 := hBj.trans (hb67.mono hBj.size)
                  clear e0 hS6 hown6 hown7 hgrow6
                  go_wp2_with (go_at_call 17; ((with_reducible refine (HN5.out (some ⟨g, 0, none⟩) c3 w7 hI8.out).mono ?_)); rintro e w8 ⟨rfl, hb8⟩)
                  exact ⟨⟨i + 1, by go_num, by omega, hB7.trans (hb8.mono hB7.size)⟩, by simp [intOf]; omega⟩
        · obtain rfl : ls.length = i := by omega
          have h1 : ¬ (ls.length : Int) < (ls.length : Int) := by omega
          go_wp2_with (go_at_call 11; refine (awake_any _).mono ?_; rintro e w9 ⟨rfl, hb9⟩)
          go_ret
          exact ⟨rfl, hB.trans (hb9.mono hB.size)⟩
end Go.Proofs.YtchhbifldfnppaaDoor
