/- vouchlaw6.CodeJumps returns true. -/
import Derived.Test.YthjnjdpiihpgeaaDoorJumpsA
import Derived.Test.YthjnjdpiihpgeaaDoorLocal6
import Derived.Deep.DeepCutAuto
namespace Go.Proofs.YthjnjdpiihpgeaaDoor
open Go.RowKit Vouch Go.Vk Go.Sort
theorem mask16z (z : Int) : bits .and .i64 z 65535 = z % 65536 := by
  have h2 : (BitVec.ofInt 64 z).toNat = (z % 18446744073709551616).toNat := by simp
  have h : ((BitVec.ofInt 64 z) &&& (BitVec.ofInt 64 65535)).toNat = (BitVec.ofInt 64 z).toNat % 65536 := by
    rw [BitVec.toNat_and, show (BitVec.ofInt 64 65535).toNat = 2 ^ 16 - 1 from rfl, Nat.and_two_pow_sub_one_eq_mod]
  show IntKind.i64.wrap (((BitVec.ofInt 64 z) &&& (BitVec.ofInt 64 65535)).toNat : Int) = _
  rw [h, h2, IntKind.wrap_i64]
  omega
theorem two_at {l : List Int} {j : Nat} {a b : Int} (h : j + 1 < l.length) (ha : l.getD j 0 = a) (hb : l.getD (j + 1) 0 = b) : (l.drop j).take 2 = [a, b] := by
  rw [List.getD_eq_getElem?_getD, List.getElem?_eq_getElem (by omega)] at ha hb
  simp only [Option.getD_some] at ha hb
  rw [List.drop_eq_getElem_cons (by omega), List.drop_eq_getElem_cons (by omega), List.take_succ_cons, List.take_succ_cons, List.take_zero, ha, hb]
theorem wf_i64 {n : Int} (h0 : -9223372036854775808 ≤ n) (h1 : n ≤ 9223372036854775807) : (Lit.int .i64 n).wf = true := by
  unfold Lit.wf
  simp only [Bool.and_eq_true, decide_eq_true_eq]
  exact ⟨h0, h1⟩
theorem fresh_own (w : World) (cs : Array Value) (t : TypeId) (n : Nat) (hn : cs.size = n) (hm : n ≤ maxLen) : (w.alloc (.cells cs t)).ownsRow w.heap.size t 1 (.slice (some ⟨w.heap.size, 0, none⟩) n n) n cs.toList :=
  ⟨by simp [hn], .inr ⟨_, n, cs, rfl, Nat.le_refl _, heap_alloc_new _ _, Nat.le_refl _, hm, by omega, by rw [List.take_of_length_le (by simp; omega)]⟩⟩
set_option maxHeartbeats 600000 in
set_option maxRecDepth 100000 in
theorem jumps_walk (at_ : Int) (A : Option Addr) (cap : Nat) (zs : List Int) (w : World) (hc : IntsAt w .i64 A zs) (hz : ∀ n ∈ zs, (Lit.int .i64 n).wf = true) (_hcap : zs.length ≤ cap) (hn : zs.length ≤ 140737488355328) :
    Calls Tryd.prog 9 #[.int .i64 at_, .slice A zs.length cap] w fun e w' => e = .returned (.bool true) ∧ Below w.heap.size w w' := by
  obtain ⟨i0, hi, hz0, hz1, hz2⟩ := info_parts infoByte
  have hm := mask16z at_
  have HC := Lib.hid hc
  have HZ := Lib.hid hz
  clear hc hz
  have ha0 : 0 ≤ at_ % 65536 ∧ at_ % 65536 ≤ 65535 := by omega
  generalize at_ % 65536 = q at hm ha0
  by_cases h0 : zs.length = 0
  · go_enter Tryd.func9, Tryd.ntmps9
    go_wp2_with (go_at_call 17; refine (awake6 _).mono ?_; rintro e w1 ⟨rfl, hb⟩)
    go_ret
    exact ⟨rfl, hb⟩
  · obtain ⟨N, hN⟩ : ∃ N, N = min zs.length 256 := ⟨_, rfl⟩
    have hN1 : N ≤ zs.length ∧ N ≤ 256 ∧ 0 < N := by omega
    have HN := Lib.hid hN
    clear hN
    go_enter Tryd.func9, Tryd.ntmps9
    go_upto_if 20 with fail
    go_cut [5] (fun s5 wx => s5 = .int .i64 (N : Int) ∧ wx = w)
    case first =>
      go_wp2_with fail
      all_goals go_meet
      · exact ⟨by rw [HN.out, Nat.min_eq_right (by omega)]; rfl, rfl⟩
      · exact ⟨by rw [HN.out, Nat.min_eq_left (by omega)], rfl⟩
    case rest =>
      obtain ⟨rfl, rfl⟩ := hcut
      obtain ⟨hNa, hNb, hNc⟩ := hN1
      have hu : IntKind.u8.wrap ((N : Int) - 1) = (N : Int) - 1 := by rw [IntKind.wrap_u8]; omega
      have hNi : (0 : Int) < (N : Int) := by omega
      have hNj : ¬ (N : Int) = 0 := by omega
      have hNk : ((N : Int) == 0) = false := by simp; omega
      have hNw : wrap64 ((N : Int) - 1) = (N : Int) - 1 := by unfold wrap64; omega
      go_wp2
      have hown0 := fresh_own wc #[.int .u8 ((N : Int) - 1)] 5 1 rfl (by decide)
      go_loopw [6, 7] (fun vp vi wr => ∃ k : Nat, vi = .int .i64 k ∧ k ≤ N ∧ wr.ownsRow wc.heap.size 5 1 vp (1 + 2 * k) (byteVs (((N : Int) - 1) :: twos (zs.take k))) ∧ Below wc.heap.size wc wr) (fun _ vi _ => N - (intOf vi).toNat)
      case atStart => exact ⟨0, rfl, Nat.zero_le _, hown0, (Below.refl _ _).alloc (Nat.le_refl _) _⟩
      case round =>
        clear hown0
        obtain ⟨k, rfl, hk, hown, hB⟩ := hrel
        obtain ⟨Xp, cp, rfl⟩ := owns_shape hown
        by_cases hlt : k < N
        · obtain ⟨x, rfl, hx⟩ := HC.out k (by omega)
          have hts : byteVs (((N : Int) - 1) :: twos (zs.take (k + 1))) = byteVs (((N : Int) - 1) :: twos (zs.take k)) ++ [.int .u8 (hiB (zs.getD k 0)), .int .u8 (loB (zs.getD k 0))] := by
            rw [twos_snoc (by omega)]; simp [byteVs]
          have HT := Lib.hid hts
          clear hts
          have hxd : wr.cell? (x.add k) = some (.int .i64 (zs.getD k 0)) := cell_later hB hx
          have hu1 : IntKind.u8.wrap (zs.getD k 0 / 256) = hiB (zs.getD k 0) := IntKind.wrap_u8 _
          have hu2 : IntKind.u8.wrap (zs.getD k 0) = loB (zs.getD k 0) := IntKind.wrap_u8 _
          have hxB : (x.add k).block < wc.heap.size := block_lt_of_cell hx
          generalize zs.getD k 0 = z at hx HT hxd hu1 hu2
          have HOWN := Lib.hid hown
          have hki : (k : Int) < (N : Int) := by omega
          have hkz : (k : Int) < (zs.length : Int) := by omega
          have hkn : k < zs.length := by omega
          clear hown hx
          go_wp2
          go_region_held3 (fun w' => w'.cell? (x.add k) = some (.int .i64 z)) (first | exact hxd | exact cell_later ((Below.refl _ wr).alloc (Nat.le_refl _) _) hxd | exact cell_later (((Below.refl _ wr).alloc (Nat.le_refl _) _).drew) hxd | exact hS6)
            (first
              | (refine step_append_lies _ rfl _ _ 22 rfl wc.heap.size 5 i0 (.int .u8 0) 1 1 Tryd.underlying22 hi hz0 hz1 hz2 rfl (by decide) _ (1 + 2 * k) _ rfl (HOWN.out.alloc _) ⟨wr.heap.size, 0, none⟩ 2 2 [.int .u8 (hiB z), .int .u8 (loB z)] rfl rfl (cells_fresh wr #[.int .u8 (hiB z), .int .u8 (loB z)] _ _ rfl) (by intro u hu; simp at hu; rcases hu with rfl | rfl <;> rfl) (by decide) (by unfold maxLen; omega) (by omega) (by have := hB.size; simp; omega) _ rfl ?_; intro g6 c6 w6 hown6 hgrow6 hat6 hlt6; have hS6 : w6.cell? (x.add k) = some (.int .i64 z) := (hgrow6.cell_far (x.add k) (by have := hB.size; simp; omega) (fun e => by have := (HOWN.out.lt _ e.symm).1; omega)).trans (cell_later (((Below.refl _ wr).alloc (Nat.le_refl _) _).drew) hxd)))
          have hB6 := bel_own (hB.drew.alloc hB.drew.size (.cells #[.int .u8 (hiB z), .int .u8 (loB z)] 5)) (HOWN.out.alloc _) (Nat.le_refl _) hgrow6
          clear hgrow6 hxd hS6 hu1 hu2
          have hown7 : w6.ownsRow wc.heap.size 5 1 (.slice (some ⟨g6, 0, none⟩) (1 + 2 * (k + 1)) c6) (1 + 2 * (k + 1)) (byteVs (((N : Int) - 1) :: twos (zs.take (k + 1)))) := by rw [HT.out]; exact hown6
          go_wp2
          exact ⟨⟨k + 1, by go_num, by omega, hown7, hB6⟩, by simp [intOf]; omega⟩
        · obtain rfl : k = N := by omega
          have hst := jimm_leads (at_ := q) hNa (by omega) hNb ha0
          have hjl := jimm_length hNa
          have hjb := jimm_byte (zs := zs) (N := k) (by omega) hNb
          have hown2 : wr.ownsRow wc.heap.size 5 1 (.slice Xp (jimm zs k).length cp) (jimm zs k).length (byteVs (jimm zs k)) := by rw [hjl]; exact hown
          clear hown
          generalize hJ : jimm zs k = imm at hst hjl hjb hown2
          have HJ := Lib.hid hJ
          have HST := Lib.hid hst
          have HJL := Lib.hid hjl
          have HJB := Lib.hid hjb
          have HOWN := Lib.hid hown2
          clear hJ hst hjl hjb hown2
          have hw1 : wrap64 (q + 1) = q + 1 := by unfold wrap64; omega
          have hw2 : wrap64 (q + 1 + (1 + 2 * (k : Int))) = q + 1 + (1 + 2 * (k : Int)) := by unfold wrap64; omega
          have hBn := hB.alloc hB.size (.cells #[.int .i64 q, .int .i64 226, .slice Xp (1 + 2 * k) cp, .int .i64 (q + 1 + (1 + 2 * (k : Int)))] 34)
          obtain ⟨p0, p1, p2, p3, pz, pl⟩ := cells4 (heap_alloc_new wr (.cells #[.int .i64 q, .int .i64 226, .slice Xp (1 + 2 * k) cp, .int .i64 (q + 1 + (1 + 2 * (k : Int)))] 34))
          have HL := Lib.hid (leads_any ⟨q, 226, imm, q + 1 + (1 + 2 * (k : Int))⟩ Xp cp (wr.alloc (.cells #[.int .i64 q, .int .i64 226, .slice Xp (1 + 2 * k) cp, .int .i64 (q + 1 + (1 + 2 * (k : Int)))] 34)) (owned_ints (HOWN.out.alloc _)) HJB.out (by rw [HJL.out]; omega) (owned_cap HOWN.out) (wf_i64 (by dsimp only; omega) (by dsimp only; omega)))
          rw [HST.out] at HL
          unfold insV at HL
          dsimp only at HL
          rw [HJL.out, leadsN_length] at HL
          go_wp2_with (go_at_call 28; refine HL.out.mono ?_; rintro e w1 ⟨v, rfl, ho, hb⟩; obtain ⟨X, c, rfl⟩ := owns_shape ho; refine stop_here ?_)
          unfold Stop
          have hB1 := hBn.trans (hb.mono hBn.size)
          have hto0 := owned_ints64 (zs := leadsN imm 1 k (q + 1 + (1 + 2 * (k : Int)))) (w := w1) (X := X) (c := c) (B := (wr.alloc (.cells #[.int .i64 q, .int .i64 226, .slice Xp (1 + 2 * k) cp, .int .i64 (q + 1 + (1 + 2 * (k : Int)))] 34)).heap.size) (by rw [leadsN_length]; exact ho)
          have HTO := Lib.hid hto0
          have hv3 := cell_later hb p3
          have HV := Lib.hid hv3
          have HIMM := Lib.hid (owned_ints (own_below (HOWN.out.alloc (.cells #[.int .i64 q, .int .i64 226, .slice Xp (1 + 2 * k) cp, .int .i64 (q + 1 + (1 + 2 * (k : Int)))] 34)) hb))
          have HD := Lib.hid (ints_below hB1 HC.out)
          obtain ⟨g, hg⟩ := own_head HOWN.out (by rw [HJL.out]; omega)
          subst hg
          have hcp := owned_cap HOWN.out
          rw [HJL.out] at hcp
          clear p0 p1 p2 p3 pz pl hto0 hv3 ho hw1 hw2 HL hb HOWN
          go_wp2
          go_loopw [10] (fun vi wx => ∃ i : Nat, vi = .int .i64 i ∧ i ≤ k ∧ Below w1.heap.size w1 wx) (fun vi _ => k - (intOf vi).toNat)
          case atStart => exact ⟨0, rfl, Nat.zero_le _, Below.refl _ _⟩
          case round =>
            obtain ⟨i, rfl, hik, hBx⟩ := hrel
            by_cases hlt : i < k
            · obtain ⟨x, rfl, hx⟩ := HD.out i (by omega)
              obtain ⟨y, rfl, hy⟩ := HTO.out i (by rw [leadsN_length]; omega)
              rw [leadsN_at _ _ _ _ _ hlt, ← HJ.out, jimm_dist hNa hlt] at hy
              have hd1 := u16_i16 (zs.getD i 0)
              have hx' := cell_later hBx hx
              have hy' := cell_later hBx hy
              have hv' := cell_later hBx HV.out
              have hdr : -32768 ≤ i16N (zs.getD i 0 % 65536) ∧ i16N (zs.getD i 0 % 65536) < 32768 := by unfold i16N; split <;> omega
              have HLO := fun C hC => lone_leads (at_ := q) (C := C) (zs.getD i 0) hC ha0
              have HTW := (show (imm.drop (1 + 2 * i)).take 2 = [hiB (zs.getD i 0), loB (zs.getD i 0)] by
                have hj := jimm_at (zs := zs) (N := k) (k := i) hNa hlt
                rw [HJ.out] at hj
                exact two_at (by have := HJL.out; omega) hj.1 hj.2)
              generalize zs.getD i 0 = z at hd1 hx' hy' hdr HLO HTW
              have HTW := Lib.hid HTW
              generalize i16N (z % 65536) = d at hd1 hy' hdr HLO
              have HLO := Lib.hid HLO
              clear hx hy
              have hi1 : (i : Int) < (k : Int) := by omega
              have hi2 : (i : Int) < (zs.length : Int) := by omega
              have hi3 : i < zs.length := by omega
              have hs1 : IntKind.i64.wrap d = d := by rw [IntKind.wrap_i64]; omega
              have hs2 : IntKind.i64.wrap (q + 1 + (1 + 2 * (k : Int)) + d) = q + 1 + (1 + 2 * (k : Int)) + d := by rw [IntKind.wrap_i64]; omega
              go_wp2
              go_quiet (fail)
              go_wp2
              have hBy : Below w1.heap.size w1 (wr.drewN nq) := below_drewN hBx _
              generalize wr.drewN nq = wy at hBy
              go_loopw [12] (fun vk wx => ∃ kk : Nat, vk = .int .i64 kk ∧ kk ≤ 2 ∧ Below w1.heap.size w1 wx) (fun vk _ => 2 - (intOf vk).toNat)
              case atStart => exact ⟨0, rfl, Nat.zero_le _, hBy⟩
              case round =>
                clear hBx hBy
                obtain ⟨kk, rfl, hk2, hBz⟩ := hrel
                by_cases h2 : kk < 2
                · have h2i : (kk : Int) < 2 := by omega
                  have hsl0 : (1 + 2 * (i : Int)) ≤ 3 + 2 * (i : Int) := by omega
                  have hsl1 : (3 + 2 * (i : Int)) ≤ (cp : Int) := by omega
                  have h32 : 3 + 2 * i - (1 + 2 * i) = 2 := by omega
                  have hs3 : IntKind.i64.wrap (q + 3 + d) = q + 3 + d := by rw [IntKind.wrap_i64]; omega
                  have hib : IntsAt wr .u8 (some ⟨g, 1 + 2 * i, none⟩) [hiB z, loB z] := by
                    have h := ints_below hBz (ints_drop HIMM.out (1 + 2 * i))
                    have h' := ints_take h 2
                    rw [show (⟨g, 0, none⟩ : Addr).add (1 + 2 * i) = ⟨g, 1 + 2 * i, none⟩ by unfold Addr.add; rw [if_neg (by omega)]; simp] at h'
                    rwa [HTW.out] at h'
                  have hbz := (Below.refl wr.heap.size wr).alloc (Nat.le_refl _) (.cells #[.int .i64 q, .int .i64 (224 + kk), .slice (some ⟨g, 1 + 2 * i, none⟩) 2 (cp - (1 + 2 * i)), .int .i64 (q + 3)] 34)
                  have HL := Lib.hid (leads_any ⟨q, 224 + kk, [hiB z, loB z], q + 3⟩ (some ⟨g, 1 + 2 * i, none⟩) (cp - (1 + 2 * i)) _ (ints_below hbz hib) (by intro u hu; simp at hu; rcases hu with rfl | rfl; exact byte_hi z; exact byte_lo z) (by simp) (by simp; omega) (wf_i64 (by dsimp only; omega) (by dsimp only; omega)))
                  rw [HLO.out (224 + kk) (by omega)] at HL
                  unfold insV at HL
                  obtain ⟨p0, p1, p2, p3, pz, pl⟩ := cells4 (heap_alloc_new wr (.cells #[.int .i64 q, .int .i64 (224 + kk), .slice (some ⟨g, 1 + 2 * i, none⟩) 2 (cp - (1 + 2 * i)), .int .i64 (q + 3)] 34))
                  clear hib
                  go_wp2_with (go_at_call 28; refine HL.out.mono ?_; rintro e w2 ⟨v, rfl, ho, hb⟩; obtain ⟨X, c2, rfl⟩ := owns_shape ho; refine stop_here ?_)
                  unfold Stop
                  have hv3 := cell_later hb p3
                  have hB2 := hBz.trans ((hbz.trans (hb.mono hbz.size)).mono hBz.size)
                  obtain ⟨y2, rfl, hy2⟩ := owned_ints64 (zs := [q + 3 + d]) ho 0 (by simp)
                  replace hy2 : w2.cell? y2 = some (.int .i64 (q + 3 + d)) := by simpa [Addr.add] using hy2
                  clear p0 p1 p2 p3 pz pl ho hb hbz
                  go_wp2
                  go_quiet (fail)
                  go_wp2
                  exact ⟨⟨kk + 1, by go_num, by omega, below_drewN hB2 _⟩, by simp [intOf]; omega⟩
                · obtain rfl : kk = 2 := by omega
                  go_wp2
                  exact ⟨⟨i + 1, by go_num, by omega, hBz⟩, by simp [intOf]; omega⟩
            · obtain rfl : i = k := by omega
              go_wp2_with (go_at_call 17; refine (awake6 _).mono ?_; rintro e w2 ⟨rfl, hb2⟩)
              go_ret
              exact ⟨rfl, hB1.trans ((hBx.trans (hb2.mono hBx.size)).mono hB1.size)⟩
end Go.Proofs.YthjnjdpiihpgeaaDoor
