/- vouchref6.Same, vouchref6.part. -/
import Derived.Test.YthjnjdpiihpgeaaDoorWhole
namespace Go.Proofs.YthjnjdpiihpgeaaDoor
open Go.RowKit Vouch Go.Vk Go.Sort
set_option maxHeartbeats 600000 in
set_option maxRecDepth 100000 in
theorem same_eq (i : Ins) (X Y : Option Addr) (c d : Nat) (w : World) (hx : IntsAt w .u8 X i.imm) (hy : IntsAt w .u8 Y i.imm) :
    Calls Tryd.prog 20 #[insV i (.slice X i.imm.length c), insV i (.slice Y i.imm.length d)] w fun e w' => e = .returned (.bool true) ∧ Below w.heap.size w w' := by
  have hb : Below w.heap.size w ((w.alloc (.cells #[.int .i64 i.at_, .int .i64 i.code, .slice X i.imm.length c, .int .i64 i.next] 34)).alloc (.cells #[.int .i64 i.at_, .int .i64 i.code, .slice Y i.imm.length d, .int .i64 i.next] 34)) := ((Below.refl _ _).alloc (Nat.le_refl _) _).alloc (by simp) _
  have cv1 := conv_str (cap := c) (ints_below hb hx) rfl
  have cv2 := conv_str (cap := d) (ints_below hb hy) rfl
  obtain ⟨q0, q1, q2, q3, qz, ql⟩ := cells4 (heap_alloc2_old w (.cells #[.int .i64 i.at_, .int .i64 i.code, .slice X i.imm.length c, .int .i64 i.next] 34) (.cells #[.int .i64 i.at_, .int .i64 i.code, .slice Y i.imm.length d, .int .i64 i.next] 34))
  have hg := heap_alloc_new (w.alloc (.cells #[.int .i64 i.at_, .int .i64 i.code, .slice X i.imm.length c, .int .i64 i.next] 34)) (.cells #[.int .i64 i.at_, .int .i64 i.code, .slice Y i.imm.length d, .int .i64 i.next] 34)
  rw [World.size_alloc] at hg
  obtain ⟨k0, k1, k2, k3, kz, kl⟩ := cells4 hg
  clear hx hy hg
  go_enter Tryd.func20, Tryd.ntmps20
  unfold insV
  go_wp2
  go_ret
  exact ⟨rfl, hb⟩
set_option maxHeartbeats 600000 in
set_option maxRecDepth 100000 in
theorem part_any (bs : List Int) (A : Option Addr) (cap lo n : Nat) (w : World) (hc : IntsAt w .u8 A bs) (hn : bs.length ≤ 4294967296) (hl : lo + n ≤ bs.length) :
    Calls Tryd.prog 42 #[.slice A bs.length cap, .int .i64 lo, .int .i64 ((lo : Int) + n)] w fun e w' => ∃ v, e = .returned v ∧ w'.ownsRow w.heap.size 5 1 v n (byteVs ((bs.drop lo).take n)) ∧ Below w.heap.size w w' := by
  obtain ⟨i0, hi, hz0, hz1, hz2⟩ := info_parts infoByte
  have HC := Lib.hid hc
  clear hc
  go_enter Tryd.func42, Tryd.ntmps42
  go_wp2
  go_loopw [7, 8] (fun vp vi wr => ∃ k : Nat, vi = .int .i64 ((lo : Int) + k) ∧ k ≤ n ∧ wr.ownsRow w.heap.size 5 1 vp k (byteVs ((bs.drop lo).take k)) ∧ Below w.heap.size w wr) (fun _ vi _ => lo + n - (intOf vi).toNat)
  case atStart => exact ⟨0, by simp, Nat.zero_le _, by simpa [byteVs] using World.ownsRow_nil w w.heap.size 5 1, Below.refl _ _⟩
  case round =>
    obtain ⟨k, rfl, hk, hown, hB⟩ := hrel
    by_cases hlt : k < n
    · obtain ⟨y, rfl, hx⟩ := HC.out (lo + k) (by omega)
      obtain ⟨Xp, cp, rfl⟩ := owns_shape hown
      have hts : byteVs ((bs.drop lo).take (k + 1)) = byteVs ((bs.drop lo).take k) ++ [.int .u8 (bs.getD (lo + k) 0)] := by
        unfold byteVs
        rw [List.take_add_one, List.getElem?_drop, List.getElem?_eq_getElem (by omega), List.getD_eq_getElem?_getD, List.getElem?_eq_getElem (by omega)]
        simp
      have HT := Lib.hid hts
      clear hts
      have HOWN := Lib.hid hown
      clear hown
      generalize bs.getD (lo + k) 0 = b at hx HT
      have hxr := cell_later hB hx
      have h1 : (lo : Int) + k < (lo : Int) + n := by omega
      have h2 : (lo : Int) + k < (bs.length : Int) := by omega
      have h3 : (0 : Int) ≤ (lo : Int) + k := by omega
      have h4 : ((lo : Int) + k).toNat = lo + k := by omega
      go_wp2_with (at_builtin; refine wpList_append_own _ rfl _ _ 22 rfl w.heap.size 5 i0 (.int .u8 0) 1 1 Tryd.underlying22 hi hz0 hz1 hz2 rfl (by decide) _ _ _ rfl (HOWN.out.alloc _) ⟨wr.heap.size, 0, none⟩ 1 1 [.int .u8 b] rfl rfl ?a1 ?a2 ?a3 ?a4 ?a5 ?_)
      case a1 => exact cells_fresh wr #[.int .u8 b] _ _ rfl
      case a2 => intro u hu; simp at hu; subst hu; rfl
      case a3 => unfold maxLen; omega
      case a4 => omega
      case a5 => have := hB.size; simp; omega
      intro v6 w6 hown6 hgrow6 _
      have hB6 := bel_own (hB.alloc hB.size (.cells #[.int .u8 b] 5)) (HOWN.out.alloc _) (Nat.le_refl _) hgrow6
      clear hgrow6
      go_wp2
      exact ⟨⟨k + 1, by congr 1, by omega, by rw [HT.out]; exact hown6, hB6⟩, by simp [intOf]; omega⟩
    · go_wp2
      go_ret
      obtain rfl : k = n := by omega
      exact ⟨_, rfl, hown, hB⟩
end Go.Proofs.YthjnjdpiihpgeaaDoor
