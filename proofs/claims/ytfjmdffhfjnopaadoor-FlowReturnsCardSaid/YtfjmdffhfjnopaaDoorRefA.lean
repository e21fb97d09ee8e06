/- vouchref4.row, vouchref4.word: what they return (word: texts of at most 1000 bytes, an index from 0 to 1000). -/
import Derived.Test.YtfjmdffhfjnopaaDoorOpD
namespace Go.Proofs.YtfjmdffhfjnopaaDoor
open Go.RowKit Vouch Go.Vk
theorem row_any (c : Int) (nm : ByteArray) (m i o g : Int) (b : Bool) (w : World) :
    Calls Tryd.prog 81 #[.int .i64 c, .string nm, .int .i64 m, .int .i64 i, .int .i64 o, .int .i64 g, .bool b] w fun e w' => e = .returned (.tuple #[.agg (rowC ⟨c, nm, m, i, o, g, b⟩), .bool true]) ∧ Below w.heap.size w w' := by
  go_enter Tryd.func81, Tryd.ntmps81
  go_wp2
  exact bodyPost_ret_by (results_row_tmp (cs := rowC ⟨c, nm, m, i, o, g, b⟩) rfl _ _ _ _ _ _ rfl (heap_alloc_new _ _) Tryd.underlying82 rfl (by kernel_rfl)) rfl ⟨rfl, ((Below.refl _ _).alloc (Nat.le_refl _) _)⟩
theorem ref_end {fn : Func} {a : Act} {W w : World} {r r' : OpRow} {b b' : Bool} {p u : Tmp} {fr : Nat × Nat} (h : fn.results = #[.cell p 82, .tmp u]) (g : Nat) (hp : a.tmps.getD p undef = .pointer (some ⟨g, 0, none⟩))
    (hg : w.heap[g]? = some (.cells (rowC r) 82 fr)) (hu : a.tmps.getD u undef = .bool b) (hd : a.defers = []) (hr : r = r') (hb' : b = b') (hb : Below W.heap.size W w) :
    bodyPost Tryd.prog fn (fun e w' => e = .returned (.tuple #[.agg (rowC r'), .bool b']) ∧ Below W.heap.size W w') .ret a w := by
  subst hr; subst hb'
  refine bodyPost_ret_by (results_row_tmp h _ _ _ _ _ _ _ hp hg Tryd.underlying82 rfl (by kernel_rfl)) hd ⟨?_, hb⟩
  rw [hu]
theorem drawnN_below (w : World) (n : Nat) : Below w.heap.size w (w.drewN n) := ⟨rfl, rfl, rfl, Nat.le_refl _, fun _ _ => rfl⟩
def wordGo (s : ByteArray) : Nat → Nat → Nat → Int → ByteArray
  | 0, _, fr, _ => s.extract fr s.size
  | n + 1, k, fr, i => if (s.data.getD k 0).toNat ≠ 32 then wordGo s n (k + 1) fr i else if i = 0 then s.extract fr k else wordGo s n (k + 1) (k + 1) (i - 1)
theorem getD_at (s : ByteArray) (k : Nat) (h : k < s.size) : s.data.getD k 0 = s[k] := by
  have : k < s.data.size := h
  rw [Array.getD, dif_pos this]
  rfl
set_option maxHeartbeats 1000000 in
theorem word_any (s : ByteArray) (i : Int) (w : World) (hs : s.size ≤ 1000) (h0 : 0 ≤ i) (h1 : i ≤ 1000) :
    Calls Tryd.prog 82 #[.string s, .int .i64 i] w fun e w' => e = .returned (.string (wordGo s s.size 0 0 i)) ∧ w = w' := by
  go_enter Tryd.func82, Tryd.ntmps82
  go_wp2
  go_loop [1, 5, 6] (fun vi vf vk => ∃ (j : Int) (fr k : Nat), vi = .int .i64 j ∧ vf = .int .i64 fr ∧ vk = .int .i64 k ∧ fr ≤ k ∧ k ≤ s.size ∧ 0 ≤ j ∧ j ≤ 1000 ∧ Hid (wordGo s (s.size - k) k fr j = wordGo s s.size 0 0 i)) (fun _ _ vk => s.size - (intOf vk).toNat)
  case atStart => exact ⟨i, 0, 0, rfl, rfl, rfl, Nat.le_refl _, Nat.zero_le _, h0, h1, Lib.hid rfl⟩
  case round =>
    obtain ⟨j, fr, k, rfl, rfl, rfl, hf, hk, hj0, hj1, HW⟩ := hrel
    by_cases hlt : k < s.size
    · have hstep := HW.out
      rw [show s.size - k = (s.size - (k + 1)) + 1 by omega, wordGo, getD_at s k hlt] at hstep
      by_cases hb : s[k].toNat = 32
      · rw [if_neg (by omega)] at hstep
        have b1 : ((s[k].toNat : Int) != 32) = false := by simp [hb]
        by_cases hz : j = 0
        · subst hz
          rw [if_pos rfl] at hstep
          have HS := Lib.hid hstep
          clear hstep
          go_wp2
          go_ret
          exact ⟨congrArg (fun x => Ending.returned (Value.string x)) HS.out, rfl⟩
        · rw [if_neg hz] at hstep
          have HS := Lib.hid hstep
          clear hstep
          have b2 : (j == 0) = false := beq_eq_false_iff_ne.mpr hz
          clear hb
          go_wp2
          go_round
          case rel => exact ⟨j - 1, k + 1, k + 1, by go_num, by go_num, by go_num, by omega, by omega, by omega, by omega, HS⟩
          case measure => simp [intOf]; omega
      · rw [if_pos hb] at hstep
        have HS := Lib.hid hstep
        clear hstep
        have b1 : ((s[k].toNat : Int) != 32) = true := by simp; omega
        clear hb
        go_wp2
        go_round
        case rel => exact ⟨j, fr, k + 1, rfl, rfl, by go_num, by omega, by omega, by omega, by omega, HS⟩
        case measure => simp [intOf]; omega
    · have hstep := HW.out
      rw [show s.size - k = 0 by omega, wordGo] at hstep
      have HS := Lib.hid hstep
      clear hstep
      go_wp2
      go_ret
      exact ⟨congrArg (fun x => Ending.returned (Value.string x)) HS.out, rfl⟩
end Go.Proofs.YtfjmdffhfjnopaaDoor
