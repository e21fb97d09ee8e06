/- vouchref6.Starts, vouchref6.Check: the document's answers. -/
import Derived.Test.YthjnjdpiihpgeaaDoorRefScan6
import Derived.Test.YthjnjdpiihpgeaaDoorRLeads6
import Derived.Test.YthjnjdpiihpgeaaDoorCheck6
namespace Go.Proofs.YthjnjdpiihpgeaaDoor
open Go.RowKit Vouch Go.Vk Go.Sort
theorem take_fst {xs : List El} {k : Nat} {y : El} (hy : xs[k]? = some y) : (xs.map Prod.fst).take (k + 1) = (xs.map Prod.fst).take k ++ [y.1] := by
  obtain ⟨hk, rfl⟩ := List.getElem?_eq_some_iff.1 hy
  rw [List.take_succ_eq_append_getElem (by simpa using hk)]
  simp
set_option maxHeartbeats 1000000 in
set_option maxRecDepth 100000 in
theorem refstarts_any (bs : List Int) (A : Option Addr) (cap : Nat) (w : World) (hc : IntsAt w .u8 A bs) (hz : ∀ z ∈ bs, 0 ≤ z ∧ z < 256) (hn : bs.length ≤ 4294967296) :
    Calls Tryd.prog 35 #[.slice A bs.length cap] w (StartsOut bs w) := by
  have hmk := run_make_row' (P := Tryd.prog) 45 4 (.bool false) 1 Tryd.underlying45 (by kernel_rfl) rfl .i64 .i64 bs.length (by omega) (by omega)
  have b0 := World.rowIs_made w (.bool false) bs.length 4
  have hb0 : Below w.heap.size w (w.alloc (.cells (madeCells #[.bool false] bs.length) 4)) := (Below.refl _ _).alloc (Nat.le_refl _) _
  have HA := Lib.hid (refall_any bs A cap _ (ints_below hb0 hc) hz hn)
  clear hc hz
  go_enter Tryd.func35, Tryd.ntmps35
  go_wp2_with (go_at_call 36; refine stop_o ?_)
  have hsz : (w.alloc (.cells (madeCells #[.bool false] bs.length) 4)).heap.size = w.heap.size + 1 := by simp
  unfold StopO
  refine HA.out.mono ?_
  rintro e w1 ⟨xs, v, hall, rfl, hown, hrows, hB⟩
  have b1 := row_below b0 hB
  have hB1 := hb0.trans (hB.mono hb0.size)
  rw [hsz] at hown
  have HALL := Lib.hid hall
  obtain ⟨p, hrd, hne⟩ := hall
  have hxl := reads_length hrd
  rw [List.length_map] at hxl
  have HRD := Lib.hid hrd
  obtain ⟨X, c, rfl⟩ := owns_shape hown
  clear hmk b0 hb0 hB hrows hrd hne
  go_wp2
  go_loopw [5] (fun vk wr => ∃ k : Nat, vk = .int .i64 k ∧ k ≤ xs.length ∧ wr.rowIs w.heap.size 4 bs.length (fun j => .bool (startAt ((xs.map Prod.fst).take k) j)) ∧ wr.ownsRow (w.heap.size + 1) 34 4 (.slice X xs.length c) xs.length (insCells xs) ∧ Below w.heap.size w wr) (fun vk _ => xs.length - (intOf vk).toNat)
  case atStart => exact ⟨0, rfl, Nat.zero_le _, b1.congr (fun j hj => by simp [startAt]), hown, hB1⟩
  case round =>
    clear b1 hown hB1
    obtain ⟨k, rfl, hk, hrow, hown, hB⟩ := hrel
    by_cases hlt : k < xs.length
    · obtain ⟨⟨i, yv⟩, hy⟩ : ∃ y, xs[k]? = some y := ⟨_, List.getElem?_eq_getElem hlt⟩
      obtain ⟨hr1, _⟩ := insCells_at hy
      dsimp only at hr1
      obtain ⟨gl, rfl⟩ := own_head hown (by omega)
      obtain ⟨q, hq1, hq2⟩ : ∃ q, Reads bs ((xs.take k).map Prod.fst) q ∧ readE bs q = (0, i) := reads_at HRD.out hy
      obtain ⟨hq0, hqn, hq5, hat, hnx, hil⟩ := read_next hq2
      obtain ⟨a, ha⟩ : ∃ a : Nat, i.at_ = a := ⟨i.at_.toNat, by omega⟩
      have hab : a < bs.length := by omega
      have c0 := (hown.cellAt (k * 4) (by omega)).trans hr1
      rw [ha] at c0
      have r0 := hrow.cell hab
      have z0 := hrow.frozen a
      have hT := take_fst hy
      have HT := Lib.hid hT
      have HA2 := Lib.hid ha
      have HROW := Lib.hid hrow
      have HOWN := Lib.hid hown
      have h1 : (k : Int) < (xs.length : Int) := by omega
      have h2 : (a : Int) < (bs.length : Int) := by omega
      clear hq1 hq2 hat hnx hr1 hy hT ha hrow hown
      go_wp2
      refine ⟨⟨k + 1, by go_num, by omega, (HROW.out.set a (.bool true)).congr ?_, own_setOther HOWN.out (by dsimp only; omega) _, hB.setCell (by dsimp only; omega) _⟩, by simp [intOf]; omega⟩
      intro j hj
      rw [HT.out, startAt_snoc]
      have := HA2.out
      by_cases e : j = a
      · subst e; simp [this]
      · rw [if_neg e, this, show ((a : Int) == (j : Int)) = false by simp; omega]
        simp
    · obtain rfl : xs.length = k := by omega
      have HROW := Lib.hid hrow
      go_wp2
      go_ret
      refine ⟨rfl, xs, HALL.out, HROW.out.congr (fun j hj => ?_), hB⟩
      rw [List.take_of_length_le (by simp)]
end Go.Proofs.YthjnjdpiihpgeaaDoor
