/- vouchref4.ByName returns the row of that name, and whether there is one, for every name. -/
import Derived.Test.YtchhbifldfnppaaDoorRefG
import Derived.Deep.MidRow
namespace Go.Proofs.YtchhbifldfnppaaDoor
open Go.RowKit Vouch Go.Vk
theorem opCells_at : ∀ (l : List OpRow) (i : Nat) (h : i < l.length) (j : Nat), j < 7 → (opCells l)[i * 7 + j]? = (rowC l[i]).toList[j]?
  | [], i, h, _, _ => by simp at h
  | r :: l, 0, _, j, hj => by
    show ((rowC r).toList ++ opCells l)[0 * 7 + j]? = _
    rw [List.getElem?_append_left (by simp [rowC]; omega)]
    simp
  | r :: l, i + 1, h, j, hj => by
    show ((rowC r).toList ++ opCells l)[(i + 1) * 7 + j]? = _
    rw [List.getElem?_append_right (by simp [rowC]; omega)]
    have e : (i + 1) * 7 + j - (rowC r).toList.length = i * 7 + j := by simp [rowC]; omega
    rw [e, opCells_at l i (by simpa using h) j hj]
    simp
theorem ops_cell {W : World} {g t : Nat} {cur : Array Value} {l : List OpRow} (hcur : W.heap[g]? = some (.cells cur t (0, 0))) (htk : cur.toList.take (l.length * 7) = opCells l) (i : Nat) (h : i < l.length) (j : Nat) (hj : j < 7) :
    W.cell? ⟨g, i * 7 + j, none⟩ = (rowC l[i]).toList[j]? := by
  have h1 : W.cell? ⟨g, i * 7 + j, none⟩ = cur[i * 7 + j]? := by simp [World.cell?, hcur]
  rw [h1, ← opCells_at l i h j hj, ← htk, List.getElem?_take]
  rw [if_pos (by omega)]
  simp
theorem ops_cells {W : World} {g t : Nat} {cur : Array Value} {l : List OpRow} (hcur : W.heap[g]? = some (.cells cur t (0, 0))) (htk : cur.toList.take (l.length * 7) = opCells l) (i : Nat) (h : i < l.length) (r : OpRow) (hr : l[i] = r) :
    W.cell? ⟨g, i * 7, none⟩ = some (.int .i64 r.code) ∧ W.cell? ⟨g, i * 7 + 1, none⟩ = some (.string r.name) ∧ W.cell? ⟨g, i * 7 + 2, none⟩ = some (.int .i64 r.imm) ∧ W.cell? ⟨g, i * 7 + 3, none⟩ = some (.int .i64 r.inn) ∧
      W.cell? ⟨g, i * 7 + 4, none⟩ = some (.int .i64 r.out) ∧ W.cell? ⟨g, i * 7 + 5, none⟩ = some (.int .i64 r.gas) ∧ W.cell? ⟨g, i * 7 + 6, none⟩ = some (.bool r.ends) := by
  subst hr
  exact ⟨ops_cell hcur htk i h 0 (by omega), ops_cell hcur htk i h 1 (by omega), ops_cell hcur htk i h 2 (by omega), ops_cell hcur htk i h 3 (by omega), ops_cell hcur htk i h 4 (by omega), ops_cell hcur htk i h 5 (by omega), ops_cell hcur htk i h 6 (by omega)⟩
set_option maxHeartbeats 1000000 in
set_option maxRecDepth 100000 in
theorem rbyname_any (nm : ByteArray) (w : World) :
    Calls Tryd.prog 14 #[.string nm] w fun e w' => e = .returned (.tuple #[.agg (rowC ((byName nm).getD zeroR)), .bool (byName nm).isSome]) ∧ Below w.heap.size w w' := by
  go_enter Tryd.func14, Tryd.ntmps14
  go_wp2_with (go_at_call 12; refine (refall_any _).mono ?_; rintro e w1 ⟨⟨v, rfl, hown⟩, hb⟩)
  have hg := kept_new hb
  obtain ⟨g, cap, cur, rfl, hbg, hcur, hn, hcm, hsz, htk⟩ : ∃ g cap cur, v = .slice (some ⟨g, 0, none⟩) allOps.length cap ∧ w.heap.size + 1 ≤ g ∧ w1.heap[g]? = some (.cells cur 24 (0, 0)) ∧ allOps.length ≤ cap ∧ cap ≤ maxLen ∧ cur.size = cap * 7 ∧ cur.toList.take (allOps.length * 7) = opCells allOps := by
    rcases hown.2 with ⟨_, h⟩ | ⟨g, cap, cur, h1, h2, h3⟩
    · rw [show allOps.length = 153 from allOps_length] at h; cases h
    · exact ⟨g, cap, cur, h1, by simpa using h2, h3⟩
  have hlen : allOps.length = 153 := allOps_length
  have hmax : allOps.length ≤ 200 := by omega
  clear hlen
  go_loop [5] (fun vi => ∃ i : Nat, vi = .int .i64 i ∧ i ≤ allOps.length ∧ ∀ r ∈ allOps.take i, (r.name.toList == nm.toList) = false) (fun vi => allOps.length - (intOf vi).toNat)
  case atStart => exact ⟨0, rfl, Nat.zero_le _, by simp⟩
  case round =>
    obtain ⟨i, rfl, hi, hpre⟩ := hrel
    have HP := Lib.hid hpre
    clear hpre
    by_cases hlt : i < allOps.length
    · obtain ⟨r, hr⟩ : ∃ r, allOps[i] = r := ⟨_, rfl⟩
      obtain ⟨q0, q1, q2, q3, q4, q5, q6⟩ := ops_cells hcur htk i hlt r hr
      obtain ⟨p0, p1, p2, p3, p4, p5, p6, pz, pl⟩ := cells7 hg
      cases e : r.name.toList == nm.toList with
      | true =>
        have hfn : byName nm = some r := by
          unfold byName
          rw [← List.take_append_drop i allOps, List.find?_append, List.find?_eq_none.2 (fun x hx => by simp [HP.out x hx]), List.drop_eq_getElem_cons hlt, hr]
          simp [e]
        have HF := Lib.hid hfn
        clear hfn
        have HR := Lib.hid hr
        clear hr
        go_wp2
        rw [set7_eq hg]
        refine ref_end (r := r) rfl _ rfl (setRow_heap _ _ _ _ _ _ hg) rfl rfl (by rw [HF.out]; rfl) (by rw [HF.out]; rfl) (below_setRow (((Below.refl _ _).alloc (Nat.le_refl _) _).trans (hb.mono (by simp))) (Nat.le_refl _) _)
      | false =>
        have hnext : ∀ x ∈ allOps.take (i + 1), (x.name.toList == nm.toList) = false := by
          intro x hx
          rw [List.take_succ_eq_append_getElem hlt] at hx
          rcases List.mem_append.1 hx with hx | hx
          · exact HP.out x hx
          · rw [List.mem_singleton.1 hx, hr]; exact e
        have HN := Lib.hid hnext
        clear hnext
        have HR := Lib.hid hr
        clear hr
        go_wp2
        go_round
        case rel => exact ⟨i + 1, by go_num, by omega, HN.out⟩
        case measure => simp [intOf]; omega
    · obtain rfl : i = allOps.length := by omega
      have hfn : byName nm = none := by
        unfold byName
        rw [List.find?_eq_none]
        intro x hx
        simp [HP.out x (by rw [List.take_length]; exact hx)]
      have HF := Lib.hid hfn
      clear hfn
      obtain ⟨p0, p1, p2, p3, p4, p5, p6, pz, pl⟩ := cells7 hg
      go_wp2
      rw [set7_eq hg]
      exact ref_end (r := zeroR) rfl _ rfl (setRow_heap _ _ _ _ _ _ hg) rfl rfl (by rw [HF.out]; rfl) (by rw [HF.out]; rfl) (below_setRow (((Below.refl _ _).alloc (Nat.le_refl _) _).trans (hb.mono (by simp))) (Nat.le_refl _) _)
end Go.Proofs.YtchhbifldfnppaaDoor
