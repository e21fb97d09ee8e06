/- vouchlaw4.OpNamed returns true for every slice of names; nothing that lay there is changed. -/
import Derived.Test.YtchhbifldfnppaaDoorRefH
import Derived.Test.YtchhbifldfnppaaDoorOfLaw
import Derived.Test.YtchhbifldfnppaaDoorOpenS
namespace Go.Proofs.YtchhbifldfnppaaDoor
open Go.RowKit Vouch Go.Vk
theorem names_any : ∀ i : Fin 256, isOp (i.1 : Int) = true → (!(opR (i.1 : Int)).name.toList.isEmpty) = true := fun _ h => h
theorem byName_empty (nm : ByteArray) (h : nm.toList.isEmpty = true) : byName nm = none := by
  unfold byName
  rw [List.find?_eq_none]
  intro r hr
  unfold allOps upto at hr
  obtain ⟨i, hi, rfl⟩ := List.mem_map.1 hr
  have h2 := (List.mem_filter.1 hi).2
  unfold isOp at h2
  have h3 : nm.toList = [] := by simpa using h
  rw [h3]
  intro h4
  have h5 : (opR (i : Int)).name.toList = [] := by simpa using h4
  rw [h5] at h2
  simp at h2
set_option maxHeartbeats 1000000 in
theorem byname_all (nm : ByteArray) (w : World) :
    Calls Tryd.prog 15 #[.string nm] w fun e w' => e = .returned (.tuple #[.agg (rowC ((byName nm).getD zeroR)), .bool (byName nm).isSome]) ∧ Below w.heap.size w w' := by
  cases h : nm.toList.isEmpty with
  | false => exact byname_any nm w h
  | true =>
    have e := byName_empty nm h
    rw [e]
    clear e
    go_enter Tryd.func15, Tryd.ntmps15
    go_wp2
    have b3 : (((w.alloc (.cells #[.string nm] 9)).alloc (.cells (rowC zeroR) 24)).alloc (.cells #[.bool false] 4)).heap[w.heap.size + 1 + 1]? = some (.cells #[.bool false] 4) := by
      have := heap_alloc_new ((w.alloc (.cells #[.string nm] 9)).alloc (.cells (rowC zeroR) 24)) (.cells #[.bool false] 4)
      simpa using this
    have b2 : (((w.alloc (.cells #[.string nm] 9)).alloc (.cells (rowC zeroR) 24)).alloc (.cells #[.bool false] 4)).heap[w.heap.size + 1]? = some (.cells (rowC zeroR) 24) := by
      rw [Below.heap_alloc _ _ _ (by simp)]
      have := heap_alloc_new (w.alloc (.cells #[.string nm] 9)) (.cells (rowC zeroR) 24)
      simpa using this
    have hB0 : Below w.heap.size w (((w.alloc (.cells #[.string nm] 9)).alloc (.cells (rowC zeroR) 24)).alloc (.cells #[.bool false] 4)) := (((Below.refl _ _).alloc (Nat.le_refl _) _).alloc (by simp) _).alloc (by simp; omega) _
    refine bodyPost_ret_by (byname_end rfl rfl (r := zeroR) (b := false) b2 b3) rfl ⟨rfl, hB0⟩
set_option maxHeartbeats 4000000 in
set_option maxRecDepth 100000 in
theorem opnamed_walk (A : Option Addr) (cap : Nat) (ss : List ByteArray) (w : World) (hc : StrsAt w A ss) (hwf : ∀ s ∈ ss, s.size ≤ 140737488351232) (hm : ss.length ≤ 140737488351232) :
    Calls Tryd.prog 5 #[.slice A ss.length cap] w fun e w' => e = .returned (.bool true) ∧ Below w.heap.size w w' := by
  have HC := Lib.hid hc
  have HW := Lib.hid hwf
  clear hc hwf
  go_enter Tryd.func5, Tryd.ntmps5
  go_wp2
  go_loopw [3, 4] (fun vn vi wr => ∃ n i : Nat, vn = .int .i64 n ∧ vi = .int .i64 i ∧ i ≤ ss.length ∧ n ≤ 5000 ∧ Below w.heap.size w wr) (fun _ vi _ => ss.length - (intOf vi).toNat)
  case atStart => exact ⟨0, 0, rfl, rfl, Nat.zero_le _, by omega, Below.refl _ _⟩
  case round =>
    obtain ⟨n, i, rfl, rfl, hi, hn, hB⟩ := hrel
    by_cases hlt : i < ss.length
    · obtain ⟨x, rfl, hx⟩ := HC.out i hlt
      have hxr := cell_later hB hx
      have hle : (ss.getD i ByteArray.empty).size ≤ 140737488351232 := by
        refine HW.out _ ?_
        simp [List.getD_eq_getElem?_getD, hlt]
      generalize ss.getD i ByteArray.empty = s at hx hxr hle
      by_cases hbig : n + (s.size + 1) ≤ 5000
      · go_wp2
        exact ⟨⟨n + (s.size + 1), i + 1, by go_num, by go_num, by omega, hbig, hB⟩, by simp [intOf]; omega⟩
      · go_wp2
        go_ret
        exact ⟨rfl, hB⟩
    · clear hn
      go_wp2
      go_loopw [5] (fun vi wr => ∃ i : Nat, vi = .int .i64 i ∧ i ≤ ss.length ∧ Below w.heap.size w wr) (fun vi _ => ss.length - (intOf vi).toNat)
      case atStart => exact ⟨0, rfl, Nat.zero_le _, hB⟩
      case round =>
        clear hB hlt hi
        obtain ⟨i, rfl, hi, hB⟩ := hrel
        by_cases hlt : i < ss.length
        · obtain ⟨x, rfl, hx⟩ := HC.out i hlt
          have hxr := cell_later hB hx
          generalize ss.getD i ByteArray.empty = s at hx hxr
          have HX := Lib.hid hx
          clear hx
          go_wp2_with (go_at_call 14; refine (rbyname_any _ _).mono ?_; unfold rowC; rintro e w1 ⟨rfl, hb⟩)
          have hB1 := hB.trans (hb.mono hB.size)
          have hs1 := hB1.size
          have hgn : (w1.alloc (.cells (rowC ((byName s).getD zeroR)) 24)).heap[w1.heap.size]? = some (.cells (rowC ((byName s).getD zeroR)) 24) := heap_alloc_new _ _
          have hB2 : Below w.heap.size w (w1.alloc (.cells (rowC ((byName s).getD zeroR)) 24)) := hB1.alloc hs1 _
          go_loopw [8] (fun vj wr => ∃ j : Nat, vj = .int .i64 j ∧ j ≤ 2 ∧ Below w.heap.size w wr ∧ wr.heap[w1.heap.size]? = some (.cells (rowC ((byName s).getD zeroR)) 24)) (fun vj _ => 2 - (intOf vj).toNat)
          case atStart => exact ⟨0, rfl, by omega, hB2, hgn⟩
          case round =>
            clear hgn hB2 hxr hb
            obtain ⟨j, rfl, hj, hB3, hg⟩ := hrel
            have hxr := cell_later hB3 HX.out
            by_cases hj2 : j < 2
            · go_wp2_with (go_at_call 15; refine (byname_all _ _).mono ?_; unfold rowC; rintro e w2 ⟨rfl, hb2⟩; have hg2 := kept_of hb2 hg; obtain ⟨hq0, hq1, hq2, hq3, hq4, hq5, hq6, hqz, hql⟩ := cells7 hg2)
              have hB4 := hB3.trans (hb2.mono hB3.size)
              exact ⟨⟨j + 1, by go_num, by omega, hB4.alloc hB4.size _, (Below.heap_alloc _ _ _ hql).trans hg2⟩, by simp [intOf]; omega⟩
            · go_wp2
              exact ⟨⟨i + 1, by go_num, by omega, hB3⟩, by simp [intOf]; omega⟩
        · go_wp2_with (go_at_call 11; refine (awake_any _).mono ?_; rintro e w1 ⟨rfl, hb⟩)
          go_ret
          exact ⟨rfl, hB.trans (hb.mono hB.size)⟩
end Go.Proofs.YtchhbifldfnppaaDoor
