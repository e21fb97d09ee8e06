/- vouchref4.All returns a new list of the rows of the codes from 0 to 255 that have one, in order. -/
import Derived.Test.YtchhbifldfnppaaDoorRefF
import Derived.Test.YtchhbifldfnppaaDoorIterB
import Derived.Maps.AppendAt
import Derived.Laws.AppendOwn
namespace Go.Proofs.YtchhbifldfnppaaDoor
open Go.RowKit Vouch Go.Vk
theorem infoOp : (Tryd.prog.info? 24).map (fun i => (i.zero, i.size, i.bytes)) = some (some (.agg (rowC zeroR)), 7, 64) := by kernel_rfl
theorem cells_new (w : World) (cs : Array Value) (t : TypeId) : ∀ j u, cs.toList[j]? = some u → (w.alloc (.cells cs t)).cell? ((⟨w.heap.size, 0, none⟩ : Addr).add j) = some u := by
  intro j u hj
  have e : (⟨w.heap.size, 0, none⟩ : Addr).add j = ⟨w.heap.size, j, none⟩ := by unfold Addr.add; split <;> simp_all
  rw [e, World.cell?_alloc_new]
  simpa using hj
theorem own_later {W W' : World} {B e size n : Nat} {v : Value} {xs : List Value} (h : W.ownsRow B e size v n xs) (hb : Below W.heap.size W W') : W'.ownsRow B e size v n xs := by
  obtain ⟨h1, h2⟩ := h
  refine ⟨h1, ?_⟩
  rcases h2 with h2 | ⟨g, cap, cur, rfl, hg, hh, r⟩
  · exact .inl h2
  · exact .inr ⟨g, cap, cur, rfl, hg, (hb.block g (Array.getElem?_eq_some_iff.1 hh).1).trans hh, r⟩
theorem own_bel {w W W' : World} {e size n : Nat} {v : Value} {xs : List Value} (h : Below w.heap.size w W) (ho : W.ownsRow w.heap.size e size v n xs) (hg : W.grownBy W' v.ownBlock) : Below w.heap.size w W' := by
  refine h.grown hg h.size (fun k e => ?_)
  rcases ho.2 with ⟨rfl, _⟩ | ⟨g, cap, cur, rfl, hb, _⟩
  · cases e
  · cases e; exact hb
theorem cells_new' (w : World) (cs : Array Value) (t : TypeId) (n : Nat) (hn : n = w.heap.size) : ∀ j u, cs.toList[j]? = some u → (w.alloc (.cells cs t)).cell? ((⟨n, 0, none⟩ : Addr).add j) = some u := by
  subst hn; exact cells_new w cs t
theorem rowC_ones (r : OpRow) : ∀ u ∈ (rowC r).toList, u.oneCell' = true := by
  intro u hu
  simp [rowC] at hu
  rcases hu with rfl | rfl | rfl | rfl | rfl | rfl | rfl <;> rfl
def opCells (l : List OpRow) : List Value := l.flatMap fun r => (rowC r).toList
theorem opCells_snoc (l : List OpRow) (r : OpRow) : opCells (l ++ [r]) = opCells l ++ (rowC r).toList := by simp [opCells]
def OwnsOps (n : Nat) (e : Ending) (w : World) : Prop := ∃ v, e = .returned v ∧ w.ownsRow n 24 7 v allOps.length (opCells allOps)
set_option maxHeartbeats 1000000 in
set_option maxRecDepth 100000 in
theorem refall_any (w : World) :
    Calls Tryd.prog 12 #[] w fun e w' => OwnsOps w.heap.size e w' ∧ Below w.heap.size w w' := by
  obtain ⟨i0, hi, hz0, hz1, hz2⟩ := info_parts infoOp
  go_enter Tryd.func12, Tryd.ntmps12
  go_wp2
  go_loopw [1, 2] (fun vl vc wr => ∃ c : Nat, vc = .int .i64 c ∧ c ≤ 256 ∧ wr.ownsRow w.heap.size 24 7 vl (upto c).length (opCells (upto c)) ∧ Below w.heap.size w wr) (fun _ vc _ => 256 - (intOf vc).toNat)
  case atStart => exact ⟨0, rfl, Nat.zero_le _, World.ownsRow_nil _ _ _ _, Below.refl _ _⟩
  case round =>
    obtain ⟨c, rfl, hc, hown, hB⟩ := hrel
    by_cases hlt : c < 256
    · have hs := upto_succ c
      by_cases hop : isOp (c : Int) = true
      · rw [if_pos hop] at hs
        have hlen : (upto c).length ≤ 152 := by
          have h1 := (upto_prefix (c + 1) (by omega)).length_le
          rw [hs, List.length_append, show allOps.length = 153 from allOps_length] at h1
          simp at h1
          omega
        have HS := Lib.hid hs
        clear hs
        go_wp2_with (first
          | (go_at_call 9; refine (rof_any _ _).mono ?_; unfold rowC; rintro e w1 ⟨rfl, hb⟩; have hB1 := hB.trans (hb.mono hB.size); have hown1 := own_later hown hb)
          | (at_builtin; refine wpList_append_own _ rfl _ _ 29 rfl w.heap.size 24 i0 (.agg (rowC zeroR)) 7 64 Tryd.underlying29 hi hz0 hz1 hz2 rfl (by decide) _ _ _ rfl ((hown1.alloc _).alloc _) ⟨w1.heap.size + 1, 0, none⟩ 1 1 (rowC (opR c)).toList rfl rfl ?c1 ?c2 ?c3 ?c4 ?c5 ?_))
        case c1 => exact cells_new' _ (rowC (opR c)) 24 _ (by simp)
        case c2 => exact rowC_ones _
        case c3 => unfold maxLen; omega
        case c4 => omega
        case c5 => simp; have := hB1.size; omega
        intro v' w2 hown2 hgrow _
        have hB2 := own_bel ((hB1.alloc hB1.size (.cells (rowC (opR c)) 24)).alloc (by simp; have := hB1.size; omega) (.cells (rowC (opR c)) 24)) ((hown1.alloc _).alloc _) hgrow
        clear hgrow
        go_wp2
        go_roundw
        case rel => exact ⟨c + 1, by go_num, by omega, by rw [HS.out, opCells_snoc, List.length_append]; exact hown2, hB2⟩
        case measure => simp [intOf]; omega
      · have hop : isOp (c : Int) = false := by simpa using hop
        rw [hop] at hs
        simp only [Bool.false_eq_true, if_false, List.append_nil] at hs
        have HS := Lib.hid hs
        clear hs
        go_wp2_with (go_at_call 9; refine (rof_any _ _).mono ?_; unfold rowC; rintro e w1 ⟨rfl, hb⟩; have hB1 := hB.trans (hb.mono hB.size); have hown1 := own_later hown hb)
        go_roundw
        case rel => exact ⟨c + 1, by go_num, by omega, by rw [HS.out]; exact hown1.alloc _, hB1.alloc hB1.size _⟩
        case measure => simp [intOf]; omega
    · obtain rfl : c = 256 := by omega
      go_wp2
      go_ret
      exact ⟨⟨_, rfl, hown⟩, hB⟩
end Go.Proofs.YtchhbifldfnppaaDoor
