/- Heights: what an answer looks like; Heights asked with types that came in. -/
import Derived.Test.YtfjmdffhfjnopaaDoorFlowL
import Derived.Test.YtfjmdffhfjnopaaDoorFlowG
namespace Vouch
open Go.Vk Go.Proofs.YtfjmdffhfjnopaaDoor
def ErrH (e : Int) : Prop := e = 70 ∨ e = 71 ∨ e = 72 ∨ e = 73 ∨ e = 74
theorem runH_shape (ts : List Ty) (own : Ty) (l : List Ins) : ∀ (f : Nat) (hs : List (Int × Int)), (∃ hs', runH ts own l f hs = (hs', 0, 0) ∧ hs'.length = hs.length + f) ∨ (∃ e n, runH ts own l f hs = ([], e, (l.getD n zeroI).at_) ∧ ErrH e ∧ hs.length ≤ n ∧ n < hs.length + f)
  | 0, hs => .inl ⟨hs, rfl, rfl⟩
  | f + 1, hs => by
    cases hh : headH ts own l hs hs.length with
    | none => exact .inr ⟨73, hs.length, runH_dead hh, .inr (.inr (.inr (.inl rfl))), Nat.le_refl _, by omega⟩
    | some h =>
      by_cases hw : wrongI ts own (l.getD hs.length zeroI) h = 0
      · cases hb : backOK ts own l (hs ++ [h]) hs.length with
        | false => exact .inr ⟨72, hs.length, runH_loop hh hw hb, .inr (.inr (.inl rfl)), Nat.le_refl _, by omega⟩
        | true =>
          rw [runH_step hh hw hb]
          rcases runH_shape ts own l f (hs ++ [h]) with ⟨hs', h1, h2⟩ | ⟨e, n, h1, h2, h3, h4⟩
          · exact .inl ⟨hs', h1, by rw [h2]; simp; omega⟩
          · simp at h3 h4
            exact .inr ⟨e, n, h1, h2, by omega, by omega⟩
      · refine .inr ⟨wrongI ts own (l.getD hs.length zeroI) h, hs.length, runH_wrong hh hw, ?_, Nat.le_refl _, by omega⟩
        have := wrongI_cases ts own (l.getD hs.length zeroI) h
        unfold ErrH
        omega
/-- Every answer: not asked rightly; heights of all instructions; or an error at one of them. -/
theorem heightsE_shape (ts : List Ty) (s : Int) (bs : List Int) : (mayB ts s bs = false ∧ heightsE ts s bs = ([], 1, 0)) ∨ (mayB ts s bs = true ∧ ∃ hs, heightsE ts s bs = (hs, 0, 0) ∧ hs.length = (allI bs).length) ∨
    (mayB ts s bs = true ∧ ∃ e n, heightsE ts s bs = ([], e, ((allI bs).getD n zeroI).at_) ∧ ErrH e ∧ n < (allI bs).length) := by
  cases hm : mayB ts s bs with
  | false =>
    refine .inl ⟨rfl, ?_⟩
    unfold heightsE
    rw [hm]
    rfl
  | true =>
    have e : heightsE ts s bs = runH ts (tyAt ts s) (allI bs) (allI bs).length [] := by unfold heightsE; rw [if_pos hm]
    rw [e]
    rcases runH_shape ts (tyAt ts s) (allI bs) (allI bs).length [] with ⟨hs, h1, h2⟩ | ⟨e, n, h1, h2, _, h4⟩
    · exact .inr (.inl ⟨rfl, hs, h1, by simpa using h2⟩)
    · exact .inr (.inr ⟨rfl, e, n, h1, h2, by simpa using h4⟩)
theorem at_bound {bs : List Int} {n : Nat} (h : n < (allI bs).length) : 0 ≤ ((allI bs).getD n zeroI).at_ ∧ ((allI bs).getD n zeroI).at_ < bs.length := by
  obtain ⟨q, hq, _⟩ := allI_reads bs
  have hm : (allI bs).getD n zeroI ∈ allI bs := by rw [List.getD_eq_getElem?_getD, List.getElem?_eq_getElem h]; exact List.getElem_mem h
  have h1 := reads_lt hq _ hm
  have h2 := reads_pos hq
  omega
def triTy (t : Tri) : Ty := ⟨t.1, t.2.1, t.2.2⟩
end Vouch
namespace Go.Vk
theorem own_lit (w : World) (B : Nat) (t : TypeId) (size n : Nat) (cs : Array Value) (hB : B ≤ w.heap.size) (hs : cs.size = n * size) (hn : n ≤ maxLen) : (w.alloc (.cells cs t)).ownsRow B t size (.slice (some ⟨w.heap.size, 0, none⟩) n n) n cs.toList :=
  ⟨by simpa using hs, .inr ⟨w.heap.size, n, cs, rfl, hB, heap_alloc_new w _, Nat.le_refl _, hn, hs, List.take_of_length_le (by simp [hs])⟩⟩
end Go.Vk
namespace Go.Proofs.YtfjmdffhfjnopaaDoor
open Go.RowKit Vouch Go.Vk Go.Sort
theorem tyT_triTy (ls : List Tri) : (ls.map triTy).map tyT = ls := by
  rw [List.map_map]
  exact List.map_id'' (fun _ => rfl) ls
theorem tys_tri {w : World} {A : Option Addr} {ls : List Tri} (h : TriAt w A ls) : TysAt w A (ls.map triTy) := tys_of_tri (by rw [tyT_triTy]; exact h)
theorem heights_tri (ls : List Tri) (A : Option Addr) (capT : Nat) (s : Int) (bs : List Int) (B : Option Addr) (capB : Nat) (w : World) (ht : TriAt w A ls) (hc : IntsAt w .u8 B bs) (hz : ∀ z ∈ bs, 0 ≤ z ∧ z < 256) (hn : bs.length ≤ 1048576) (hcap : bs.length ≤ capB) (htn : ls.length ≤ 1048576) :
    Calls Tryd.prog 16 #[.slice A ls.length capT, .int .i64 s, .slice B bs.length capB] w (HeightsOut (ls.map triTy) s bs w) := by
  have := heights_any (ls.map triTy) A capT s bs B capB w (tys_tri ht) hc hz hn hcap (by simpa using htn)
  rwa [List.length_map] at this
set_option maxRecDepth 100000 in
theorem heights_none (n : Nat) (A : Option Addr) (capT : Nat) (s : Int) (v : Value) (w : World) (hs : ¬ (0 ≤ s ∧ s < n)) :
    Calls Tryd.prog 16 #[.slice A n capT, .int .i64 s, v] w fun e w' => e = .returned (.tuple #[.slice none 0 0, .int .i64 1, .int .i64 0]) ∧ Below w.heap.size w w' := by
  by_cases h0 : s < 0
  · have hr : Calls Tryd.prog 35 #[.slice A n capT, .int .i64 s, v] w fun e w' => e = .returned (.tuple #[.pointer none, .bool false]) ∧ w' = w := by
      refine (callsIn_wide (n := 8)).1 ?_
      refine callsIn_of_wp_marks Tryd.func35 rfl trivial ?_ rfl
      simp only [Tryd.ntmps35, List.size_toArray, List.length_cons, List.length_nil, Nat.reduceAdd, Nat.reduceSub, Array.replicate_succ, Array.replicate_zero, List.push_toArray, List.append_toArray, List.nil_append, List.cons_append]
      refine wpIn_wide.2 ?_
      go_wp2
      exact ⟨_, results_tmp2 rfl _ _ _, rfl, rfl⟩
    go_enter Tryd.func16, Tryd.ntmps16
    go_wp2_with (go_at_call 35; refine hr.mono ?_; rintro e w1 ⟨rfl, rfl⟩)
    exact bodyPost_ret (results_tmp3 rfl _ _ _) rfl ⟨rfl, Below.refl _ _⟩
  · have h1 : (n : Int) ≤ s := by omega
    have hr : Calls Tryd.prog 35 #[.slice A n capT, .int .i64 s, v] w fun e w' => e = .returned (.tuple #[.pointer none, .bool false]) ∧ w' = w := by
      refine (callsIn_wide (n := 8)).1 ?_
      refine callsIn_of_wp_marks Tryd.func35 rfl trivial ?_ rfl
      simp only [Tryd.ntmps35, List.size_toArray, List.length_cons, List.length_nil, Nat.reduceAdd, Nat.reduceSub, Array.replicate_succ, Array.replicate_zero, List.push_toArray, List.append_toArray, List.nil_append, List.cons_append]
      refine wpIn_wide.2 ?_
      go_wp2
      exact ⟨_, results_tmp2 rfl _ _ _, rfl, rfl⟩
    go_enter Tryd.func16, Tryd.ntmps16
    go_wp2_with (go_at_call 35; refine hr.mono ?_; rintro e w1 ⟨rfl, rfl⟩)
    exact bodyPost_ret (results_tmp3 rfl _ _ _) rfl ⟨rfl, Below.refl _ _⟩
end Go.Proofs.YtfjmdffhfjnopaaDoor
