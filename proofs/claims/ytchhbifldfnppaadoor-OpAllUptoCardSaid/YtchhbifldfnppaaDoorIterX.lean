/- op.All's iterator, told of the codes that have a row: what is yielded is an OpIx. And what the table's rows keep. -/
import Derived.Test.YtchhbifldfnppaaDoorNamed
namespace Go.Proofs.YtchhbifldfnppaaDoor
open Go.RowKit Vouch Go.Vk Go.Shelf
attribute [local go_sem] Oper.semAt_some
/-- A code that has a row. -/
def OpIx : Type := { k : Nat // k < 256 ∧ isOp (k : Int) = true }
def OpIx.row (x : OpIx) : OpRow := opR (x.1 : Int)
def ixOf (i : Nat) : Option OpIx := if h : i < 256 ∧ isOp (i : Int) = true then some ⟨i, h⟩ else none
def uptoX (k : Nat) : List OpIx := (List.range k).filterMap ixOf
def allIx : List OpIx := uptoX 256
theorem ixOf_val {i : Nat} {x : OpIx} (h : ixOf i = some x) : x.1 = i := by
  unfold ixOf at h
  split at h
  · cases h; rfl
  · cases h
theorem uptoX_succ (k : Nat) : uptoX (k + 1) = uptoX k ++ (ixOf k).toList := by
  unfold uptoX
  rw [List.range_succ, List.filterMap_append]
  congr 1
theorem allIx_length : allIx.length = 153 := by decide +kernel
theorem uptoX_prefix (k : Nat) (h : k ≤ 256) : uptoX k <+: allIx := by
  obtain ⟨d, hd⟩ : ∃ d, d + k = 256 := ⟨256 - k, by omega⟩
  unfold allIx
  rw [← hd]
  clear hd h
  induction d with
  | zero => simp
  | succ d ih =>
    rw [show d + 1 + k = (d + k) + 1 by omega, uptoX_succ]
    exact ih.trans (List.prefix_append _ _)
theorem uptoX_rows (k : Nat) (h : k ≤ 256) : (uptoX k).map OpIx.row = upto k := by
  induction k with
  | zero => rfl
  | succ k ih =>
    rw [uptoX_succ, upto_succ, List.map_append, ih (by omega)]
    congr 1
    unfold ixOf
    by_cases ho : isOp (k : Int) = true
    · rw [dif_pos ⟨by omega, ho⟩, if_pos ho]; rfl
    · rw [dif_neg (fun h => ho h.2), if_neg ho]; rfl
theorem allIx_rows : allIx.map OpIx.row = allOps := uptoX_rows 256 (Nat.le_refl _)
theorem uptoX_lt (k : Nat) : ∀ y ∈ uptoX k, y.1 < k := by
  intro y hy
  unfold uptoX at hy
  obtain ⟨i, hi, he⟩ := List.mem_filterMap.1 hy
  rw [ixOf_val he]
  exact List.mem_range.1 hi
theorem uptoX_rise (k : Nat) : (uptoX k).Pairwise (fun a b => a.1 < b.1) := by
  induction k with
  | zero => simp [uptoX]
  | succ k ih =>
    rw [uptoX_succ, List.pairwise_append]
    refine ⟨ih, by cases ixOf k <;> simp, fun a ha b hb => ?_⟩
    have h1 := uptoX_lt k a ha
    have h2 : ixOf k = some b := by simpa using hb
    rw [ixOf_val h2]
    exact h1
theorem prefix_rise {pre : List OpIx} {x : OpIx} (h : pre ++ [x] <+: allIx) : ∀ y ∈ pre, y.1 < x.1 := by
  have := (uptoX_rise 256).sublist h.sublist
  intro y hy
  exact (List.pairwise_append.1 this).2.2 y hy x (by simp)
theorem prefix_get {pre : List OpIx} {x : OpIx} (h : pre ++ [x] <+: allIx) : allIx[pre.length]? = some x := by
  obtain ⟨t, ht⟩ := h
  rw [← ht]
  simp
set_option maxHeartbeats 1000000 in
set_option maxRecDepth 100000 in
theorem all_stopsX (n : Nat) (Kp : World → World → Prop) (w : World) :
    SeqStopsK Fence.wide (n + 3) Tryd.prog 24 #[] (fun x : OpIx => #[.agg (rowC x.row)]) Kp (fun xs => xs = allIx) (fun pre => pre <+: allIx) 153 w := by
  intro l J Jx W hW hJ hJx hY h0
  refine callsIn_of_wp Tryd.func24 rfl trivial ?_ rfl
  simp only [Tryd.ntmps24, List.size_toArray, List.length_cons, List.length_nil, Nat.reduceAdd, Nat.reduceSub, Array.replicate_succ, Array.replicate_zero, List.push_toArray, List.append_toArray, List.nil_append, List.cons_append]
  gi_wp2
  gi_loopw [5] (fun vk wr => ∃ k : Nat, vk = .int .i64 k ∧ k ≤ 256 ∧ J (uptoX k) wr) (fun vk _ => 256 - (intOf vk).toNat)
  case atStart => exact ⟨0, rfl, Nat.zero_le _, h0⟩
  case round =>
    obtain ⟨k, rfl, hk, hj⟩ := hrel
    have HY := Lib.hid hY
    clear hY
    by_cases hlt : k < 256
    · have hs := uptoX_succ k
      by_cases hop : isOp (k : Int) = true
      · obtain ⟨ix, hix⟩ : ∃ ix : OpIx, ix = ⟨k, hlt, hop⟩ := ⟨_, rfl⟩
        rw [show ixOf k = some ix by unfold ixOf; rw [dif_pos ⟨hlt, hop⟩, hix], Option.toList_some] at hs
        have hrow : ix.row = opR (k : Int) := by rw [hix]; rfl
        clear hix
        have hlen : (uptoX k).length < 153 := by
          have h1 := (uptoX_prefix (k + 1) (by omega)).length_le
          rw [hs, List.length_append, show allIx.length = 153 from allIx_length] at h1
          simp at h1
          omega
        have HS := Lib.hid hs
        clear hs
        gi_wp2_with (refine ⟨trivial, ?_⟩; gi_at_call 10; refine (callsIn_wide.2 (of_any _ _)).mono ?_; unfold rowC; rintro e w1 ⟨rfl, hb⟩; obtain ⟨fn, tmps, assign, body, hy, hR⟩ := HY.out (uptoX k) ix (w1.alloc (.cells (rowC (opR k)) 24)) (hJ _ _ _ none hj (grownBy_below (hb.alloc hb.size _)) (fun r e => by cases e)) hlen; rw [hrow] at hy; unfold rowC at hy)
        refine hR.mono ?_
        rintro e W3 (⟨rfl, hJ3, _⟩ | ⟨rfl, hJx3⟩)
        · gi_wp2
          go_roundw
          case rel => exact ⟨k + 1, by go_num, by omega, by rw [HS.out]; exact hJ3⟩
          case measure => simp [intOf]; omega
        · gi_wp2
          refine bodyPost_ret (results_none rfl _ _ _) rfl ?_
          exact ⟨⟨_, rfl⟩, .inr ⟨uptoX k ++ [ix], by rw [← HS.out]; exact uptoX_prefix (k + 1) (by omega), hJx3⟩⟩
      · have hop : isOp (k : Int) = false := by simpa using hop
        rw [show ixOf k = none by unfold ixOf; rw [dif_neg (by rw [hop]; simp)]] at hs
        simp only [Option.toList_none, List.append_nil] at hs
        have HS := Lib.hid hs
        clear hs
        gi_wp2_with (refine ⟨trivial, ?_⟩; gi_at_call 10; refine (callsIn_wide.2 (of_any _ _)).mono ?_; unfold rowC; rintro e w1 ⟨rfl, hb⟩)
        refine ⟨fun _ h => (by cases h), ?_⟩
        gi_wp2
        go_roundw
        case rel => exact ⟨k + 1, by go_num, by omega, by rw [HS.out]; exact hJ _ _ _ none hj (grownBy_below (hb.alloc hb.size _)) (fun r e => by cases e)⟩
        case measure => simp [intOf]; omega
    · obtain rfl : k = 256 := by omega
      gi_wp2
      go_end0
      exact ⟨⟨_, rfl⟩, .inl ⟨_, rfl, hj⟩⟩
/-- What a row keeps, as numbers. -/
def rowOk (k : Nat) (r : OpRow) : Bool := r.code == (k : Int) && decide (2 ≤ r.name.size) && (r.ends || decide (1 ≤ r.gas)) && decide (0 ≤ r.inn) && decide (0 ≤ r.out) && decide (-1 ≤ r.imm) && decide (r.imm ≤ 32) && decide (r.name.size ≤ 100)
theorem row_ok (x : OpIx) : rowOk x.1 x.row = true := by
  obtain ⟨k, hk, ho⟩ := x
  have : ∀ i : Fin 256, isOp (i.1 : Int) = true → rowOk i.1 (opR (i.1 : Int)) = true := by decide +kernel
  exact this ⟨k, hk⟩ ho
end Go.Proofs.YtchhbifldfnppaaDoor
