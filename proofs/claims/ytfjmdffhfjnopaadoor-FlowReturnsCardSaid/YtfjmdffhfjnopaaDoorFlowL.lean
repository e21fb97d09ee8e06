/- chapter 7's laws: own, ownTypes, same, able. -/
import Derived.Test.YtfjmdffhfjnopaaDoorFlowF
import Derived.Test.YtfjmdffhfjnopaaDoorGen
namespace Go.Proofs.YtfjmdffhfjnopaaDoor
open Go.RowKit Vouch Go.Vk Go.Sort
theorem infoType : (Tryd.prog.info? 35).map (fun i => (i.zero, i.size, i.bytes)) = some (some (.agg #[.int .i64 0, .int .i64 0, .int .i64 0]), 3, 24) := by kernel_rfl
def tyT (t : Ty) : Tri := (t.inn, t.out, t.most)
theorem tys_of_tri {w : World} {A : Option Addr} {ts : List Ty} (h : TriAt w A (ts.map tyT)) : TysAt w A ts := fun i hi => by
  obtain ⟨x, h1, h2, h3, h4⟩ := h i (by simpa using hi)
  have e : (ts.map tyT).getD i zeroTri = tyT (ts.getD i zeroT) := by
    rw [List.getD_eq_getElem?_getD, List.getElem?_map, List.getD_eq_getElem?_getD, List.getElem?_eq_getElem hi]
    rfl
  rw [e] at h2 h3 h4
  exact ⟨x, h1, h2, h3, h4⟩
theorem tri_below {w w' : World} {A : Option Addr} {ls : List Tri} (h : TriAt w A ls) (hb : Below w.heap.size w w') : TriAt w' A ls := tri_later h fun _ _ hc => cell_later hb hc
/-- The heights with their places. -/
def hgTri (l : List Ins) (hs : List (Int × Int)) : List Tri := (l.zip hs).map fun x => (x.1.at_, x.2.1, x.2.2)
theorem hgCells_tri (l : List Ins) (hs : List (Int × Int)) : hgCells l hs = trCells (hgTri l hs) := by
  unfold hgCells hgTri trCells
  rw [List.flatMap_map]
theorem ints_none {w : World} {A : Option Addr} {bs : List Int} {cap : Nat} (h : IntsAt w .u8 A bs) (h0 : A = none → cap = 0) : A = none → bs.length = 0 ∧ cap = 0 := fun e => by
  refine ⟨?_, h0 e⟩
  cases hb : bs with
  | nil => rfl
  | cons a r =>
    obtain ⟨x, hx, _⟩ := h 0 (by rw [hb]; simp)
    rw [e] at hx
    cases hx
set_option maxRecDepth 100000 in
theorem own7_any (bs : List Int) (A : Option Addr) (cap : Nat) (w : World) (hc : IntsAt w .u8 A bs) (h0 : A = none → cap = 0) (hn : bs.length ≤ 140737488355328) :
    Calls Tryd.prog 18 #[.slice A bs.length cap] w fun e w' => ∃ X c, e = .returned (.slice X bs.length c) ∧ w'.ownsRow w.heap.size 5 1 (.slice X bs.length c) bs.length (byteVs bs) ∧ Below w.heap.size w w' := by
  obtain ⟨i0, hi, hz0, hz1, hz2⟩ := info_parts infoByte
  have hown := World.ownsRow_nil w w.heap.size 5 1
  have HC := Lib.hid hc
  have HN := Lib.hid (ints_none hc h0)
  clear hc h0
  go_enter Tryd.func18, Tryd.ntmps18
  go_wp2_with (at_builtin; refine wpList_append_src _ rfl _ _ 23 rfl w.heap.size 5 i0 (.int .u8 0) 1 1 Tryd.underlying23 hi hz0 hz1 hz2 rfl (by decide) _ _ _ rfl hown A bs.length cap (byteVs bs) rfl HN.out ?a0 ?a1 ?a2 ?a3 ?a4 ?a5 ?_)
  case a0 => rw [byteVs_length]; omega
  case a1 => exact fun y hy => by have := HC.out; rw [hy] at this; exact bytes_src this
  case a2 => exact bytes_one
  case a3 => unfold maxLen; omega
  case a4 => omega
  case a5 => exact Nat.le_refl _
  intro v6 w6 hown6 hgrow6
  have hB6 := bel_own (Below.refl _ _) hown (Nat.le_refl _) hgrow6
  obtain ⟨X, c, rfl⟩ := owns_shape hown6
  go_wp2
  go_ret
  exact ⟨X, c, rfl, hown6, hB6⟩
set_option maxRecDepth 100000 in
theorem ownT_any (ls : List Tri) (A : Option Addr) (cap : Nat) (w : World) (hc : TriAt w A ls) (h0 : A = none → cap = 0) (hn : ls.length ≤ 1048600) :
    Calls Tryd.prog 17 #[.slice A ls.length cap] w fun e w' => ∃ X c, e = .returned (.slice X ls.length c) ∧ w'.ownsRow w.heap.size 35 3 (.slice X ls.length c) ls.length (trCells ls) ∧ Below w.heap.size w w' := by
  obtain ⟨i0, hi, hz0, hz1, hz2⟩ := info_parts infoType
  have hown := World.ownsRow_nil w w.heap.size 35 3
  have HC := Lib.hid hc
  have HN := Lib.hid (tri_none hc h0)
  clear hc h0
  go_enter Tryd.func17, Tryd.ntmps17
  go_wp2_with (at_builtin; refine wpList_append_src _ rfl _ _ 22 rfl w.heap.size 35 i0 (.agg #[.int .i64 0, .int .i64 0, .int .i64 0]) 3 24 Tryd.underlying22 hi hz0 hz1 hz2 rfl (by decide) _ _ _ rfl hown A ls.length cap (trCells ls) rfl HN.out ?a0 ?a1 ?a2 ?a3 ?a4 ?a5 ?_)
  case a0 => rw [trCells_length]
  case a1 => exact fun y hy => by have := HC.out; rw [hy] at this; exact tri_src this
  case a2 => exact trCells_one
  case a3 => unfold maxLen; omega
  case a4 => omega
  case a5 => exact Nat.le_refl _
  intro v6 w6 hown6 hgrow6
  have hB6 := bel_own (Below.refl _ _) hown (Nat.le_refl _) hgrow6
  obtain ⟨X, c, rfl⟩ := owns_shape hown6
  go_wp2
  go_ret
  exact ⟨X, c, rfl, hown6, hB6⟩
set_option maxHeartbeats 1000000 in
set_option maxRecDepth 100000 in
theorem same7_eq (ls : List Tri) (A B : Option Addr) (c d : Nat) (w : World) (ha : TriAt w A ls) (hb : TriAt w B ls) (hn : ls.length ≤ 140737488355328) :
    Calls Tryd.prog 26 #[.slice A ls.length c, .slice B ls.length d] w fun e w' => e = .returned (.bool true) ∧ Below w.heap.size w w' := by
  have HA := Lib.hid ha
  have HB := Lib.hid hb
  clear ha hb
  go_enter Tryd.func26, Tryd.ntmps26
  go_wp2
  go_loopw [5] (fun vi wr => ∃ k : Nat, vi = .int .i64 k ∧ k ≤ ls.length ∧ Below w.heap.size w wr) (fun vi _ => ls.length - (intOf vi).toNat)
  case atStart => exact ⟨0, rfl, Nat.zero_le _, Below.refl _ _⟩
  case round =>
    obtain ⟨k, rfl, hk, hB⟩ := hrel
    by_cases hlt : k < ls.length
    · have h1 : (k : Int) < (ls.length : Int) := by omega
      obtain ⟨x, rfl, x0, x1, x2⟩ := HA.out k hlt
      obtain ⟨y, rfl, y0, y1, y2⟩ := HB.out k hlt
      generalize ls.getD k zeroTri = t at x0 x1 x2 y0 y1 y2
      have u0 := cell_later hB x0
      have u1 := cell_later hB x1
      have u2 := cell_later hB x2
      have v0 := cell_later hB y0
      have v1 := cell_later hB y1
      have v2 := cell_later hB y2
      clear x0 x1 x2 y0 y1 y2
      go_wp2
      go_quiet (fail)
      go_wp2
      exact ⟨⟨k + 1, by go_num, by omega, below_drewN hB _⟩, by simp [intOf]; omega⟩
    · have h1 : ¬ (k : Int) < (ls.length : Int) := by omega
      go_wp2
      go_ret
      exact ⟨rfl, hB⟩
def bsA : List Int := [95, 95, 1, 80, 0]
def tsA : List Ty := [⟨0, 128, 2⟩]
theorem heightsA : heightsE tsA 0 bsA = ([(0, 0), (1, 1), (2, 2), (1, 1), (0, 0)], 0, 0) := by decide +kernel
theorem hgA : hgTri (allI bsA) [(0, 0), (1, 1), (2, 2), (1, 1), (0, 0)] = [(0, 0, 0), (1, 1, 1), (2, 2, 2), (3, 1, 1), (4, 0, 0)] := by decide +kernel
def lsA : List Tri := [(0, 0, 0), (1, 1, 1), (2, 2, 2), (3, 1, 1), (4, 0, 0)]
set_option maxHeartbeats 1000000 in
set_option maxRecDepth 100000 in
theorem able_any (w : World) : Calls Tryd.prog 14 #[] w fun e w' => e = .returned (.bool true) ∧ Below w.heap.size w w' := by
  have hb0 : Below w.heap.size w ((w.alloc (.cells #[.int .i64 0, .int .i64 128, .int .i64 2] 35)).alloc (.cells #[.int .u8 95, .int .u8 95, .int .u8 1, .int .u8 80, .int .u8 0] 5)) := ((Below.refl _ _).alloc (Nat.le_refl _) _).alloc (by simp) _
  have hT := heap_alloc_before (heap_alloc_new w (.cells #[.int .i64 0, .int .i64 128, .int .i64 2] 35)) (.cells #[.int .u8 95, .int .u8 95, .int .u8 1, .int .u8 80, .int .u8 0] 5)
  have hBs := heap_alloc_at (w.alloc (.cells #[.int .i64 0, .int .i64 128, .int .i64 2] 35)) (.cells #[.int .u8 95, .int .u8 95, .int .u8 1, .int .u8 80, .int .u8 0] 5) (w.heap.size + 1) (by simp)
  go_enter Tryd.func14, Tryd.ntmps14
  go_wp2_with (go_at_call 16; refine stop_o ?_)
  generalize (w.alloc (.cells #[.int .i64 0, .int .i64 128, .int .i64 2] 35)).alloc (.cells #[.int .u8 95, .int .u8 95, .int .u8 1, .int .u8 80, .int .u8 0] 5) = W0 at hb0 hT hBs ⊢
  have hts : TysAt W0 (some ⟨w.heap.size, 0, none⟩) tsA := tys_of_tri (tri_lit (ls := tsA.map tyT) hT)
  have hbs : IntsAt W0 .u8 (some ⟨w.heap.size + 1, 0, none⟩) bsA := ints_lit hBs
  have HH := Lib.hid (heights_any tsA _ 1 0 bsA _ 5 W0 hts hbs (by decide) (by decide) (by decide) (by decide))
  clear hts hbs hT hBs
  unfold StopO
  refine HH.out.mono ?_
  rintro e W1 ⟨v, rfl, ho, hb1⟩
  rw [heightsA] at ho ⊢
  rw [hgCells_tri, hgA] at ho
  obtain ⟨X, c, rfl⟩ := owns_shape ho
  have hB := hb0.trans (hb1.mono hb0.size)
  dsimp only
  clear HH hb0 hb1
  have HO := Lib.hid ho
  clear ho
  go_wp2_with (go_at_call 26; refine stop_o ?_)
  unfold StopO
  have hb2 := (Below.refl W1.heap.size W1).alloc (Nat.le_refl _) (.cells (trCells lsA).toArray 38)
  have ht2 := tri_lit (heap_alloc_new W1 (.cells (trCells lsA).toArray 38))
  have ht1 := tri_owned (ls := lsA) (own_below HO.out hb2)
  refine (same7_eq lsA _ _ c 5 _ ht1 ht2 (by decide)).mono ?_
  rintro e W3 ⟨rfl, hb3⟩
  clear ht1 ht2 HO
  go_wp2
  go_ret
  exact ⟨rfl, (hB.trans (hb2.mono hB.size)).trans (hb3.mono (Nat.le_trans hB.size hb2.size))⟩
end Go.Proofs.YtfjmdffhfjnopaaDoor
