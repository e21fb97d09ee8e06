/- vouchref6.All, Scan, Starts: the document's answers, as lists. -/
import Derived.Test.YthjnjdpiihpgeaaDoorStarts
import Derived.Test.YthjnjdpiihpgeaaDoorRefOne6
import Derived.Test.YthjnjdpiihpgeaaDoorWhole
import Derived.Test.YthjnjdpiihpgeaaDoorOwnSet
namespace Go.Proofs.YthjnjdpiihpgeaaDoor
open Go.RowKit Vouch Go.Vk Go.Sort
/-- What vouchref6.All hands back. -/
def RefAllOut (bs : List Int) (w : World) (e : Ending) (w' : World) : Prop := ∃ (xs : List El) (v : Value), AllOf bs xs ∧ e = .returned v ∧ w'.ownsRow w.heap.size 34 4 v xs.length (insCells xs) ∧ RowsAt w.heap.size xs w' ∧ Below w.heap.size w w'
theorem refAllOut_mk {bs : List Int} {w : World} {e : Ending} {w' : World} (xs : List El) (v : Value) (h : AllOf bs xs) (he : e = .returned v) (ho : w'.ownsRow w.heap.size 34 4 v xs.length (insCells xs)) (hr : RowsAt w.heap.size xs w') (hb : Below w.heap.size w w') : RefAllOut bs w e w' := ⟨xs, v, h, he, ho, hr, hb⟩
set_option maxHeartbeats 1000000 in
set_option maxRecDepth 100000 in
theorem refall_any (bs : List Int) (A : Option Addr) (cap : Nat) (w : World) (hc : IntsAt w .u8 A bs) (hz : ∀ z ∈ bs, 0 ≤ z ∧ z < 256) (hn : bs.length ≤ 4294967296) :
    Calls Tryd.prog 36 #[.slice A bs.length cap] w (RefAllOut bs w) := by
  obtain ⟨i0, hi, hz0, hz1, hz2⟩ := info_parts infoIns
  have HO := Lib.hid (fun p w1 (hb : Below w.heap.size w w1) (hp : (Lit.int .i64 p).wf = true) => refone_any bs A cap p w1 (ints_below hb hc) hz hn hp)
  clear hc hz
  go_enter Tryd.func36, Tryd.ntmps36
  go_wp2
  go_loopw [3, 4] (fun vl vp wr => ∃ (xs : List El) (p : Int), vp = .int .i64 p ∧ Reads bs (xs.map Prod.fst) p ∧ wr.ownsRow w.heap.size 34 4 vl xs.length (insCells xs) ∧ RowsAt w.heap.size xs wr ∧ Below w.heap.size w wr) (fun _ vp _ => bs.length - (intOf vp).toNat)
  case atStart => exact ⟨[], 0, rfl, .nil, World.ownsRow_nil _ _ _ _, (fun x hx => by cases hx), Below.refl _ _⟩
  case round =>
    obtain ⟨xs, p, rfl, hrd, hown, hrows, hB⟩ := hrel
    obtain ⟨Y, cv, rfl⟩ := owns_shape hown
    have hpp := reads_pos hrd
    have hxl := reads_length hrd
    rw [List.length_map] at hxl
    have HRD := Lib.hid hrd
    have HOWN := Lib.hid hown
    have HROWS := Lib.hid hrows
    have hol := owned_lt hown
    clear hrd hown hrows
    by_cases hlt : p < bs.length
    · have HO1 := Lib.hid (HO.out p wr hB (wf64 (by omega) (by omega)))
      generalize hr : readE bs p = r at HO1
      obtain ⟨er, i⟩ := r
      have HR := Lib.hid hr
      unfold insV at HO1
      clear hr
      by_cases he : er = 0
      · subst he
        have hnx := read_next HR.out
        obtain ⟨hn0, hn1, hn2, hn3, hn4, hn5⟩ := hnx
        have HN3 := Lib.hid hn3
        have HN4 := Lib.hid hn4
        clear hn3 hn4
        go_wp2_with (first
          | (go_at_call 23; refine HO1.out.mono ?_; rintro e w4 ⟨v4, rfl, ho4, hb4⟩; obtain ⟨X, c, rfl⟩ := owns_shape ho4; have hg4 := heap_alloc_new w4 (.cells #[.int .i64 i.at_, .int .i64 i.code, .slice X i.imm.length c, .int .i64 i.next] 34); obtain ⟨q0, q1, q2, q3, qz, ql⟩ := cells4 hg4)
          | (at_builtin; refine stop_o ?_))
        unfold StopO
        have hB4 := hB.trans (hb4.mono hB.size)
        have hB5 := hB4.alloc hB4.size (.cells #[.int .i64 i.at_, .int .i64 i.code, .slice X i.imm.length c, .int .i64 i.next] 34)
        have hol4 := own_below HOWN.out hb4
        have hor := fun x hx => own_below (HROWS.out x hx) hb4
        have e1 := (hol4.alloc (.cells #[.int .i64 i.at_, .int .i64 i.code, .slice X i.imm.length c, .int .i64 i.next] 34)).alloc (.cells #[.int .i64 i.at_, .int .i64 i.code, .slice X i.imm.length c, .int .i64 i.next] 34)
        refine wpList_append_own _ rfl _ _ 24 rfl w.heap.size 34 i0 (.agg #[.int .i64 0, .int .i64 0, .slice none 0 0, .int .i64 0]) 4 48 Tryd.underlying24 hi hz0 hz1 hz2 rfl (by decide) _ _ _ rfl e1 ⟨w4.heap.size + 1, 0, none⟩ 1 1 [.int .i64 i.at_, .int .i64 i.code, .slice X i.imm.length c, .int .i64 i.next] rfl rfl ?c1 ?c2 ?c3 ?c4 ?c5 ?_
        case c1 => exact cells_fresh _ #[.int .i64 i.at_, .int .i64 i.code, .slice X i.imm.length c, .int .i64 i.next] _ _ (by simp)
        case c2 => intro u hu; simp at hu; rcases hu with rfl | rfl | rfl | rfl <;> rfl
        case c3 => unfold maxLen; omega
        case c4 => omega
        case c5 => have := hB5.size; simp at this ⊢; omega
        intro v6 w6 hown6 hgrow6 _
        obtain ⟨Y', cv', rfl⟩ := owns_shape hown6
        have hB6 := bel_own (hB5.alloc hB5.size (.cells #[.int .i64 i.at_, .int .i64 i.code, .slice X i.imm.length c, .int .i64 i.next] 34)) e1 (Nat.le_refl _) hgrow6
        have hg6 := blk_own (blk_stays (B := 0) hg4 (grownBy_below ((Below.refl _ _).alloc (Nat.le_refl _) (.cells #[.int .i64 i.at_, .int .i64 i.code, .slice X i.imm.length c, .int .i64 i.next] 34))) (fun r e => by cases e)) e1 (fun q hq => by have := hol q hq; have := hb4.size; omega) hgrow6
        have dR : ∀ y : El, w4.ownsRow w.heap.size 5 1 y.2 y.1.imm.length (byteVs y.1.imm) → w6.ownsRow w.heap.size 5 1 y.2 y.1.imm.length (byteVs y.1.imm) := fun y hy => own_grow ((hy.alloc _).alloc _) e1 (by decide) hgrow6
        have hrows6 : RowsAt w.heap.size (xs ++ [(i, Value.slice X i.imm.length c)]) w6 := fun y hy => by
          rcases List.mem_append.1 hy with hy | hy
          · exact dR y (hor y hy)
          · rw [List.mem_singleton.1 hy]
            exact dR (i, Value.slice X i.imm.length c) (owns_le ho4 hB.size)
        have hown7 : w6.ownsRow w.heap.size 34 4 (.slice Y' (xs.length + 1) cv') (xs ++ [(i, Value.slice X i.imm.length c)]).length (insCells (xs ++ [(i, Value.slice X i.imm.length c)])) := by
          rw [List.length_append, insCells_snoc]
          exact hown6
        clear q0 q1 q2 q3 qz ql
        obtain ⟨q0, q1, q2, q3, qz, ql⟩ := cells4 hg6
        clear hor dR hown6 hgrow6 e1 hol4
        go_wp2
        refine ⟨⟨xs ++ [(i, Value.slice X i.imm.length c)], i.next, rfl, by rw [List.map_append]; exact .snoc HRD.out HR.out, hown7, hrows6, hB6⟩, by simp [intOf]; omega⟩
      · have hne : (er != 0) = true := by simpa using he
        go_wp2_with (go_at_call 23; refine HO1.out.mono ?_; rintro e w4 ⟨v4, rfl, ho4, hb4⟩; obtain ⟨X, c, rfl⟩ := owns_shape ho4)
        go_ret
        exact (refAllOut_mk xs _ ⟨p, HRD.out, by rw [HR.out]; exact he⟩ rfl ((own_below HOWN.out hb4).alloc _) (fun x hx => (own_below (HROWS.out x hx) hb4).alloc _) ((hB.trans (hb4.mono hB.size)).alloc (Nat.le_trans hB.size hb4.size) _))
    · have hend : (readE bs p).1 ≠ 0 := by unfold readE; rw [if_pos (.inr (by omega))]; decide
      go_wp2
      go_ret
      exact (refAllOut_mk xs _ ⟨p, HRD.out, hend⟩ rfl HOWN.out HROWS.out hB)
end Go.Proofs.YthjnjdpiihpgeaaDoor
