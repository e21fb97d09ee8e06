/- vouchref4.Of returns the row opR tells and whether there is one, for every code. -/
import Derived.Test.YtfjmdffhfjnopaaDoorRefE
namespace Go.Proofs.YtfjmdffhfjnopaaDoor
open Go.RowKit Vouch Go.Vk
set_option maxHeartbeats 2000000 in
set_option maxRecDepth 100000 in
theorem rof_0 (c : Int) (w : World) (h0 : in_numbers c = true) :
    Calls Tryd.prog 61 #[.int .i64 c] w fun e w' => e = .returned (.tuple #[.agg (rowC (r_numbers c)), .bool (in_numbers c)]) ∧ Below w.heap.size w w' := by
  go_enter Tryd.func61, Tryd.ntmps61
  go_wp2_with (first | (go_at_call 73; refine (numbers_any _ _).mono ?_; rintro e w1 ⟨rfl, hb1⟩; have hg1 := kept_new hb1; obtain ⟨ha1, hc1, hd1, he1, hf1, hh1, hi1, hz1, hl1⟩ := cells7 hg1; unfold rowC))
  have hs1 := hb1.size
  simp at hs1
  rw [set7_eq hg1]
  exact ref_end (r := r_numbers c) rfl _ rfl ((Below.heap_alloc _ _ _ (by simpa using hl1)).trans (setRow_heap _ _ _ _ _ _ hg1)) rfl rfl rfl h0.symm (Below.alloc (below_setRow (((Below.refl _ _).alloc (Nat.le_refl _) _).trans (hb1.mono (by first | (simp; done) | (simp; omega)))) (Nat.le_refl _) _) (by simp; omega) _)
set_option maxHeartbeats 2000000 in
set_option maxRecDepth 100000 in
theorem rof_1 (c : Int) (w : World) (h0 : in_numbers c = false) (h1 : in_around c = true) :
    Calls Tryd.prog 61 #[.int .i64 c] w fun e w' => e = .returned (.tuple #[.agg (rowC (r_around c)), .bool (in_around c)]) ∧ Below w.heap.size w w' := by
  have hm := around_name c h1
  have er : (r_around c) = opR c := by unfold r_around; rw [if_pos h1]
  rw [← er] at hm
  have ER := Lib.hid er
  clear er
  go_enter Tryd.func61, Tryd.ntmps61
  go_wp2_with (first | (go_at_call 73; refine (numbers_any _ _).mono ?_; rintro e w1 ⟨rfl, hb1⟩; have hg1 := kept_new hb1; obtain ⟨ha1, hc1, hd1, he1, hf1, hh1, hi1, hz1, hl1⟩ := cells7 hg1; unfold rowC) | (go_at_call 74; refine (around_any _ _).mono ?_; rintro e w2 ⟨rfl, hb2⟩; have hg2 := kept_of hb2 ((Below.heap_alloc _ _ _ hl1).trans hg1); obtain ⟨ha2, hc2, hd2, he2, hf2, hh2, hi2, hz2, hl2⟩ := cells7 hg2; unfold rowC))
  have hs1 := hb1.size; have hs2 := hb2.size
  simp at hs1 hs2
  rw [set7_eq hg2]
  exact ref_end (r := r_around c) rfl _ rfl ((Below.heap_alloc _ _ _ (by simpa using hl2)).trans (setRow_heap _ _ _ _ _ _ hg2)) rfl rfl rfl h1.symm (Below.alloc (below_setRow (((((Below.refl _ _).alloc (Nat.le_refl _) _).trans (hb1.mono (by first | (simp; done) | (simp; omega)))).alloc (by omega) _).trans (hb2.mono (by first | (simp; done) | (simp; omega)))) (Nat.le_refl _) _) (by simp; omega) _)
set_option maxHeartbeats 2000000 in
set_option maxRecDepth 100000 in
theorem rof_2 (c : Int) (w : World) (h0 : in_numbers c = false) (h1 : in_around c = false) (h2 : in_kept c = true) :
    Calls Tryd.prog 61 #[.int .i64 c] w fun e w' => e = .returned (.tuple #[.agg (rowC (r_kept c)), .bool (in_kept c)]) ∧ Below w.heap.size w w' := by
  go_enter Tryd.func61, Tryd.ntmps61
  go_wp2_with (first | (go_at_call 73; refine (numbers_any _ _).mono ?_; rintro e w1 ⟨rfl, hb1⟩; have hg1 := kept_new hb1; obtain ⟨ha1, hc1, hd1, he1, hf1, hh1, hi1, hz1, hl1⟩ := cells7 hg1; unfold rowC) | (go_at_call 74; refine (around_any _ _).mono ?_; rintro e w2 ⟨rfl, hb2⟩; have hg2 := kept_of hb2 ((Below.heap_alloc _ _ _ hl1).trans hg1); obtain ⟨ha2, hc2, hd2, he2, hf2, hh2, hi2, hz2, hl2⟩ := cells7 hg2; unfold rowC) | (go_at_call 75; refine (kept_any _ _).mono ?_; rintro e w3 ⟨rfl, hb3⟩; have hg3 := kept_of hb3 ((Below.heap_alloc _ _ _ hl2).trans hg2); obtain ⟨ha3, hc3, hd3, he3, hf3, hh3, hi3, hz3, hl3⟩ := cells7 hg3; unfold rowC))
  have hs1 := hb1.size; have hs2 := hb2.size; have hs3 := hb3.size
  simp at hs1 hs2 hs3
  rw [set7_eq hg3]
  exact ref_end (r := r_kept c) rfl _ rfl ((Below.heap_alloc _ _ _ (by simpa using hl3)).trans (setRow_heap _ _ _ _ _ _ hg3)) rfl rfl rfl h2.symm (Below.alloc (below_setRow (((((((Below.refl _ _).alloc (Nat.le_refl _) _).trans (hb1.mono (by first | (simp; done) | (simp; omega)))).alloc (by omega) _).trans (hb2.mono (by first | (simp; done) | (simp; omega)))).alloc (by omega) _).trans (hb3.mono (by first | (simp; done) | (simp; omega)))) (Nat.le_refl _) _) (by simp; omega) _)
set_option maxHeartbeats 2000000 in
set_option maxRecDepth 100000 in
theorem rof_3 (c : Int) (w : World) (h0 : in_numbers c = false) (h1 : in_around c = false) (h2 : in_kept c = false) :
    Calls Tryd.prog 61 #[.int .i64 c] w fun e w' => e = .returned (.tuple #[.agg (rowC (r_ways c)), .bool (in_ways c)]) ∧ Below w.heap.size w w' := by
  go_enter Tryd.func61, Tryd.ntmps61
  go_wp2_with (first | (go_at_call 73; refine (numbers_any _ _).mono ?_; rintro e w1 ⟨rfl, hb1⟩; have hg1 := kept_new hb1; obtain ⟨ha1, hc1, hd1, he1, hf1, hh1, hi1, hz1, hl1⟩ := cells7 hg1; unfold rowC) | (go_at_call 74; refine (around_any _ _).mono ?_; rintro e w2 ⟨rfl, hb2⟩; have hg2 := kept_of hb2 ((Below.heap_alloc _ _ _ hl1).trans hg1); obtain ⟨ha2, hc2, hd2, he2, hf2, hh2, hi2, hz2, hl2⟩ := cells7 hg2; unfold rowC) | (go_at_call 75; refine (kept_any _ _).mono ?_; rintro e w3 ⟨rfl, hb3⟩; have hg3 := kept_of hb3 ((Below.heap_alloc _ _ _ hl2).trans hg2); obtain ⟨ha3, hc3, hd3, he3, hf3, hh3, hi3, hz3, hl3⟩ := cells7 hg3; unfold rowC) | (go_at_call 76; refine (ways_any _ _).mono ?_; rintro e w4 ⟨rfl, hb4⟩; have hg4 := kept_of hb4 ((Below.heap_alloc _ _ _ hl3).trans hg3); obtain ⟨ha4, hc4, hd4, he4, hf4, hh4, hi4, hz4, hl4⟩ := cells7 hg4; unfold rowC))
  have hs1 := hb1.size; have hs2 := hb2.size; have hs3 := hb3.size; have hs4 := hb4.size
  simp at hs1 hs2 hs3 hs4
  rw [set7_eq hg4]
  exact ref_end (r := r_ways c) rfl _ rfl (setRow_heap _ _ _ _ _ _ hg4) rfl rfl rfl rfl (below_setRow (((((((((Below.refl _ _).alloc (Nat.le_refl _) _).trans (hb1.mono (by first | (simp; done) | (simp; omega)))).alloc (by omega) _).trans (hb2.mono (by first | (simp; done) | (simp; omega)))).alloc (by omega) _).trans (hb3.mono (by first | (simp; done) | (simp; omega)))).alloc (by omega) _).trans (hb4.mono (by first | (simp; done) | (simp; omega)))) (Nat.le_refl _) _)
theorem rof_any (c : Int) (w : World) :
    Calls Tryd.prog 61 #[.int .i64 c] w fun e w' => e = .returned (.tuple #[.agg (rowC (opR c)), .bool (isOp c)]) ∧ Below w.heap.size w w' := by
  have hi := isOp_eq c
  cases h0 : in_numbers c with
  | true => rw [hi, h0]; have e := rof_0 c w h0; unfold r_numbers at e; rw [h0, if_pos rfl] at e; exact e
  | false =>
  cases h1 : in_around c with
  | true => rw [hi, h0, h1]; have e := rof_1 c w h0 h1; unfold r_around at e; rw [h1, if_pos rfl] at e; exact e
  | false =>
  cases h2 : in_kept c with
  | true => rw [hi, h0, h1, h2]; have e := rof_2 c w h0 h1 h2; unfold r_kept at e; rw [h2, if_pos rfl] at e; exact e
  | false =>
  have e := rof_3 c w h0 h1 h2
  have hw : isOp c = in_ways c := by rw [hi, h0, h1, h2]; rfl
  rw [hw]
  cases h3 : in_ways c with
  | true => unfold r_ways at e; rw [h3, if_pos rfl] at e; exact e
  | false =>
    rw [opR_no c (hw.trans h3)]
    unfold r_ways at e; rw [h3] at e; exact e
end Go.Proofs.YtfjmdffhfjnopaaDoor
