/- vouchlaw7.stay: what was handed in is as it was, and the marks behind it. -/
import Derived.Test.YtfjmdffhfjnopaaDoorFlowL
namespace Go.Proofs.YtfjmdffhfjnopaaDoor
open Go.RowKit Vouch Go.Vk Go.Sort
theorem wrap_st7 {a : Int} (h0 : -1000000000 ≤ a) (h1 : a ≤ 1000000000) : wrap64 a = a ∧ IntKind.i64.wrap a = a := ⟨by unfold wrap64; omega, by rw [IntKind.wrap_i64]; omega⟩
def marksB : List Int := [201, 202, 203, 204]
def marksT : List Tri := [(-7, 0, 0), (-8, 0, 0)]
set_option maxHeartbeats 1000000 in
set_option maxRecDepth 100000 in
theorem stay_any (ls : List Tri) (bs : List Int) (T A Wd B : Option Addr) (cT cA cW cB : Nat) (w : World) (ht : TriAt w T (ls ++ marksT)) (ha : TriAt w A ls) (hw : IntsAt w .u8 Wd (bs ++ marksB)) (hb : IntsAt w .u8 B bs) (hl : ls.length ≤ 1048576) (hn : bs.length ≤ 1048576) :
    Calls Tryd.prog 32 #[.slice T (ls.length + 2) cT, .slice A ls.length cA, .slice Wd (bs.length + 4) cW, .slice B bs.length cB] w fun e w' => e = .returned (.bool true) ∧ Below w.heap.size w w' := by
  have HT := Lib.hid ht
  have HA := Lib.hid ha
  have HW := Lib.hid hw
  have HB := Lib.hid hb
  clear ht ha hw hb
  obtain ⟨n, hnn⟩ : ∃ n, bs.length = n := ⟨_, rfl⟩
  obtain ⟨m, hmm⟩ : ∃ m, ls.length = m := ⟨_, rfl⟩
  rw [hnn] at hn ⊢
  rw [hmm] at hl ⊢
  have HN := Lib.hid (⟨hnn, hmm⟩ : _ ∧ _)
  clear hnn hmm
  have hc4 : ((n + 4 : Nat) : Int) = (n : Int) + 4 := by omega
  have hc2 : ((m + 2 : Nat) : Int) = (m : Int) + 2 := by omega
  go_enter Tryd.func32, Tryd.ntmps32
  go_wp2
  go_loopw [9] (fun vi wr => ∃ k : Nat, vi = .int .i64 k ∧ k ≤ n + 4 ∧ Below w.heap.size w wr) (fun vi _ => n + 4 - (intOf vi).toNat)
  case atStart => exact ⟨0, rfl, Nat.zero_le _, Below.refl _ _⟩
  case round =>
    obtain ⟨k, rfl, hk, hB⟩ := hrel
    by_cases hlt : k < n
    · have h1 : (k : Int) < (n : Int) + 4 := by omega
      have h2 : (k : Int) < (n : Int) := by omega
      have h2d : decide ((k : Int) < (n : Int)) = true := decide_eq_true h2
      have h3 : ¬ (n : Int) ≤ (k : Int) := by omega
      have h3d : decide ((n : Int) ≤ (k : Int)) = false := decide_eq_false h3
      have h4d : decide (n ≤ k) = false := decide_eq_false (by omega)
      have h5d : decide (k < n) = true := decide_eq_true hlt
      obtain ⟨x, rfl, x0⟩ := HW.out k (by rw [List.length_append, HN.out.1]; omega)
      obtain ⟨y, rfl, y0⟩ := HB.out k (by rw [HN.out.1]; exact hlt)
      have e : (bs ++ marksB).getD k 0 = bs.getD k 0 := getD_app (by rw [HN.out.1]; exact hlt)
      rw [e] at x0
      generalize bs.getD k 0 = z at x0 y0
      have u0 := cell_later hB x0
      have v0 := cell_later hB y0
      clear x0 y0 e
      go_wp2
      go_quiet (fail)
      go_wp2
      exact ⟨⟨k + 1, by go_num, by omega, below_drewN hB _⟩, by simp [intOf]; omega⟩
    · by_cases hl4 : k < n + 4
      · obtain ⟨d, hd, hd4⟩ : ∃ d : Nat, k = n + d ∧ d < 4 := ⟨k - n, by omega, by omega⟩
        have h1 : (k : Int) < (n : Int) + 4 := by omega
        have h2 : ¬ (k : Int) < (n : Int) := by omega
        have h2d : decide ((k : Int) < (n : Int)) = false := decide_eq_false h2
        have h3 : (n : Int) ≤ (k : Int) := by omega
        have h3d : decide ((n : Int) ≤ (k : Int)) = true := decide_eq_true h3
        have h4d : decide (n ≤ k) = true := decide_eq_true (by omega)
        have h5d : decide (k < n) = false := decide_eq_false (by omega)
        obtain ⟨x, rfl, x0⟩ := HW.out k (by rw [List.length_append, HN.out.1]; show k < n + 4; omega)
        have e : (bs ++ marksB).getD k 0 = 201 + (d : Int) := by
          rw [List.getD_eq_getElem?_getD, List.getElem?_append_right (by rw [HN.out.1]; omega), HN.out.1, show k - n = d by omega]
          rcases (show d = 0 ∨ d = 1 ∨ d = 2 ∨ d = 3 by omega) with rfl | rfl | rfl | rfl <;> rfl
        rw [e] at x0
        have f0 := wrap_st7 (a := 201 + (k : Int)) (by omega) (by omega)
        have f1 := wrap_st7 (a := 201 + (k : Int) - (n : Int)) (by omega) (by omega)
        have f2 : (201 : Int) + (k : Int) - (n : Int) = 201 + (d : Int) := by omega
        have f3 : IntKind.u8.wrap (201 + (d : Int)) = 201 + (d : Int) := by rcases (show d = 0 ∨ d = 1 ∨ d = 2 ∨ d = 3 by omega) with rfl | rfl | rfl | rfl <;> rfl
        obtain ⟨f00, f01⟩ := f0
        obtain ⟨f10, f11⟩ := f1
        rw [f2] at f10 f11
        have u0 := cell_later hB x0
        have HD := Lib.hid hd
        clear x0 e hd
        go_wp2
        go_quiet (fail)
        go_wp2
        exact ⟨⟨k + 1, by go_num, by omega, below_drewN hB _⟩, by simp [intOf]; omega⟩
      · obtain rfl : k = n + 4 := by omega
        have h1 : ¬ ((n + 4 : Nat) : Int) < (n : Int) + 4 := by omega
        go_wp2
        go_loopw [10] (fun vi wr => ∃ k : Nat, vi = .int .i64 k ∧ k ≤ m + 2 ∧ Below w.heap.size w wr) (fun vi _ => m + 2 - (intOf vi).toNat)
        case atStart => exact ⟨0, rfl, Nat.zero_le _, hB⟩
        case round =>
          clear hB
          obtain ⟨k, rfl, hk, hB⟩ := hrel
          by_cases hlt : k < m
          · have h1 : (k : Int) < (m : Int) + 2 := by omega
            have h2 : (k : Int) < (m : Int) := by omega
            have h2d : decide ((k : Int) < (m : Int)) = true := decide_eq_true h2
            have h3 : ¬ (m : Int) ≤ (k : Int) := by omega
            have h3d : decide ((m : Int) ≤ (k : Int)) = false := decide_eq_false h3
            have h4d : decide (m ≤ k) = false := decide_eq_false (by omega)
            have h5d : decide (k < m) = true := decide_eq_true hlt
            obtain ⟨x, rfl, x0, x1, x2⟩ := HT.out k (by rw [List.length_append, HN.out.2]; omega)
            obtain ⟨y, rfl, y0, y1, y2⟩ := HA.out k (by rw [HN.out.2]; exact hlt)
            have e : (ls ++ marksT).getD k zeroTri = ls.getD k zeroTri := getD_app (by rw [HN.out.2]; exact hlt)
            rw [e] at x0 x1 x2
            generalize ls.getD k zeroTri = z at x0 x1 x2 y0 y1 y2
            have u0 := cell_later hB x0
            have u1 := cell_later hB x1
            have u2 := cell_later hB x2
            have v0 := cell_later hB y0
            have v1 := cell_later hB y1
            have v2 := cell_later hB y2
            clear x0 x1 x2 y0 y1 y2 e
            go_wp2
            go_quiet (fail)
            go_wp2
            exact ⟨⟨k + 1, by go_num, by omega, below_drewN hB _⟩, by simp [intOf]; omega⟩
          · by_cases hl4 : k < m + 2
            · obtain ⟨d, hd, hd4⟩ : ∃ d : Nat, k = m + d ∧ d < 2 := ⟨k - m, by omega, by omega⟩
              have h1 : (k : Int) < (m : Int) + 2 := by omega
              have h2 : ¬ (k : Int) < (m : Int) := by omega
              have h2d : decide ((k : Int) < (m : Int)) = false := decide_eq_false h2
              have h3 : (m : Int) ≤ (k : Int) := by omega
              have h3d : decide ((m : Int) ≤ (k : Int)) = true := decide_eq_true h3
              have h4d : decide (m ≤ k) = true := decide_eq_true (by omega)
              have h5d : decide (k < m) = false := decide_eq_false (by omega)
              obtain ⟨x, rfl, x0, x1, x2⟩ := HT.out k (by rw [List.length_append, HN.out.2]; show k < m + 2; omega)
              have e : (ls ++ marksT).getD k zeroTri = (-7 - (d : Int), 0, 0) := by
                rw [List.getD_eq_getElem?_getD, List.getElem?_append_right (by rw [HN.out.2]; omega), HN.out.2, show k - m = d by omega]
                rcases (show d = 0 ∨ d = 1 by omega) with rfl | rfl <;> rfl
              rw [e] at x0 x1 x2
              dsimp only at x0 x1 x2
              have f0 := wrap_st7 (a := (k : Int) - (m : Int)) (by omega) (by omega)
              have f1 := wrap_st7 (a := -7 - (d : Int)) (by omega) (by omega)
              have f2 : (k : Int) - (m : Int) = (d : Int) := by omega
              obtain ⟨f00, f01⟩ := f0
              obtain ⟨f10, f11⟩ := f1
              rw [f2] at f00 f01
              have u0 := cell_later hB x0
              have u1 := cell_later hB x1
              have u2 := cell_later hB x2
              have HD := Lib.hid hd
              clear x0 x1 x2 e hd
              go_wp2
              go_quiet (fail)
              go_wp2
              exact ⟨⟨k + 1, by go_num, by omega, below_drewN hB _⟩, by simp [intOf]; omega⟩
            · obtain rfl : k = m + 2 := by omega
              have h1 : ¬ ((m + 2 : Nat) : Int) < (m : Int) + 2 := by omega
              go_wp2
              go_ret
              exact ⟨rfl, hB⟩
end Go.Proofs.YtfjmdffhfjnopaaDoor
