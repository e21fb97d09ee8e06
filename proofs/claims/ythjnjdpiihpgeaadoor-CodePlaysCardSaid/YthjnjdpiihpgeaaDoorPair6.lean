/- code.pair, vouchref6.distance: two bytes as a number. -/
import Derived.Test.YthjnjdpiihpgeaaDoorStands6
import Derived.Laws.Shifts
import Derived.Laws.BitsLemmas
namespace Vouch
def pairN (z : List Int) (k : Nat) : Int := 256 * z.getD k 0 + z.getD (k + 1) 0
def i16N (n : Int) : Int := if 32768 ≤ n then n - 65536 else n
def distN (z : List Int) (k : Nat) : Int := i16N (pairN z k)
end Vouch
namespace Go.Proofs.YthjnjdpiihpgeaaDoor
open Go.RowKit Vouch Go.Vk Go.Sort
theorem i16_wrap (n : Int) (h0 : 0 ≤ n) (h1 : n < 65536) : IntKind.i16.wrap n = i16N n := by
  simp [IntKind.wrap, IntKind.bits, IntKind.signed, i16N]
  split <;> split <;> omega
theorem wraps_i64 (n : Int) (h₀ : 0 ≤ n) (h₁ : n < 2 ^ 63) : IntKind.i64.wrap n = n := by rw [IntKind.wrap_i64]; omega
theorem i64_or8 (a b : Int) (h0 : 0 ≤ a ∧ a < 256) (h1 : 0 ≤ b ∧ b < 256) : bits .or .i64 (a * 256) b = 256 * a + b := by
  rw [bits_join .i64 63 (by decide) wraps_i64 8 (a * 256) b (by omega) (by omega) (by omega) (by omega) (by omega) (by omega)]
  omega
set_option maxHeartbeats 400000 in
set_option maxRecDepth 100000 in
theorem pair_any (a b : Int) (y : Addr) (n cap : Nat) (w : World) (ha : 0 ≤ a ∧ a < 256) (hb : 0 ≤ b ∧ b < 256) (hx0 : w.cell? y = some (.int .u8 a)) (hx1 : w.cell? (y.add 1) = some (.int .u8 b)) (hn : 2 ≤ n) :
    Calls Tryd.prog 44 #[.slice (some y) n cap] w fun e w' => e = .returned (.int .i64 (256 * a + b)) ∧ Below w.heap.size w w' := by
  have h2 : (0 : Int) < n := by omega
  have h3 : (1 : Int) < n := by omega
  have h2a : 0 < n := by omega
  have h3a : 1 < n := by omega
  have h4a : ¬ n = 0 := by omega
  have hor := i64_or8 a b ha hb
  have hy1 : w.cell? ⟨y.block, y.off + 1, none⟩ = some (.int .u8 b) := by rw [← hx1]; congr 1
  clear hx1
  have hwa : IntKind.i64.wrap a = a := by rw [IntKind.wrap_i64]; omega
  have hwb : IntKind.i64.wrap b = b := by rw [IntKind.wrap_i64]; omega
  have hws : IntKind.i64.wrap (a * 256) = a * 256 := by rw [IntKind.wrap_i64]; omega
  have hwt : wrap64 (a * 256) = a * 256 := by unfold wrap64; omega
  go_enter Tryd.func44, Tryd.ntmps44
  go_wp2
  go_quiet (fail)
  go_wp2
  go_ret
  exact ⟨rfl, below_drewN (Below.refl _ _) _⟩
set_option maxHeartbeats 400000 in
set_option maxRecDepth 100000 in
theorem distance_any (zs : List Int) (A : Option Addr) (cap k : Nat) (w : World) (hc : IntsAt w .u8 A zs) (hz : ∀ z ∈ zs, 0 ≤ z ∧ z < 256) (hk : k + 2 ≤ zs.length) (hn : zs.length ≤ 140737488355328) :
    Calls Tryd.prog 46 #[.slice A zs.length cap, .int .i64 k] w fun e w' => e = .returned (.int .i64 (distN zs k)) ∧ Below w.heap.size w w' := by
  obtain ⟨y, rfl, hx0⟩ := hc k (by omega)
  obtain ⟨y', hy, hx1⟩ := hc (k + 1) (by omega)
  cases hy
  have ha := hz (zs.getD k 0) (by rw [List.getD_eq_getElem?_getD, List.getElem?_eq_getElem (by omega)]; simp)
  have hb := hz (zs.getD (k + 1) 0) (by rw [List.getD_eq_getElem?_getD, List.getElem?_eq_getElem (by omega)]; simp)
  have hd : distN zs k = i16N (256 * zs.getD k 0 + zs.getD (k + 1) 0) := rfl
  generalize zs.getD k 0 = a at hx0 ha hd
  generalize zs.getD (k + 1) 0 = b at hx1 hb hd
  have HD := Lib.hid hd
  have hy1 : w.cell? ⟨y.block, y.off + (k + 1), none⟩ = some (.int .u8 b) := by rw [← hx1]; unfold Addr.add; rw [if_neg (by omega)]
  clear hx1
  clear hd hc hz
  have h2 : (k : Int) < (zs.length : Int) := by omega
  have h3 : (k : Int) + 1 < (zs.length : Int) := by omega
  have h4 : ((k : Int) + 1).toNat = k + 1 := by omega
  have h2a : k < zs.length := by omega
  have h3a : k + 1 < zs.length := by omega
  have h5 : (0 : Int) ≤ (k : Int) + 1 := by omega
  have hwk : wrap64 ((k : Int) + 1) = (k : Int) + 1 := by unfold wrap64; omega
  have hwa : IntKind.i64.wrap a = a := by rw [IntKind.wrap_i64]; omega
  have hwb : IntKind.i64.wrap b = b := by rw [IntKind.wrap_i64]; omega
  have hwt : wrap64 (256 * a) = 256 * a := by unfold wrap64; omega
  have hwu : wrap64 (256 * a + b) = 256 * a + b := by unfold wrap64; omega
  by_cases hg : 32768 ≤ 256 * a + b
  · have hwv : wrap64 (256 * a + b - 65536) = 256 * a + b - 65536 := by unfold wrap64; omega
    go_enter Tryd.func46, Tryd.ntmps46
    go_wp2
    go_quiet (fail)
    go_wp2
    go_ret
    exact ⟨by rw [HD.out]; unfold i16N; rw [if_pos hg]; rfl, below_drewN (Below.refl _ _) _⟩
  · go_enter Tryd.func46, Tryd.ntmps46
    go_wp2
    go_quiet (fail)
    go_wp2
    go_ret
    exact ⟨by rw [HD.out]; unfold i16N; rw [if_neg (by omega)]; rfl, below_drewN (Below.refl _ _) _⟩
end Go.Proofs.YthjnjdpiihpgeaaDoor
