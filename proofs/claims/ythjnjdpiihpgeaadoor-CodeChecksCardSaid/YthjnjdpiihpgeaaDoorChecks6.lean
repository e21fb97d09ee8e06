/- vouchlaw6.CodeChecks: the walk. -/
import Derived.Test.YthjnjdpiihpgeaaDoorRefCheck6
import Derived.Test.YthjnjdpiihpgeaaDoorStay6
namespace Go.Proofs.YthjnjdpiihpgeaaDoor
open Go.RowKit Vouch Go.Vk Go.Sort
set_option maxHeartbeats 1000000 in
set_option maxRecDepth 100000 in
theorem checks_walk (A : Option Addr) (capA : Nat) (za : List Int) (w : World)
    (hca : IntsAt w .u8 A za) (hza : ∀ n ∈ za, (Lit.int .u8 n).wf = true) (hn : za.length ≤ 140737488355328) :
    Calls Tryd.prog 12 #[.slice A za.length capA] w fun e w' => e = .returned (.bool true) ∧ Below w.heap.size w w' := by
  have ra : ∀ z ∈ za.take 70000, 0 ≤ z ∧ z < 256 := fun z h => byte_wf (hza z (List.mem_of_mem_take h))
  have la : (za.take 70000).length ≤ 70000 := by rw [List.length_take]; omega
  have lb : (za.take 70000).length ≤ za.length := by rw [List.length_take]; omega
  have le : za.take 70000 = za.take (za.take 70000).length := by rw [List.length_take, take_min']
  have HL := Lib.hid (laid_any za A capA w hca hn)
  have HI := Lib.hid (fun w1 (hb : Below w.heap.size w w1) => ints_below hb hca)
  generalize za.take 70000 = bs at ra la lb le HL
  have HZ := Lib.hid ra
  have HE := Lib.hid le
  clear ra le hca hza
  go_enter Tryd.func12, Tryd.ntmps12
  go_wp2_with (go_at_call 21; refine stop_o ?_)
  unfold StopO
  refine HL.out.mono ?_
  rintro e w1 ⟨g, c, rfl, ho1, hb1⟩
  have hcc := owned_cap ho1
  have hi1 : IntsAt w1 .u8 (some ⟨g, 0, none⟩) bs := by
    have e : (bs ++ marksN 75).length = bs.length + 75 := by rw [List.length_append, marksN_length]
    have := ho1
    rw [← e] at this
    have := ints_take (owned_ints this) bs.length
    rwa [List.take_left] at this
  go_wp2_with (go_at_call 32; refine stop_o ?_)
  unfold StopO
  refine (check_any bs _ c w1 hi1 HZ.out (by omega) (by omega)).mono ?_
  rintro e w2 ⟨xs, hall, rfl, hb2⟩
  have hB2 := hb1.trans (hb2.mono hb1.size)
  go_wp2_with (go_at_call 33; refine stop_o ?_)
  unfold StopO
  refine (refcheck_any bs _ c w2 (ints_below hb2 hi1) HZ.out (by omega)).mono ?_
  rintro e w3 ⟨xs', hall', rfl, hb3⟩
  rw [all_same hall hall']
  have hB3 := hB2.trans (hb3.mono hB2.size)
  have ho3 := own_below (own_below ho1 hb2) hb3
  have HT := Lib.hid (fun w6 (hb6 : Below w3.heap.size w3 w6) => stay_any bs za g c A capA w.heap.size w6 (own_below ho3 hb6) (HI.out _ (hB3.trans (hb6.mono hB3.size))) HE.out lb hn)
  generalize checkE bs (xs.map Prod.fst) = r
  clear hall hall' ho1 ho3 hi1
  go_wp2_with (first
    | (go_at_call 24; refine (HT.out _ (Below.refl _ _)).mono ?_; rintro e w7 ⟨rfl, hb7⟩)
    | (go_at_call 17; refine (awake6 _).mono ?_; rintro e w8 ⟨rfl, hb8⟩))
  go_ret
  exact ⟨rfl, hB3.trans ((hb7.trans (hb8.mono hb7.size)).mono hB3.size)⟩
end Go.Proofs.YthjnjdpiihpgeaaDoor
