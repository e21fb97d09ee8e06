/- vouchlaw6.CodeOnes: the walk. -/
import Derived.Test.YthjnjdpiihpgeaaDoorRefOne6
namespace Go.Proofs.YthjnjdpiihpgeaaDoor
open Go.RowKit Vouch Go.Vk Go.Sort
set_option maxHeartbeats 1000000 in
set_option maxRecDepth 100000 in
theorem ones_walk (A : Option Addr) (capA : Nat) (za : List Int) (at_ : Int) (w : World)
    (hca : IntsAt w .u8 A za) (hza : ∀ n ∈ za, (Lit.int .u8 n).wf = true) (hn : za.length ≤ 140737488355328) (hw : (Lit.int .i64 at_).wf = true) :
    Calls Tryd.prog 5 #[.slice A za.length capA, .int .i64 at_] w fun e w' => e = .returned (.bool true) ∧ Below w.heap.size w w' := by
  have ra : ∀ z ∈ za.take 70000, 0 ≤ z ∧ z < 256 := fun z h => byte_wf (hza z (List.mem_of_mem_take h))
  have la : (za.take 70000).length ≤ 70000 := by rw [List.length_take]; omega
  have lb : (za.take 70000).length ≤ za.length := by rw [List.length_take]; omega
  have le : za.take 70000 = za.take (za.take 70000).length := by rw [List.length_take, take_min']
  have HL := Lib.hid (laid_any za A capA w hca hn)
  have HI := Lib.hid (fun w1 (hb : Below w.heap.size w w1) => ints_below hb hca)
  generalize za.take 70000 = bs at ra la lb le HL
  have HZ := Lib.hid ra
  have HE := Lib.hid le
  have HC := Lib.hid hca
  clear ra le hca hza
  go_enter Tryd.func5, Tryd.ntmps5
  go_wp2_with (go_at_call 21; refine stop_r ?_)
  unfold StopR
  refine HL.out.mono ?_
  rintro e w1 ⟨g, c, rfl, ho1, hb1⟩
  have hi1 : IntsAt w1 .u8 (some ⟨g, 0, none⟩) bs := by
    have e : (bs ++ marksN 75).length = bs.length + 75 := by rw [List.length_append, marksN_length]
    have := ho1
    rw [← e] at this
    have := ints_take (owned_ints this) bs.length
    rwa [List.take_left] at this
  go_wp2_with (go_at_call 22; refine stop_r ?_)
  unfold StopR
  refine (one_any bs _ c at_ w1 hi1 HZ.out (by omega) (by have := owned_cap ho1; omega)).mono ?_
  generalize hrd : readE bs at_ = r
  obtain ⟨er, i⟩ := r
  unfold insV
  rintro e w2 ⟨v, rfl, ho2, hb2⟩
  obtain ⟨X, cx, rfl⟩ := owns_shape ho2
  have hb3 := hb2.alloc hb2.size (.cells #[.int .i64 i.at_, .int .i64 i.code, .slice X i.imm.length cx, .int .i64 i.next] 34)
  have hg3 := heap_alloc_new w2 (.cells #[.int .i64 i.at_, .int .i64 i.code, .slice X i.imm.length cx, .int .i64 i.next] 34)
  have ho3 := ho2.alloc (.cells #[.int .i64 i.at_, .int .i64 i.code, .slice X i.imm.length cx, .int .i64 i.next] 34)
  go_wp2_with (go_at_call 23; refine stop_r ?_)
  generalize w2.alloc (.cells #[.int .i64 i.at_, .int .i64 i.code, .slice X i.imm.length cx, .int .i64 i.next] 34) = W3 at hb3 hg3 ho3 ⊢
  unfold StopR
  refine (refone_any bs _ c at_ W3 (ints_below hb3 hi1) HZ.out (by omega) hw).mono ?_
  rw [hrd]
  unfold insV
  rintro e w4 ⟨v, rfl, ho4, hb4⟩
  obtain ⟨Y, cy, rfl⟩ := owns_shape ho4
  have hb5 := hb4.alloc hb4.size (.cells #[.int .i64 i.at_, .int .i64 i.code, .slice Y i.imm.length cy, .int .i64 i.next] 34)
  have hg5 := heap_alloc_new w4 (.cells #[.int .i64 i.at_, .int .i64 i.code, .slice Y i.imm.length cy, .int .i64 i.next] 34)
  have ho5 := ho4.alloc (.cells #[.int .i64 i.at_, .int .i64 i.code, .slice Y i.imm.length cy, .int .i64 i.next] 34)
  have hg35 := kept_of hb5 hg3
  have ho35 := own_below ho3 hb5
  have HS := same_eq i X Y cx cy _ (owned_ints ho35) (owned_ints ho5)
  have ho15 := own_below (own_below ho1 hb3) hb5
  have hB5 : Below w.heap.size w _ := hb1.trans ((hb3.trans (hb5.mono hb3.size)).mono hb1.size)
  obtain ⟨q0, q1, q2, q3, qz, ql⟩ := cells4 hg35
  obtain ⟨k0, k1, k2, k3, kz, kl⟩ := cells4 hg5
  have HT := Lib.hid (fun w6 (hb6 : Below (w4.alloc (.cells #[.int .i64 i.at_, .int .i64 i.code, .slice Y i.imm.length cy, .int .i64 i.next] 34)).heap.size (w4.alloc (.cells #[.int .i64 i.at_, .int .i64 i.code, .slice Y i.imm.length cy, .int .i64 i.next] 34)) w6) => stay_any bs za g c A capA w.heap.size w6 (own_below ho15 hb6) (HI.out _ (hB5.trans (hb6.mono hB5.size))) HE.out lb hn)
  unfold insV at HS
  go_wp2_with (first
    | (go_at_call 20; refine HS.mono ?_; rintro e w6 ⟨rfl, hb6⟩)
    | (go_at_call 24; refine (HT.out _ hb6).mono ?_; rintro e w7 ⟨rfl, hb7⟩; have hb67 := hb6.trans (hb7.mono hb6.size))
    | (go_at_call 17; refine (awake6 _).mono ?_; rintro e w8 ⟨rfl, hb8⟩))
  go_ret
  exact ⟨rfl, hB5.trans ((hb67.trans (hb8.mono hb67.size)).mono hB5.size)⟩
end Go.Proofs.YthjnjdpiihpgeaaDoor
