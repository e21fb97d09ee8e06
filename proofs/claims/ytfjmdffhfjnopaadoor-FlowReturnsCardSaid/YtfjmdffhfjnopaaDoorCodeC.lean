/- code.One, code.All: what is handed back; the bytes that All holds. -/
import Derived.Test.YtfjmdffhfjnopaaDoorCodeB
import Derived.Test.YtfjmdffhfjnopaaDoorGen
namespace Go.Proofs.YtfjmdffhfjnopaaDoor
open Go.RowKit Vouch Go.Vk Go.Sort
theorem owns_shape {w : World} {base : Nat} {e : TypeId} {size : Nat} {v : Value} {n : Nat} {xs : List Value} (h : w.ownsRow base e size v n xs) : ∃ X c, v = .slice X n c := by
  rcases h.2 with ⟨rfl, rfl⟩ | ⟨g, cap, cur, rfl, _⟩
  · exact ⟨_, _, rfl⟩
  · exact ⟨_, _, rfl⟩
theorem owns_le {w : World} {B B' : Nat} {e : TypeId} {size : Nat} {v : Value} {n : Nat} {xs : List Value} (h : w.ownsRow B e size v n xs) (hb : B' ≤ B) : w.ownsRow B' e size v n xs := by
  refine ⟨h.1, ?_⟩
  rcases h.2 with h2 | ⟨g, cap, cur, h3, h4, h5⟩
  · exact .inl h2
  · exact .inr ⟨g, cap, cur, h3, by omega, h5⟩
theorem owns_same {w w' : World} {B : Nat} {e : TypeId} {size : Nat} {v : Value} {n : Nat} {xs : List Value} (h : w.ownsRow B e size v n xs) (hk : ∀ g, B ≤ g → w.heap[g]? ≠ none → w'.heap[g]? = w.heap[g]?) : w'.ownsRow B e size v n xs := by
  refine ⟨h.1, ?_⟩
  rcases h.2 with h2 | ⟨g, cap, cur, h3, h4, h5, h6⟩
  · exact .inl h2
  · exact .inr ⟨g, cap, cur, h3, h4, (hk g h4 (by rw [h5]; simp)).trans h5, h6⟩
set_option maxHeartbeats 400000 in
set_option maxRecDepth 100000 in
theorem one_any (bs : List Int) (A : Option Addr) (cap : Nat) (at_ : Int) (w : World) (hc : IntsAt w .u8 A bs) (hz : ∀ z ∈ bs, 0 ≤ z ∧ z < 256) (hn : bs.length ≤ 140737488355328) (hcap : bs.length ≤ cap) :
    Calls Tryd.prog 27 #[.slice A bs.length cap, .int .i64 at_] w fun e w' => ∃ v, e = .returned (.tuple #[insV (readE bs at_).2 v, .int .i64 (readE bs at_).1]) ∧ w'.ownsRow w.heap.size 5 1 v (readE bs at_).2.imm.length (byteVs (readE bs at_).2.imm) ∧ Below w.heap.size w w' := by
  have HC := Lib.hid hc
  have HZ := Lib.hid hz
  clear hc hz
  have hb0 : Below w.heap.size w (w.alloc (.cells #[.int .i64 0, .int .i64 0, .slice none 0 0, .int .i64 0] 42)) := (Below.refl _ _).alloc (Nat.le_refl _) _
  have hg0 : (w.alloc (.cells #[.int .i64 0, .int .i64 0, .slice none 0 0, .int .i64 0] 42)).heap[w.heap.size]? = some (.cells #[.int .i64 0, .int .i64 0, .slice none 0 0, .int .i64 0] 42) := heap_alloc_new _ _
  have HRD := Lib.hid (fun w1 (hb : Below w.heap.size w w1) => read_any bs A cap at_ w1 (ints_below hb HC.out) HZ.out hn hcap)
  generalize readE bs at_ = r at HRD ⊢
  go_enter Tryd.func27, Tryd.ntmps27
  go_wp2_with (go_at_call 46; refine (HRD.out _ hb0).mono ?_; unfold insV; rintro e w1 ⟨v, rfl, ho, hb⟩; obtain ⟨X, c, rfl⟩ := owns_shape ho; have hg := kept_of hb hg0; obtain ⟨q0, q1, q2, q3, qz, ql⟩ := cells4 hg)
  rw [set4_eq hg]
  refine bodyPost_ret_by (results_row_tmp (cs := #[.int .i64 r.2.at_, .int .i64 r.2.code, .slice X r.2.imm.length c, .int .i64 r.2.next]) rfl _ _ w.heap.size _ _ _ rfl (setRow_heap _ _ _ _ _ _ hg) Tryd.underlying42 rfl (by kernel_rfl)) rfl ⟨.slice X r.2.imm.length c, rfl, ?_, below_setRow (hb0.trans (hb.mono (by simp))) (Nat.le_refl _) _⟩
  exact owns_le (owns_same ho (fun g hg' _ => heap_setRow _ _ _ _ (by simp at hg'; omega))) (by simp)
theorem copy_into (w : World) (g m sLen sCap : Nat) (A : Option Addr) (cur : Array Value) (zs : List Int) (hg : w.heap[g]? = some (.cells cur 5 (0, 0))) (hcur : cur.size = m) (hm : zs.length = m) (hs : m ≤ sLen) (hsrc : IntsAt w .u8 A zs) :
    ∃ W3, (Builtin.copy_ #[23, 23] 3 #[.slice (some ⟨g, 0, none⟩) m m, .slice A sLen sCap]).run Tryd.prog w = .ok (goInt m) W3 ∧ W3.heap[g]? = some (.cells (byteVs zs).toArray 5 (0, 0)) ∧ (∀ k, k ≠ g → W3.heap[k]? = w.heap[k]?) ∧ ∀ B w0, Below B w0 w → B ≤ g → Below B w0 W3 := by
  by_cases h0 : m = 0
  · subst h0
    refine ⟨w, run_copy_none (P := Tryd.prog) w 23 23 3 5 _ _ 0 0 sLen sCap Tryd.underlying23 (by kernel_rfl) (Nat.min_eq_right (by omega)), ?_, fun _ _ => rfl, fun _ _ h _ => h⟩
    rw [hg, List.eq_nil_of_length_eq_zero hm, Array.eq_empty_of_size_eq_zero hcur]
    rfl
  · obtain ⟨a, rfl, _⟩ := hsrc 0 (by omega)
    have hl : (byteVs zs).length = m := by unfold byteVs; simp [hm]
    have := run_copy_row (P := Tryd.prog) w 23 23 3 5 g 0 m m a sLen sCap cur 5 (byteVs zs) Tryd.underlying23 (by kernel_rfl) hg (by rw [hl]; exact (Nat.min_eq_right hs).symm) (bytes_src hsrc) (by rw [hl]; omega) bytes_one
    rw [hl] at this
    refine ⟨_, this, ?_, fun k hk => heap_setRow _ _ _ _ hk, fun B w0 hb hB => below_setRow hb hB _⟩
    rw [setRow_heap _ _ _ _ _ _ hg]
    have e : cur.toList.length = m := by simpa using hcur
    simp [e]
/-- The bytes that an iterator holds, in a variable of its own. -/
def HeldAt (bs : List Int) (B g : Nat) (W : World) : Prop := ∃ h, B ≤ g ∧ B ≤ h ∧ W.heap[g]? = some (.cells #[.slice (some ⟨h, 0, none⟩) bs.length bs.length] 23 (0, 0)) ∧ W.heap[h]? = some (.cells (byteVs bs).toArray 5 (0, 0))
set_option maxHeartbeats 400000 in
set_option maxRecDepth 100000 in
theorem codeall_any (bs : List Int) (A : Option Addr) (cap : Nat) (w : World) (hc : IntsAt w .u8 A bs) (hn : bs.length ≤ 140737488355328) :
    Calls Tryd.prog 41 #[.slice A bs.length cap] w fun e w' => ∃ g, e = .returned (.func (.func 59) #[] #[.pointer (some ⟨g, 0, none⟩)]) ∧ HeldAt bs w.heap.size g w' ∧ Below w.heap.size w w' := by
  have HC := Lib.hid hc
  clear hc
  have hmk := run_make_row' (P := Tryd.prog) 23 5 (.int .u8 0) 1 Tryd.underlying23 (by kernel_rfl) rfl .i64 .i64 bs.length (by omega) (by omega)
  have hg : ((w.alloc (.cells (madeCells #[.int .u8 0] bs.length) 5)).alloc (.cells #[.slice (some ⟨w.heap.size, 0, none⟩) bs.length bs.length] 23)).heap[w.heap.size]? = some (.cells (madeCells #[.int .u8 0] bs.length) 5 (0, 0)) := heap_alloc2_old _ _ _
  have hg1 : ((w.alloc (.cells (madeCells #[.int .u8 0] bs.length) 5)).alloc (.cells #[.slice (some ⟨w.heap.size, 0, none⟩) bs.length bs.length] 23)).heap[w.heap.size + 1]? = some (.cells #[.slice (some ⟨w.heap.size, 0, none⟩) bs.length bs.length] 23 (0, 0)) := by
    have := heap_alloc_new (w.alloc (.cells (madeCells #[.int .u8 0] bs.length) 5)) (.cells #[.slice (some ⟨w.heap.size, 0, none⟩) bs.length bs.length] 23)
    simpa using this
  have hb : Below w.heap.size w ((w.alloc (.cells (madeCells #[.int .u8 0] bs.length) 5)).alloc (.cells #[.slice (some ⟨w.heap.size, 0, none⟩) bs.length bs.length] 23)) := ((Below.refl _ _).alloc (Nat.le_refl _) _).alloc (by simp) _
  obtain ⟨W3, hcp, hg3, hother, hbel⟩ := copy_into _ w.heap.size bs.length bs.length cap A _ bs hg (size_madeCells _ _) rfl (Nat.le_refl _) (ints_below hb HC.out)
  have hb3 := hbel _ _ hb (Nat.le_refl _)
  have hg4 := (hother (w.heap.size + 1) (by omega)).trans hg1
  go_enter Tryd.func41, Tryd.ntmps41
  go_wp2
  go_ret
  exact ⟨_, rfl, ⟨_, by omega, Nat.le_refl _, hg4, hg3⟩, hb3⟩
end Go.Proofs.YtfjmdffhfjnopaaDoor
