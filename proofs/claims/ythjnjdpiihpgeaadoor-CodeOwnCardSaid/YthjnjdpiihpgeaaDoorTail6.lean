/- CodeOwn's last part: words for lists that are lengthened. -/
import Derived.Test.YthjnjdpiihpgeaaDoorFam6
import Derived.Test.YthjnjdpiihpgeaaDoorMarks
import Derived.Test.YthjnjdpiihpgeaaDoorDefs
namespace Go.Proofs.YthjnjdpiihpgeaaDoor
open Go.RowKit Vouch Go.Vk Go.Sort
/-- What is no row of e's keeps its place. -/
def KeepE (e : TypeId) (W W' : World) : Prop := ∀ (q : Nat) (o : Obj), W.heap[q]? = some o → (∀ cs, o ≠ .cells cs e (0, 0)) → W'.heap[q]? = some o
theorem keepe_alloc (e : TypeId) (W : World) (o : Obj) : KeepE e W (W.alloc o) := fun _ _ hq _ => heap_alloc_before hq o
theorem keepe_trans {e : TypeId} {W W' W'' : World} (h : KeepE e W W') (h' : KeepE e W' W'') : KeepE e W W'' := fun q o hq ho => h' q o (h q o hq ho) ho
theorem keepe_grown {e : TypeId} {W W' : World} {B sz n : Nat} {v : Value} {xs : List Value} (hr : W.ownsRow B e sz v n xs) (hg : W.grownBy W' v.ownBlock) : KeepE e W W' := fun q o hq ho => by
  refine (hg.block q (Array.getElem?_eq_some_iff.1 hq).1 (fun e0 => ?_)).trans hq
  obtain ⟨cs, hc⟩ := own_block hr e0.symm
  rw [hq] at hc
  exact ho cs (Option.some.inj hc)
theorem own_keepe {e t : TypeId} {W W' : World} {B sz n : Nat} {v : Value} {xs : List Value} (h : W.ownsRow B t sz v n xs) (hk : KeepE e W W') (ht : t ≠ e) : W'.ownsRow B t sz v n xs := own_as h fun q hq => by
  obtain ⟨cs, hc⟩ := own_block h hq
  rw [hc]
  exact hk q _ hc fun cs' e0 => by cases e0; exact ht rfl
/-- Lists whose elements' first cells are one value, lengthened by such. -/
theorem fill_more {ls news : List Value} {len m sz : Nat} {x : Value} (hl : ls.length = len * sz) (h1 : ∀ j, j < len → ls[j * sz]? = some x) (h2 : ∀ r, r < m → news[r * sz]? = some x) : ∀ j, j < len + m → (ls ++ news)[j * sz]? = some x := fun j hj => by
  by_cases h : j < len
  · exact (List.getElem?_append_left (List.getElem?_eq_some_iff.1 (h1 j h)).1).trans (h1 j h)
  · have e : j * sz = ls.length + (j - len) * sz := by
      rw [hl, ← Nat.add_mul]
      congr 1
      omega
    rw [e, List.getElem?_append_right (by omega), Nat.add_sub_cancel_left]
    exact h2 _ (by omega)
theorem upd_map {u : Nat → Value} {i : Nat} {x : Value} : (List.range (i + 1)).map (upd u i x) = (List.range i).map u ++ [x] := by
  rw [List.range_succ, List.map_append]
  congr 1
  · refine List.map_congr_left fun j hj => ?_
    have := List.mem_range.1 hj
    unfold upd
    rw [if_neg (by omega)]
  · simp [upd]
theorem upd_at {u : Nat → Value} {i j : Nat} (h : j < i) : ((List.range i).map u)[j]? = some (u j) := by simp [h]
theorem rep_snoc (n : Nat) (x : Value) : List.replicate (n + 1) x = List.replicate n x ++ [x] := List.replicate_succ'
theorem defsl_keepe {B : Nat} {ds : List Deferred} {e : TypeId} {W W' : World} (h : DefsL B ds W) (hk : KeepE e W W') : DefsL B ds W' := defsl_keep h fun q o hq ho => hk q o hq fun cs e0 => by rw [e0] at ho; cases ho
theorem other_kept {W W' : World} {o : Obj} {B e sz n : Nat} {v v2 : Value} {xs : List Value} (h2 : W.ownsRow B e sz v2 n xs) (hg : (W.alloc o).grownBy W' v.ownBlock) (hne : ∀ q, v2.ownBlock = some q → v.ownBlock ≠ some q) : W'.ownsRow B e sz v2 n xs :=
  own_as h2 fun q hq => (hg.block q (by have := (h2.lt q hq).2; simp; omega) (fun e => hne q hq e.symm)).trans (Below.heap_alloc W o q (h2.lt q hq).2)
theorem loc_ne {W : World} {v v' : Value} {q : Nat} (hloc : v'.ownBlock = v.ownBlock ∨ v'.ownBlock = some (W.heap.size + 1)) (hne : v.ownBlock ≠ some q) (hq : q < W.heap.size) : v'.ownBlock ≠ some q := by
  rcases hloc with h | h
  · rw [h]; exact hne
  · rw [h]
    intro e
    injection e with e
    omega
def news3 (x : Int) : List Value := [.int .i64 x, .int .i64 0, .slice none 0 0, .int .i64 0, .int .i64 x, .int .i64 0, .slice none 0 0, .int .i64 0, .int .i64 x, .int .i64 0, .slice none 0 0, .int .i64 0]
theorem news3_at (x : Int) : ∀ r, r < 3 → (news3 x)[r * 4]? = some (.int .i64 x) := fun r hr => by
  rcases (show r = 0 ∨ r = 1 ∨ r = 2 by omega) with rfl | rfl | rfl <;> rfl
theorem news8_at (x : Value) : ∀ r, r < 8 → (List.replicate 8 x)[r * 1]? = some x := fun r hr => by
  rw [Nat.mul_one, List.getElem?_replicate, if_pos hr]
theorem infoBool : (Tryd.prog.info? 4).map (fun i => (i.zero, i.size, i.bytes)) = some (some (.bool false), 1, 1) := by kernel_rfl
end Go.Proofs.YthjnjdpiihpgeaaDoor
