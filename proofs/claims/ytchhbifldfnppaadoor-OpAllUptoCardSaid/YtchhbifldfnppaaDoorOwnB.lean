/- Rows of bytes that the walk owns (for a seat without the code texts). -/
import Derived.Test.YtchhbifldfnppaaDoorOwnSet
import Derived.Test.YtchhbifldfnppaaDoorOpen
import Derived.Test.YtchhbifldfnppaaDoorRNeeds
import Derived.Laws.CopyOwn
import Derived.OwnWalk
import Derived.Laws.OwnMore
import Derived.Laws.BitsLemmas
import Derived.Laws.AppendOwnNone
import Derived.Deep.AppendLies
namespace Go.Proofs.YtchhbifldfnppaaDoor
open Go.RowKit Vouch Go.Vk Go.Sort
def byteVs (zs : List Int) : List Value := zs.map (.int .u8)
theorem bytes_src {w : World} {y : Addr} {zs : List Int} (h : IntsAt w .u8 (some y) zs) : ∀ j v, (byteVs zs)[j]? = some v → w.cell? (y.add j) = some v := by
  intro j v hv
  unfold byteVs at hv
  rw [List.getElem?_map] at hv
  obtain ⟨z, hz, rfl⟩ := Option.map_eq_some_iff.1 hv
  have hj := (List.getElem?_eq_some_iff.1 hz).1
  obtain ⟨x, hx, hc⟩ := h j hj
  cases hx
  rw [hc, List.getD_eq_getElem?_getD, hz]
  rfl
theorem bytes_one {zs : List Int} : ∀ v ∈ byteVs zs, v.oneCell' = true := by
  intro v hv
  obtain ⟨z, _, rfl⟩ := List.mem_map.1 hv
  rfl
theorem owns_shape {w : World} {base : Nat} {e : TypeId} {size : Nat} {v : Value} {n : Nat} {xs : List Value} (h : w.ownsRow base e size v n xs) : ∃ X c, v = .slice X n c := by
  rcases h.2 with ⟨rfl, rfl⟩ | ⟨g, cap, cur, rfl, _⟩
  · exact ⟨_, _, rfl⟩
  · exact ⟨_, _, rfl⟩
theorem owns_le {w : World} {B B' : Nat} {e : TypeId} {size : Nat} {v : Value} {n : Nat} {xs : List Value} (h : w.ownsRow B e size v n xs) (hb : B' ≤ B) : w.ownsRow B' e size v n xs := by
  refine ⟨h.1, ?_⟩
  rcases h.2 with h2 | ⟨g, cap, cur, h3, h4, h5⟩
  · exact .inl h2
  · exact .inr ⟨g, cap, cur, h3, by omega, h5⟩
theorem owns_same {w w' : World} {B : Nat} {e : TypeId} {size : Nat} {v : Value} {n : Nat} {xs : List Value} (h : w.ownsRow B e size v n xs) (hk : ∀ g, B ≤ g → w.heap[g]? ≠ none → w'.heap[g]? = w.heap[g]?) : w'.ownsRow B e size v n xs := by
  refine ⟨h.1, ?_⟩
  rcases h.2 with h2 | ⟨g, cap, cur, h3, h4, h5, h6⟩
  · exact .inl h2
  · exact .inr ⟨g, cap, cur, h3, h4, (hk g h4 (by rw [h5]; simp)).trans h5, h6⟩
theorem infoByte : (Tryd.prog.info? 5).map (fun i => (i.zero, i.size, i.bytes)) = some (some (.int .u8 0), 1, 1) := by kernel_rfl
theorem byteVs_length (l : List Int) : (byteVs l).length = l.length := by unfold byteVs; simp
theorem own_empty (w : World) : (w.alloc (.cells #[] 5)).ownsRow w.heap.size 5 1 (.slice (some ⟨w.heap.size, 0, none⟩) 0 0) 0 [] :=
  ⟨rfl, .inr ⟨w.heap.size, 0, #[], rfl, Nat.le_refl _, heap_alloc_new _ _, Nat.le_refl _, by unfold maxLen; omega, rfl, rfl⟩⟩
theorem own_head {w : World} {base e size n cap : Nat} {Y : Option Addr} {xs : List Value} (h : w.ownsRow base e size (.slice Y n cap) n xs) (hn : 0 < n) : ∃ g, Y = some ⟨g, 0, none⟩ := by
  rcases h.2 with ⟨_, h2⟩ | ⟨g, c', cur, h2, _⟩
  · omega
  · cases h2
    exact ⟨g, rfl⟩
theorem owned_ints {w : World} {B : Nat} {X : Option Addr} {c : Nat} {zs : List Int} (h : w.ownsRow B 5 1 (.slice X zs.length c) zs.length (byteVs zs)) : IntsAt w .u8 X zs := fun i hi => by
  obtain ⟨g, rfl⟩ := own_head h (by omega)
  refine ⟨_, rfl, ?_⟩
  rw [show (⟨g, 0, none⟩ : Addr).add i = ⟨g, i, none⟩ by unfold Addr.add; split <;> simp_all, h.cellAt i (by omega)]
  simp [byteVs, List.getD_eq_getElem?_getD, List.getElem?_eq_getElem hi]
theorem owned_cap {w : World} {B e size n c : Nat} {X : Option Addr} {xs : List Value} (h : w.ownsRow B e size (.slice X n c) n xs) : n ≤ c := by
  rcases h.2 with ⟨h1, h2⟩ | ⟨g, c', cur, h1, _, _, h4, _⟩
  · omega
  · cases h1
    exact h4
theorem byte_wf {n : Int} (h : (Lit.int .u8 n).wf = true) : 0 ≤ n ∧ n < 256 := by
  simp [Lit.wf, IntKind.min, IntKind.max, IntKind.signed, IntKind.bits] at h
  omega
theorem addr_zero (g j : Nat) : (⟨g, 0, none⟩ : Addr).add j = ⟨g, j, none⟩ := by unfold Addr.add; split <;> simp_all
theorem byteVs_set (zs : List Int) (j : Nat) (v : Int) : byteVs (zs.set j v) = (byteVs zs).set j (.int .u8 v) := by unfold byteVs; rw [List.map_set]
theorem ints_fresh (w : World) (zs : List Int) (cs : Array Value) (t : TypeId) (h : cs = (byteVs zs).toArray) : IntsAt (w.alloc (.cells cs t)) .u8 (some ⟨w.heap.size, 0, none⟩) zs := fun i hi => by
  refine ⟨_, rfl, ?_⟩
  rw [addr_zero, World.cell?_alloc_new, h]
  simp [byteVs, List.getD_eq_getElem?_getD, List.getElem?_eq_getElem hi]
/-- append of bytes that are read to a row that the walk owns. -/
theorem wpList_append_ints {w : World} {ops : Array Oper} {rest : List Oper} {o : Oper} {a : Act} {Q : Exit → Act → World → Prop} (hgd : o.guard = none) (s x : Operand)
    (ho : o.op = .call { callee := .builtin .append, args := #[s, x], argTypes := #[39, 39] }) (base : Nat) (v : Value) (n : Nat) (zs : List Int) (hs : a.eval s = v) (hown : w.ownsRow base 5 1 v n (byteVs zs))
    (A : Option Addr) (m cap : Nat) (ys : List Int) (hx : a.eval x = .slice A m cap) (hm : m = ys.length) (hsrc : IntsAt w .u8 A ys) (hnil : A = none → cap = 0) (hle : m ≤ cap) (hbytes : n + m ≤ 140737488355328) (hbase : base ≤ w.heap.size)
    (h : ∀ v' w', w'.ownsRow base 5 1 v' (n + m) (byteVs (zs ++ ys)) → w.grownBy w' v.ownBlock → wpList Tryd.prog ops Q rest (a.put o.dst v') w') : wpList Tryd.prog ops Q (o :: rest) a w := by
  obtain ⟨i0, hi, hz0, hz1, hz2⟩ := info_parts infoByte
  have hbv : byteVs (zs ++ ys) = byteVs zs ++ byteVs ys := by unfold byteVs; rw [List.map_append]
  cases A with
  | none =>
    obtain rfl := hnil rfl
    obtain rfl : m = 0 := by omega
    obtain rfl := List.eq_nil_of_length_eq_zero hm.symm
    refine wpList_append_own_none hgd s x 39 ho base 5 i0 1 Tryd.underlying39 hi v n (byteVs zs) hs hown hx (h v w ?_ (World.grownBy.refl _ _))
    rw [List.append_nil]
    exact hown
  | some y =>
    refine wpList_append_own w hgd s x 39 ho base 5 i0 (.int .u8 0) 1 1 Tryd.underlying39 hi hz0 hz1 hz2 rfl (by decide) v n (byteVs zs) hs hown y m cap (byteVs ys) hx (by rw [byteVs_length, hm, Nat.mul_one]) (bytes_src hsrc) bytes_one (by unfold maxLen; omega) (by omega) hbase (fun v' w' h1 h2 _ => h v' w' ?_ h2)
    rw [hbv]
    exact h1
/-- The same, in a region that draws its order. -/
theorem step_append_own {P : Program} {w : World} {ops : Array Oper} {o : Oper} {a : Act} {K : Act → World → Prop} {Q : Exit → Act → World → Prop} {E : Prop} (hgd : o.guard = none) (s x : Operand) (t : TypeId)
    (ho : o.op = .call { callee := .builtin .append, args := #[s, x], argTypes := #[t, t] })
    (base : Nat) (e : TypeId) (i : TypeInfo) (z : Value) (size bytes : Nat) (ht : P.underlying t = some (.slice e)) (hi : P.info? e = some i) (hz : i.zero = some z)
    (hsize : i.size = size) (hby : i.bytes = bytes) (hzs : z.cells.size = size) (hsz : 0 < size)
    (v : Value) (n : Nat) (xs : List Value) (hs : a.eval s = v) (hown : w.ownsRow base e size v n xs)
    (ad : Addr) (m c : Nat) (news : List Value) (hx : a.eval x = .slice (some ad) m c) (hl : news.length = m * size) (hnews : ∀ j u, news[j]? = some u → w.cell? (ad.add j) = some u) (h1 : ∀ u ∈ news, u.oneCell' = true)
    (h63 : n + m ≤ maxLen) (hbytes : (n + m) * bytes ≤ 140737488355328) (hbase : base ≤ w.heap.size)
    (h : ∀ v' w', w'.ownsRow base e size v' (n + m) (xs ++ news) → w.grownBy w' v.ownBlock → K (a.put o.dst v') w') : if Region.wanted o (yielded ops a.tmps) = true then Oper.wp P o a w K Q else E := by
  rw [if_pos (show Region.wanted o (yielded ops a.tmps) = true by simp [Region.wanted, hgd])]
  exact wp_append_own w s x t ho base e i z size bytes ht hi hz hsize hby hzs hsz v n xs hs hown ad m c news hx hl hnews h1 h63 hbytes hbase (fun v' w' h2 h3 _ => h v' w' h2 h3)
end Go.Proofs.YtchhbifldfnppaaDoor
