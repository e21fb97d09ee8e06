/- append onto a slice of the call's own: what lay there before reads as it did, the old slice's elements too (they lie behind the new slice where there was no room, and at its head where there was). Over any program. -/
import Derived.Test.YthjnjdpiihpgeaaDoorOwnSet
import Derived.Maps.AppendAt
import Derived.Laws.OwnMore
import Derived.OwnWalkIn
namespace Go.Vk
open Go.RowKit
theorem kept_of2 {W w1 : World} {k : Nat} {o : Obj} (hb : Below W.heap.size W w1) (h : W.heap[k]? = some o) : w1.heap[k]? = some o := (hb.block k (Array.getElem?_eq_some_iff.1 h).1).trans h
section
variable {P : Program} (w : World)
theorem run_append_own_keep (base : Nat) (t ty e : TypeId) (i : TypeInfo) (z : Value) (size bytes : Nat) (ht : P.underlying t = some (.slice e)) (hi : P.info? e = some i) (hz : i.zero = some z)
    (hsize : i.size = size) (hby : i.bytes = bytes) (hzs : z.cells.size = size) (hsz : 0 < size)
    (v : Value) (n : Nat) (xs : List Value) (hown : w.ownsRow base e size v n xs)
    (a : Addr) (m c : Nat) (news : List Value) (hl : news.length = m * size) (hnews : ∀ j u, news[j]? = some u → w.cell? (a.add j) = some u) (h1 : ∀ u ∈ news, u.oneCell' = true)
    (h63 : n + m ≤ maxLen) (hbytes : (n + m) * bytes ≤ 140737488355328) (hbase : base ≤ w.heap.size) :
    ∃ v' w', (Builtin.append_ #[t, t] ty #[v, .slice (some a) m c]).run P w = .ok v' w' ∧ w'.ownsRow base e size v' (n + m) (xs ++ news) ∧ w.grownBy w' v.ownBlock ∧
      (v'.ownBlock = v.ownBlock ∨ v'.ownBlock = some w.heap.size) ∧
      ∀ b o, b < w.heap.size → (v.ownBlock = some b → o < n * size) → w'.cell? ⟨b, o, none⟩ = w.cell? ⟨b, o, none⟩ := by
  obtain ⟨v', w', hr, h2, h3, _, h5⟩ := run_append_own_at (P := P) w base t ty e i z size bytes ht hi hz hsize hby hzs hsz v n xs hown a m c news hl hnews h1 h63 hbytes hbase
  refine ⟨v', w', hr, h2, h3, h5, fun b o hb ho => ?_⟩
  by_cases hv : v.ownBlock = some b
  · have ho' := ho hv
    rcases hown.2 with ⟨rfl, _⟩ | ⟨g, cap, cur, rfl, hbg, hg, hnc, hcm, hcs, htake⟩
    · cases hv
    · cases hv
      rcases h5 with h5 | h5
      · obtain ⟨cap', rfl⟩ : ∃ cap', v' = .slice (some ⟨g, 0, none⟩) (n + m) cap' := by
          rcases h2.2 with ⟨rfl, _⟩ | ⟨g', cap', _, rfl, _⟩
          · cases h5
          · cases h5
            exact ⟨_, rfl⟩
        have hlt : o < (n + m) * size := Nat.lt_of_lt_of_le ho' (Nat.mul_le_mul_right _ (by omega))
        rw [h2.cellAt o hlt, hown.cellAt o ho', List.getElem?_append_left (by rw [hown.1]; exact ho')]
      · by_cases hroom : n + m ≤ cap
        · have hfit : n * i.size + news.length ≤ cur.size := by rw [hl, hcs, hsize, ← Nat.add_mul]; exact Nat.mul_le_mul_right _ hroom
          have hr2 := run_append_room (P := P) w t ty e i ht hi g n cap cur hg a m c news (by rw [hsize]; exact hl) hnews h1 hroom hfit
          rw [hr2] at hr
          cases hr
          cases h5
          exact absurd (Array.getElem?_eq_some_iff.1 hg).1 (Nat.lt_irrefl _)
        · have holds : ∀ j u, xs[j]? = some u → w.cell? ((⟨g, 0, none⟩ : Addr).add j) = some u := hown.cells (g := g) rfl
          have h63' : ((n + m : Nat) : Int) ≤ 9223372036854775807 := by have := h63; unfold maxLen at this; omega
          have hr2 := run_append_grow (P := P) w t ty e i z ht hi hz ⟨g, 0, none⟩ n cap xs (by rw [hsize]; exact hown.1) holds a m c news (by rw [hsize]; exact hl) hnews (by omega) h63' (growslice_fits (by omega) (by rw [hby]; exact hbytes))
          rw [hr2] at hr
          cases hr
          exact World.cell?_of_block (a := ⟨g, o, none⟩) (Below.heap_alloc w.drew _ g (Array.getElem?_eq_some_iff.1 hg).1)
  · exact World.cell?_of_block (a := ⟨b, o, none⟩) (h3.block b hb (fun e => hv e.symm))
theorem wpList_append_own_keep {ops : Array Oper} {rest : List Oper} {o : Oper} {a : Act} {Q : Exit → Act → World → Prop} (hgd : o.guard = none) (s x : Operand) (t : TypeId)
    (ho : o.op = .call { callee := .builtin .append, args := #[s, x], argTypes := #[t, t] })
    (base : Nat) (e : TypeId) (i : TypeInfo) (z : Value) (size bytes : Nat) (ht : P.underlying t = some (.slice e)) (hi : P.info? e = some i) (hz : i.zero = some z)
    (hsize : i.size = size) (hby : i.bytes = bytes) (hzs : z.cells.size = size) (hsz : 0 < size)
    (v : Value) (n : Nat) (xs : List Value) (hs : a.eval s = v) (hown : w.ownsRow base e size v n xs)
    (ad : Addr) (m c : Nat) (news : List Value) (hx : a.eval x = .slice (some ad) m c) (hl : news.length = m * size) (hnews : ∀ j u, news[j]? = some u → w.cell? (ad.add j) = some u) (h1 : ∀ u ∈ news, u.oneCell' = true)
    (h63 : n + m ≤ maxLen) (hbytes : (n + m) * bytes ≤ 140737488355328) (hbase : base ≤ w.heap.size)
    (h : ∀ v' w', w'.ownsRow base e size v' (n + m) (xs ++ news) → w.grownBy w' v.ownBlock → (v'.ownBlock = v.ownBlock ∨ v'.ownBlock = some w.heap.size) →
      (∀ b o, b < w.heap.size → (v.ownBlock = some b → o < n * size) → w'.cell? ⟨b, o, none⟩ = w.cell? ⟨b, o, none⟩) → wpList P ops Q rest (a.put o.dst v') w') :
    wpList P ops Q (o :: rest) a w := by
  refine wpList_plain hgd fun K hK => ?_
  obtain ⟨v', w', hr, h2, h3, h4, h5⟩ := run_append_own_keep (P := P) w base t o.type e i z size bytes ht hi hz hsize hby hzs hsz v n xs hown ad m c news hl hnews h1 h63 hbytes hbase
  unfold Oper.wp execOp
  simp only [ho, resolve, invoke, builtin, Sem.run_bind, Sem.run_pure, Result.andThen_ok, List.map_toArray, List.map_cons, List.map_nil, hs, hx, hr]
  exact hK _ _ (h v' w' h2 h3 h4 h5)
end
end Go.Vk
