/- Rows of bytes, handed out one behind the other and kept in a list: CodeOwn's words. -/
import Derived.Test.YthjnjdpiihpgeaaDoorTake6
import Derived.Test.YthjnjdpiihpgeaaDoorAgrees6
namespace Go.Proofs.YthjnjdpiihpgeaaDoor
open Go.RowKit Vouch Go.Vk Go.Sort
/-- Rows that lie apart, each behind the ones before. -/
def Fam (B : Nat) (vs : List Value) (W : World) : Prop :=
  (∀ v ∈ vs, ∃ n zs, n ≤ 70000 ∧ W.ownsRow B 5 1 v n zs) ∧ vs.Pairwise (fun x y => ∀ a b, x.ownBlock = some a → y.ownBlock = some b → a < b)
theorem fam_shape {B : Nat} {vs : List Value} {W : World} (h : Fam B vs W) : ∀ v ∈ vs, ∃ A n c, v = .slice A n c := fun v hv => by
  obtain ⟨n, zs, _, ho⟩ := h.1 v hv
  obtain ⟨X, c, rfl⟩ := owns_shape ho
  exact ⟨_, _, _, rfl⟩
theorem fam_lt {B : Nat} {vs : List Value} {W : World} (h : Fam B vs W) : ∀ v ∈ vs, ∀ b, v.ownBlock = some b → B ≤ b ∧ b < W.heap.size := fun v hv b hb => by
  obtain ⟨n, zs, _, ho⟩ := h.1 v hv
  exact ho.lt b hb
theorem fam_below {B : Nat} {vs : List Value} {W W' : World} (h : Fam B vs W) (hb : Below W.heap.size W W') : Fam B vs W' := ⟨fun v hv => by
  obtain ⟨n, zs, hn, ho⟩ := h.1 v hv
  exact ⟨n, zs, hn, own_below ho hb⟩, h.2⟩
theorem fam_le {B B' : Nat} {vs : List Value} {W : World} (h : Fam B vs W) (hb : B' ≤ B) : Fam B' vs W := ⟨fun v hv => by
  obtain ⟨n, zs, hn, ho⟩ := h.1 v hv
  exact ⟨n, zs, hn, owns_le ho hb⟩, h.2⟩
theorem own_block {W : World} {B e size n b : Nat} {v : Value} {xs : List Value} (h : W.ownsRow B e size v n xs) (hb : v.ownBlock = some b) : ∃ cs, W.heap[b]? = some (.cells cs e (0, 0)) := by
  rcases h.2 with ⟨rfl, _⟩ | ⟨g, cap, cur, rfl, _, hh, _⟩
  · cases hb
  · cases hb
    exact ⟨_, hh⟩
theorem own_as {W W' : World} {B e size n : Nat} {v : Value} {xs : List Value} (h : W.ownsRow B e size v n xs) (hk : ∀ b, v.ownBlock = some b → W'.heap[b]? = W.heap[b]?) : W'.ownsRow B e size v n xs := by
  refine ⟨h.1, ?_⟩
  rcases h.2 with h2 | ⟨g, cap, cur, rfl, hB, hh, r⟩
  · exact .inl h2
  · exact .inr ⟨g, cap, cur, rfl, hB, (hk g rfl).trans hh, r⟩
theorem fam_as {B : Nat} {vs : List Value} {W W' : World} (h : Fam B vs W) (hk : ∀ v ∈ vs, ∀ b, v.ownBlock = some b → W'.heap[b]? = W.heap[b]?) : Fam B vs W' := ⟨fun v hv => by
  obtain ⟨n, zs, hn, ho⟩ := h.1 v hv
  exact ⟨n, zs, hn, own_as ho (hk v hv)⟩, h.2⟩
theorem fam_app {B : Nat} {vs rs : List Value} {W : World} (h : Fam B vs W) (h' : Fam B rs W) (hr : ∀ x ∈ vs, ∀ y ∈ rs, ∀ a b, x.ownBlock = some a → y.ownBlock = some b → a < b) : Fam B (vs ++ rs) W :=
  ⟨fun v hv => by
    rcases List.mem_append.1 hv with hv | hv
    · exact h.1 v hv
    · exact h'.1 v hv, List.pairwise_append.2 ⟨h.2, h'.2, hr⟩⟩
theorem fam_nil (B : Nat) (W : World) : Fam B [] W := ⟨(fun v hv => by cases hv), List.Pairwise.nil⟩
theorem fam_one {B n : Nat} {v : Value} {zs : List Value} {W : World} (h : W.ownsRow B 5 1 v n zs) (hn : n ≤ 70000) : Fam B [v] W := ⟨(fun u hu => by rw [List.mem_singleton.1 hu]; exact ⟨n, zs, hn, h⟩), List.Pairwise.cons (fun _ h => by cases h) List.Pairwise.nil⟩
theorem fam_take {B : Nat} {vs : List Value} {W : World} (h : Fam B vs W) (k : Nat) : Fam B (vs.take k) W := ⟨fun v hv => h.1 v (List.mem_of_mem_take hv), h.2.sublist (List.take_sublist k vs)⟩
/-- The rows of a list of instructions. -/
theorem fam_rows {B : Nat} {ys : List El} {W : World} (h : RowsAt B ys W) (hr : Rising ys) (hn : ∀ y ∈ ys, y.1.imm.length ≤ 70000) : Fam B (ys.map Prod.snd) W :=
  ⟨fun v hv => by
    obtain ⟨y, hy, rfl⟩ := List.mem_map.1 hv
    exact ⟨_, _, hn y hy, h y hy⟩, List.pairwise_map.2 hr⟩
/-- The list that holds them. -/
def TK (gx BX BF : Nat) (X : Value) (vs : List Value) (W : World) : Prop :=
  W.heap[gx]? = some (.cells #[X] 50 (0, 0)) ∧ W.ownsRow BX 22 1 X vs.length vs ∧ Fam BF vs W
/-- What is neither such a list nor rows' own row is kept. -/
def Sundry (o : Obj) : Prop := ∀ cs, o ≠ .cells cs 50 (0, 0) ∧ o ≠ .cells cs 22 (0, 0)
def KeepS (W W' : World) : Prop := ∀ (k : Nat) (o : Obj), W.heap[k]? = some o → Sundry o → W'.heap[k]? = some o
theorem keeps_refl (W : World) : KeepS W W := fun _ _ h _ => h
theorem keeps_below {W W' : World} (h : Below W.heap.size W W') : KeepS W W' := fun _ _ hk _ => kept_of2 h hk
theorem keeps_trans {W W' W'' : World} (h : KeepS W W') (h' : KeepS W' W'') : KeepS W W'' := fun k o hk ho => h' k o (h k o hk ho) ho
theorem own_keeps {W W' : World} {B e size n : Nat} {v : Value} {xs : List Value} (h : W.ownsRow B e size v n xs) (hk : KeepS W W') (h1 : e ≠ 50) (h2 : e ≠ 22) : W'.ownsRow B e size v n xs := by
  refine own_as h fun b hb => ?_
  obtain ⟨cs, hc⟩ := own_block h hb
  rw [hc]
  exact hk b _ hc fun cs' => ⟨fun e0 => by cases e0; exact h1 rfl, fun e0 => by cases e0; exact h2 rfl⟩
theorem fam_keeps {B : Nat} {vs : List Value} {W W' : World} (h : Fam B vs W) (hk : KeepS W W') : Fam B vs W' := ⟨fun v hv => by
  obtain ⟨n, zs, hn, ho⟩ := h.1 v hv
  exact ⟨n, zs, hn, own_keeps ho hk (by decide) (by decide)⟩, h.2⟩
theorem take_keeps {gx B BX BF : Nat} {X : Value} {vs rv : List Value} {W W' : World} (h : TK gx BX BF X vs W) (ht : TakeOut gx B X vs rv W W') : KeepS W W' := fun k o hk ho => by
  obtain ⟨X', _, _, _, hrest, _⟩ := ht
  refine (hrest k (Array.getElem?_eq_some_iff.1 hk).1 (fun e => ?_) (fun e => ?_)).trans hk
  · rw [e, h.1] at hk
    cases hk
    exact (ho _).1 rfl
  · obtain ⟨cs, hc⟩ := own_block h.2.1 e
    rw [hc] at hk
    cases hk
    exact (ho _).2 rfl
theorem tk_take {gx BX BF : Nat} {X : Value} {vs rv : List Value} {W W' : World} (h : TK gx BX BF X vs W) (ht : TakeOut gx BX X vs rv W W') (hr : Fam BF rv W) (hrr : ∀ x ∈ vs, ∀ y ∈ rv, ∀ a b, x.ownBlock = some a → y.ownBlock = some b → a < b) :
    ∃ X', TK gx BX BF X' (vs ++ rv) W' ∧ (∀ b, X'.ownBlock = some b → X.ownBlock = some b ∨ W.heap.size ≤ b) := by
  have hk := take_keeps h ht
  obtain ⟨X', h1, h2, _, _, h5, _⟩ := ht
  exact ⟨X', ⟨h1, h2, fam_keeps (fam_app h.2.2 hr hrr) hk⟩, h5⟩
theorem tk_below {gx BX BF : Nat} {X : Value} {vs : List Value} {W W' : World} (h : TK gx BX BF X vs W) (hb : Below W.heap.size W W') : TK gx BX BF X vs W' := ⟨kept_of2 hb h.1, own_below h.2.1 hb, fam_below h.2.2 hb⟩
theorem rowis_own {W : World} {b t n : Nat} {f : Nat → Value} (h : W.rowIs b t n f) (hn : n ≤ maxLen) : ∃ xs, W.ownsRow b t 1 (.slice (some ⟨b, 0, none⟩) n n) n xs := by
  obtain ⟨c, h1, h2, _⟩ := h
  exact ⟨c.toList, by simp [h2], .inr ⟨b, n, c, rfl, Nat.le_refl _, h1, Nat.le_refl _, hn, by omega, by rw [List.take_of_length_le (by simp; omega)]⟩⟩
theorem reads_imm {bs : List Int} {l : List Ins} {p : Int} (h : Reads bs l p) : ∀ i ∈ l, i.imm.length ≤ bs.length := by
  induction h with
  | nil => intro i hi; cases hi
  | snoc h1 h2 ih =>
    intro i hi
    rcases List.mem_append.1 hi with hi | hi
    · exact ih i hi
    · rw [List.mem_singleton.1 hi]
      exact (read_next h2).2.2.2.2.2
theorem all_imm {bs : List Int} {xs : List El} (h : AllOf bs xs) : ∀ y ∈ xs, y.1.imm.length ≤ bs.length := fun y hy => by
  obtain ⟨p, h1, _⟩ := h
  exact reads_imm h1 y.1 (List.mem_map.2 ⟨y, hy, rfl⟩)
/-- A list of instructions, as take wants it. -/
theorem take_src {gx BX BF B c k : Nat} {X : Value} {L : Option Addr} {vs : List Value} {ys : List El} {W : World} (tk : TK gx BX BF X vs W) (ol : W.ownsRow B 34 4 (.slice L k c) k (insCells ys)) (hk : k = ys.length) :
    ∀ i (h : i < (ys.map Prod.snd).length), ∃ g, L = some ⟨g, 0, none⟩ ∧ g ≠ gx ∧ X.ownBlock ≠ some g ∧ W.cell? ⟨g, i * 4 + 2, none⟩ = some ((ys.map Prod.snd)[i]) := by
  intro i h
  have hi : i < ys.length := by simpa using h
  obtain ⟨g, rfl⟩ := own_head ol (by omega)
  obtain ⟨cs, hg⟩ := own_block ol rfl
  refine ⟨g, rfl, fun e => ?_, fun e => ?_, ?_⟩
  · rw [e, tk.1] at hg
    cases hg
  · obtain ⟨cs', hg'⟩ := own_block tk.2.1 e
    rw [hg] at hg'
    cases hg'
  · rw [ol.cellAt (i * 4 + 2) (by omega), (insCells_at (List.getElem?_eq_getElem hi)).2.2.1]
    simp
theorem read_len {bs : List Int} {p : Int} : (readE bs p).2.imm.length ≤ bs.length := by
  by_cases h : (readE bs p).1 = 0
  · exact (read_next (show readE bs p = (0, (readE bs p).2) from by rw [← h])).2.2.2.2.2
  · unfold readE at h ⊢
    split
    · simp [zeroI]
    · split
      · simp [zeroI]
      · split
        · simp [zeroI]
        · split
          · simp [zeroI]
          · rename_i h1 h2 _ n hn h3
            exfalso
            apply h
            rw [if_neg h1, if_neg h2, hn]
            simp only [if_neg h3]
/-- What a range that takes each instruction's bytes keeps. -/
def RgInv (gx BX BF : Nat) (X0 : Value) (va : List Value) (w W0 : World) (pre : List El) (W : World) : Prop :=
  ∃ X, TK gx BX BF X (va ++ pre.map Prod.snd) W ∧ (∀ k, k < W0.heap.size → k ≠ gx → X0.ownBlock ≠ some k → W.heap[k]? = W0.heap[k]?) ∧ W0.heap.size ≤ W.heap.size ∧ (∀ b, X.ownBlock = some b → X0.ownBlock = some b ∨ W0.heap.size ≤ b) ∧ Below w.heap.size w W ∧ ∀ x ∈ pre, ∀ b, x.2.ownBlock = some b → W0.heap.size ≤ b
theorem rg_kept {gx BX BF : Nat} {X0 : Value} {va : List Value} {w W0 : World} (hw : w.heap.size ≤ W0.heap.size) {pre : List El} {W W' : World} {row : Option Nat} (h : RgInv gx BX BF X0 va w W0 pre W) (hg : W.grownBy W' row) (hr : ∀ r, row = some r → W0.heap.size ≤ r ∧ ∃ o : Obj, W.heap[r]? = some o ∧ o.isCells = false) : RgInv gx BX BF X0 va w W0 pre W' := by
  obtain ⟨X, ⟨h1, h2, h3⟩, h4, h5, h6, h7, h8⟩ := h
  refine ⟨X, ⟨blk_stays h1 hg hr, own_stays h2 hg hr, ⟨fun v hv => ?_, h3.2⟩⟩, fun k hk hkx hkX => ?_, Nat.le_trans h5 hg.size, h6, bel_stays h7 hw hg hr, h8⟩
  · obtain ⟨n, zs, hn, ho⟩ := h3.1 v hv
    exact ⟨n, zs, hn, own_stays ho hg hr⟩
  · exact (hg.block k (by omega) (fun e => by have := (hr k e.symm).1; omega)).trans (h4 k hk hkx hkX)
theorem rg_held {gx BX BF B g : Nat} {X0 : Value} {va : List Value} {w W0 : World} {bs : List Int} {pre : List El} {W : World} (h : RgInv gx BX BF X0 va w W0 pre W) (hh : HeldAt bs B g W0) (hgx : gx < B) (hX : ∀ b, X0.ownBlock = some b → b < B) : HeldAt bs B g W := by
  obtain ⟨X, _, h4, _⟩ := h
  obtain ⟨k, h1, h2, h3, h5⟩ := hh
  exact ⟨k, h1, h2, (h4 g (Array.getElem?_eq_some_iff.1 h3).1 (by omega) (fun e => by have := hX g e; omega)).trans h3, (h4 k (Array.getElem?_eq_some_iff.1 h5).1 (by omega) (fun e => by have := hX k e; omega)).trans h5⟩
theorem rg_keeps {gx BX BF : Nat} {X0 : Value} {va vs0 : List Value} {w W0 : World} {pre : List El} {W : World} (h : RgInv gx BX BF X0 va w W0 pre W) (tk0 : TK gx BX BF X0 vs0 W0) : KeepS W0 W := fun k o hk ho => by
  obtain ⟨_, _, h4, _⟩ := h
  refine (h4 k (Array.getElem?_eq_some_iff.1 hk).1 (fun e => ?_) (fun e => ?_)).trans hk
  · rw [e, tk0.1] at hk
    cases hk
    exact (ho _).1 rfl
  · obtain ⟨cs, hc⟩ := own_block tk0.2.1 e
    rw [hc] at hk
    cases hk
    exact (ho _).2 rfl
theorem own_set4 {w : World} {B e size g n c : Nat} {xs : List Value} (h : w.ownsRow B e size (.slice (some ⟨g, 0, none⟩) n c) n xs) (j : Nat) (v : Value) : (w.setCell ⟨g, j, none⟩ v).ownsRow B e size (.slice (some ⟨g, 0, none⟩) n c) n (xs.set j v) := by
  refine ⟨by simpa using h.1, ?_⟩
  rcases h.2 with ⟨h2, _⟩ | ⟨g', cap, cur, heq, hB, hh, hcap, hm, hsz, ht⟩
  · cases h2
  · cases heq
    rw [setCell_eq_setRow w g j cur e (0, 0) v hh]
    refine .inr ⟨g, c, _, rfl, hB, setRow_heap _ _ _ _ _ _ hh, hcap, hm, by simpa using hsz, ?_⟩
    rw [← ht]
    simp [List.take_set]
/-- A row of which each element's first cell is set to one value, one behind the other. -/
def FillInv (B e size : Nat) (v : Value) (n : Nat) (x : Value) (k : Nat) (xs : List Value) (W0 W : World) : Prop :=
  W.ownsRow B e size v n xs ∧ (∀ j, j < k → xs[j * size]? = some x) ∧ (∀ q, v.ownBlock ≠ some q → W.heap[q]? = W0.heap[q]?) ∧ W0.heap.size = W.heap.size
theorem fill_step {B e size n k : Nat} {v x : Value} {xs : List Value} {W0 W : World} (hs : 0 < size) (h : FillInv B e size v n x k xs W0 W) (hk : k < n) : ∃ g c, v = .slice (some ⟨g, 0, none⟩) n c ∧ (∃ u, W.cell? ⟨g, k * size, none⟩ = some u) ∧ W.frozen? ⟨g, k * size, none⟩ = false ∧ FillInv B e size v n x (k + 1) (xs.set (k * size) x) W0 (W.setCell ⟨g, k * size, none⟩ x) := by
  obtain ⟨h1, h2, h3, h4⟩ := h
  obtain ⟨A, c, rfl⟩ := owns_shape h1
  obtain ⟨g, rfl⟩ := own_head h1 (by omega)
  have hlt : k * size < n * size := Nat.mul_lt_mul_of_pos_right hk hs
  have hxl : k * size < xs.length := by rw [h1.1]; exact hlt
  refine ⟨g, c, rfl, ⟨_, (h1.cellAt (k * size) hlt).trans (List.getElem?_eq_getElem hxl)⟩, ?_, own_set4 h1 _ _, fun j hj => ?_, fun q hq => (heap_setKeep _ (fun e => hq (by rw [e]; rfl)) _).trans (h3 q hq), by simpa using h4⟩
  · obtain ⟨cs, hc⟩ := own_block h1 rfl
    simp [World.frozen?, hc]
  · by_cases e : j = k
    · subst e
      rw [List.getElem?_set_self hxl]
    · rw [List.getElem?_set_ne (fun e0 => e (Nat.eq_of_mul_eq_mul_right hs e0.symm))]
      exact h2 j (by omega)
/-- One more instruction's bytes. -/
theorem rg_step {gx BX BF r : Nat} {X0 X : Value} {va : List Value} {w W0 W W1 W' : World} {pre : List El} {x : El} {o : Obj} (hgx : w.heap.size ≤ gx) (hBX : w.heap.size ≤ BX) (hgw : gx < W0.heap.size) (hX0 : ∀ b, X0.ownBlock = some b → b < W0.heap.size)
    (tk : TK gx BX BF X (va ++ pre.map Prod.snd) W) (h4 : ∀ k, k < W0.heap.size → k ≠ gx → X0.ownBlock ≠ some k → W.heap[k]? = W0.heap[k]?) (h5 : W0.heap.size ≤ W.heap.size) (h6 : ∀ b, X.ownBlock = some b → X0.ownBlock = some b ∨ W0.heap.size ≤ b) (h7 : Below w.heap.size w W) (h8 : ∀ x ∈ pre, ∀ b, x.2.ownBlock = some b → W0.heap.size ≤ b)
    (hb : Below W.heap.size W W1) (ht : TakeOut gx BX X (va ++ pre.map Prod.snd) [x.2] W1 W') (hx : Fam BF [x.2] W) (hxn : ∀ b, x.2.ownBlock = some b → W0.heap.size ≤ b) (hva : ∀ v ∈ va, ∀ b, v.ownBlock = some b → b < W0.heap.size) (hris : ∀ q ∈ pre, ∀ a b, q.2.ownBlock = some a → x.2.ownBlock = some b → a < b)
    (hro : W.heap[r]? = some o) (hr : W0.heap.size ≤ r) (hXr : ∀ b, X.ownBlock = some b → b < r) : KeepsFrom W0.heap.size W W' ∧ RgInv gx BX BF X0 va w W0 (pre ++ [x]) W' ∧ W'.heap[r]? = some o := by
  have tk1 := tk_below tk hb
  obtain ⟨X', tk', h9⟩ := tk_take tk1 ht (fam_below hx hb) (fun u hu y hy a b ha hb' => by
    rw [List.mem_singleton.1 hy] at hb'
    rcases List.mem_append.1 hu with hu | hu
    · have := hva u hu a ha
      have := hxn b hb'
      omega
    · obtain ⟨q, hq, rfl⟩ := List.mem_map.1 hu
      exact hris q hq a b ha hb')
  obtain ⟨_, _, _, hsz, hrest, _, hbel⟩ := ht
  have hs1 := hb.size
  have ksz := h7.size
  refine ⟨⟨by omega, fun k o' _ hk hc => ?_⟩, ⟨X', ?_, fun k hk hkx hkX => ?_, by omega, fun b hb' => ?_, ?_, fun y hy b hb' => ?_⟩, ?_⟩
  · have hkl := (Array.getElem?_eq_some_iff.1 hk).1
    refine (hrest k (by omega) (fun e => ?_) (fun e => ?_)).trans ((hb.block k hkl).trans hk)
    · rw [e, tk.1] at hk
      cases hk
      cases hc
    · obtain ⟨cs, hcs⟩ := own_block tk.2.1 e
      rw [hcs] at hk
      cases hk
      cases hc
  · rw [List.map_append, ← List.append_assoc]
    exact tk'
  · refine (hrest k (by omega) hkx (fun e => ?_)).trans ((hb.block k (by omega)).trans (h4 k hk hkx hkX))
    rcases h6 k e with h | h
    · exact hkX h
    · omega
  · rcases h9 b hb' with h | h
    · exact h6 b h
    · exact .inr (by omega)
  · exact (h7.trans (hb.mono ksz)).trans (hbel w.heap.size hgx hBX (by omega))
  · rcases List.mem_append.1 hy with hy | hy
    · exact h8 y hy b hb'
    · rw [List.mem_singleton.1 hy] at hb'
      exact hxn b hb'
  · have hkl := (Array.getElem?_eq_some_iff.1 hro).1
    exact (hrest r (by omega) (by omega) (fun e => by have := hXr r e; omega)).trans ((hb.block r hkl).trans hro)
end Go.Proofs.YthjnjdpiihpgeaaDoor
