/- vouchlaw6.CodeLent: the walk. -/
import Derived.Test.YthjnjdpiihpgeaaDoorRLeads6
import Derived.Test.YthjnjdpiihpgeaaDoorOpenIns
import Derived.Test.YthjnjdpiihpgeaaDoorCheck6
import Derived.Test.YthjnjdpiihpgeaaDoorAwake6
import Derived.Test.YthjnjdpiihpgeaaDoorKeep
import Derived.Deep.DeepCutAuto
namespace Go.Proofs.YthjnjdpiihpgeaaDoor
open Go.RowKit Vouch Go.Vk Go.Sort
def mk (m : Nat) : Value := .int .i64 (-1000000 - (m : Int))
def lv (ad : Nat → Option Addr) (ln cp : Nat → Nat) (m : Nat) : Value := .slice (ad m) (ln m) (cp m)
def Apart3 (v : Nat → Value) : Prop := ∀ m m', m < 3 → m' < 3 → m ≠ m' → ∀ b, (v m).ownBlock = some b → (v m').ownBlock ≠ some b
def Marked (B : Nat) (ad : Nat → Option Addr) (ln cp : Nat → Nat) (n k : Nat) (W : World) : Prop :=
  ∀ m, m < 3 → ∃ zs, W.ownsRow B 3 1 (lv ad ln cp m) (ln m) zs ∧ ∀ j, (m < n ∨ m = n ∧ j < k) → j < ln m → zs[j]? = some (mk m)
theorem marked_step {B n k g : Nat} {ad : Nat → Option Addr} {ln cp : Nat → Nat} {W : World} (h : Marked B ad ln cp n k W) (hn : n < 3) (hk : k < ln n) (hg : ad n = some ⟨g, 0, none⟩) (hap : Apart3 (lv ad ln cp)) : Marked B ad ln cp n (k + 1) (W.setCell ⟨g, k, none⟩ (mk n)) := by
  intro m hm
  obtain ⟨zs, h1, h2⟩ := h m hm
  by_cases e : m = n
  · subst e
    unfold lv at h1 ⊢
    rw [hg] at h1 ⊢
    refine ⟨zs.set k (mk m), own_set h1 k _, fun j hj hl => ?_⟩
    have hzl : zs.length = ln m := by have := h1.1; omega
    by_cases e : j = k
    · subst e
      rw [List.getElem?_set_self (by omega)]
    · rw [List.getElem?_set_ne (by omega)]
      exact h2 j (.inr ⟨rfl, by omega⟩) hl
  · refine ⟨zs, ⟨h1.1, ?_⟩, fun j hj hl => h2 j (by omega) hl⟩
    rcases h1.2 with h3 | ⟨g', cap, cur, heq, hB, hh, r⟩
    · exact .inl h3
    · refine .inr ⟨g', cap, cur, heq, hB, (Below.heap_setCell _ _ _ _ (fun e0 => ?_)).trans hh, r⟩
      have := hap m n hm hn e g' (by rw [heq]; rfl)
      unfold lv at this
      rw [hg] at this
      exact this (by dsimp only at e0; rw [e0]; rfl)
theorem marked_next {B n : Nat} {ad : Nat → Option Addr} {ln cp : Nat → Nat} {W : World} (h : Marked B ad ln cp n (ln n) W) : Marked B ad ln cp (n + 1) 0 W := by
  intro m hm
  obtain ⟨zs, h1, h2⟩ := h m hm
  refine ⟨zs, h1, fun j hj hl => h2 j ?_ hl⟩
  by_cases e : m = n
  · subst e
    exact .inr ⟨rfl, hl⟩
  · omega
/-- The lists' elements, all marked. -/
def CV (ad : Nat → Option Addr) (ln : Nat → Nat) (N : Nat) (W : World) : Prop := ∀ m, m < 3 → ∀ j, j < ln m → ∃ b, ad m = some ⟨b, 0, none⟩ ∧ b < N ∧ W.cell? ⟨b, j, none⟩ = some (mk m)
theorem marked_cells {B : Nat} {ad : Nat → Option Addr} {ln cp : Nat → Nat} {W : World} (h : Marked B ad ln cp 3 0 W) : CV ad ln W.heap.size W := by
  intro m hm j hj
  obtain ⟨zs, h1, h2⟩ := h m hm
  unfold lv at h1
  rcases h1.2 with ⟨_, h3⟩ | ⟨g', cap, cur, heq, hB, hh, r⟩
  · omega
  · injection heq with e1 e2 e3
    refine ⟨g', e1, (Array.getElem?_eq_some_iff.1 hh).1, ?_⟩
    rw [e1] at h1
    rw [h1.cellAt j (by omega)]
    exact h2 j (.inl hm) hj
theorem cv_keep {ad : Nat → Option Addr} {ln cp : Nat → Nat} {N n q : Nat} {vb : Option Nat} {W W' : World} (h : CV ad ln N W) (hk : ∀ b o, b < W.heap.size → (vb = some b → o < q) → W'.cell? ⟨b, o, none⟩ = W.cell? ⟨b, o, none⟩) (hN : N ≤ W.heap.size)
    (hb : ∀ b, vb = some b → (lv ad ln cp n).ownBlock = some b ∨ N ≤ b) (hq : ln n ≤ q) (hap : Apart3 (lv ad ln cp)) (hn : n < 3) : CV ad ln N W' := by
  intro m hm j hj
  obtain ⟨b, h1, h2, h3⟩ := h m hm j hj
  refine ⟨b, h1, h2, (hk b j (by omega) (fun e => ?_)).trans h3⟩
  rcases hb b e with h4 | h4
  · by_cases e2 : m = n
    · subst e2; omega
    · exact absurd h4 (hap m n hm hn e2 b (by unfold lv; rw [h1]; rfl))
  · omega
theorem cv_below {ad : Nat → Option Addr} {ln : Nat → Nat} {N : Nat} {W W' : World} (h : CV ad ln N W) (_hN : N ≤ W.heap.size) (hb : Below W.heap.size W W') : CV ad ln N W' := fun m hm j hj => by
  obtain ⟨b, h1, h2, h3⟩ := h m hm j hj
  exact ⟨b, h1, h2, cell_later hb h3⟩
/-- The long lists so far. -/
def CU (G : Nat) (u : Nat → Value) (ad : Nat → Option Addr) (ln cp : Nat → Nat) (n N : Nat) (W : World) : Prop :=
  ∀ m, m < n → ∃ b c, u m = .slice (some ⟨b, 0, none⟩) (ln m + 300) c ∧ (b < N ∧ b ≠ G) ∧ (∀ j, j < ln m + 300 → W.cell? ⟨b, j, none⟩ = some (mk m)) ∧ ∀ m', m' < 3 → m' ≠ m → (lv ad ln cp m').ownBlock ≠ some b
theorem cu_keep {G : Nat} {u : Nat → Value} {ad : Nat → Option Addr} {ln cp : Nat → Nat} {N n q : Nat} {vb : Option Nat} {W W' : World} (h : CU G u ad ln cp n N W) (hk : ∀ b o, b < W.heap.size → (vb = some b → o < q) → W'.cell? ⟨b, o, none⟩ = W.cell? ⟨b, o, none⟩) (hN : N ≤ W.heap.size)
    (hb : ∀ b, vb = some b → (lv ad ln cp n).ownBlock = some b ∨ N ≤ b) (hn : n < 3) : CU G u ad ln cp n N W' := by
  intro m hm
  obtain ⟨b, c, h1, h2, h3, h4⟩ := h m hm
  refine ⟨b, c, h1, h2, fun j hj => (hk b j (by omega) (fun e => ?_)).trans (h3 j hj), h4⟩
  rcases hb b e with h5 | h5
  · exact absurd h5 (h4 n hn (by omega))
  · omega
theorem cu_below {G : Nat} {u : Nat → Value} {ad : Nat → Option Addr} {ln cp : Nat → Nat} {N n : Nat} {W W' : World} (h : CU G u ad ln cp n N W) (_hN : N ≤ W.heap.size) (hb : Below W.heap.size W W') : CU G u ad ln cp n N W' := fun m hm => by
  obtain ⟨b, c, h1, h2, h3, h4⟩ := h m hm
  exact ⟨b, c, h1, h2, fun j hj => cell_later hb (h3 j hj), h4⟩
/-- All that lay there but the lists' rows is as it was. -/
def Rest (v : Nat → Value) (W0 W : World) : Prop := W0.heap.size ≤ W.heap.size ∧ ∀ q, q < W0.heap.size → (∀ m, m < 3 → (v m).ownBlock ≠ some q) → W.heap[q]? = W0.heap[q]?
theorem rest_below {v : Nat → Value} {W0 W W' : World} (h : Rest v W0 W) (hb : Below W.heap.size W W') : Rest v W0 W' := ⟨Nat.le_trans h.1 hb.size, fun q h1 h2 => (hb.block q (by have := h.1; omega)).trans (h.2 q h1 h2)⟩
theorem rest_set {v : Nat → Value} {W0 W : World} (h : Rest v W0 W) {a : Addr} (ha : W0.heap.size ≤ a.block ∨ ∃ m, m < 3 ∧ (v m).ownBlock = some a.block) (u : Value) : Rest v W0 (W.setCell a u) :=
  ⟨by simpa using h.1, fun q h1 h2 => (Below.heap_setCell _ _ _ _ (fun e => by
    rcases ha with h3 | ⟨m, hm, h3⟩
    · omega
    · exact h2 m hm (by rw [h3, e]))).trans (h.2 q h1 h2)⟩
theorem rest_grown {v : Nat → Value} {W0 W W' : World} {row : Option Nat} (h : Rest v W0 W) (hg : W.grownBy W' row) (ha : ∀ b, row = some b → W0.heap.size ≤ b ∨ ∃ m, m < 3 ∧ (v m).ownBlock = some b) : Rest v W0 W' :=
  ⟨Nat.le_trans h.1 hg.size, fun q h1 h2 => (hg.block q (by have := h.1; omega) (fun e => by
    rcases ha q e.symm with h3 | ⟨m, hm, h3⟩
    · omega
    · exact h2 m hm h3)).trans (h.2 q h1 h2)⟩
theorem ints_rest {v : Nat → Value} {W0 W : World} {X : Option Addr} {n c : Nat} {zs : List Int} (h : Rest v W0 W) (hI : IntsAt W0 .i64 X zs) (hX : ∀ q, (Value.slice X n c).ownBlock = some q → q < W0.heap.size ∧ ∀ m, m < 3 → (v m).ownBlock ≠ some q) : IntsAt W .i64 X zs := fun i hi => by
  obtain ⟨x, rfl, hc⟩ := hI i hi
  obtain ⟨h1, h2⟩ := hX x.block rfl
  have hb : (x.add i).block = x.block := by unfold Addr.add; split <;> rfl
  exact ⟨x, rfl, (World.cell?_of_block (by rw [hb]; exact h.2 _ h1 h2)).trans hc⟩
theorem cells3 {w : World} {g t : Nat} {v : Nat → Value} (hg : w.heap[g]? = some (.cells #[v 0, v 1, v 2] t (0, 0))) (m : Nat) (hm : m < 3) : w.cell? ⟨g, m, none⟩ = some (v m) ∧ w.frozen? ⟨g, m, none⟩ = false := by
  rcases (show m = 0 ∨ m = 1 ∨ m = 2 by omega) with rfl | rfl | rfl <;> constructor <;> simp [World.cell?, World.frozen?, hg]
def upd (u : Nat → Value) (n : Nat) (x : Value) (m : Nat) : Value := if m = n then x else u m
theorem set3 {w : World} {g t : Nat} {v : Nat → Value} (hg : w.heap[g]? = some (.cells #[v 0, v 1, v 2] t (0, 0))) (m : Nat) (hm : m < 3) (x : Value) : (w.setCell ⟨g, m, none⟩ x).heap[g]? = some (.cells #[upd v m x 0, upd v m x 1, upd v m x 2] t (0, 0)) := by
  rcases (show m = 0 ∨ m = 1 ∨ m = 2 by omega) with rfl | rfl | rfl
  all_goals
    rw [setCell_eq_setRow w g _ _ t (0, 0) x hg]
    exact setRow_heap _ _ _ _ _ _ hg
/-- The lists to which nothing was appended yet. -/
def OV (B : Nat) (ad : Nat → Option Addr) (ln cp : Nat → Nat) (n : Nat) (W : World) : Prop := ∀ m, m < 3 → n ≤ m → W.ownsRow B 3 1 (lv ad ln cp m) (ln m) (List.replicate (ln m) (mk m))
theorem ov_start {B : Nat} {ad : Nat → Option Addr} {ln cp : Nat → Nat} {W : World} (h : Marked B ad ln cp 3 0 W) : OV B ad ln cp 0 W := by
  intro m hm _
  obtain ⟨zs, h1, h2⟩ := h m hm
  have hl : zs.length = ln m := by have := h1.1; omega
  have e : zs = List.replicate (ln m) (mk m) := by
    refine List.ext_getElem? fun j => ?_
    by_cases hj : j < ln m
    · rw [h2 j (.inl hm) hj, List.getElem?_replicate, if_pos hj]
    · rw [List.getElem?_eq_none (by omega), List.getElem?_eq_none (by simp; omega)]
  rw [← e]
  exact h1
theorem ov_grow {B n N : Nat} {ad : Nat → Option Addr} {ln cp : Nat → Nat} {vb : Option Nat} {W W' : World} (h : OV B ad ln cp (n + 1) W) (hg : W.grownBy W' vb) (hb : ∀ b, vb = some b → (lv ad ln cp n).ownBlock = some b ∨ N ≤ b) (hN : ∀ m, m < 3 → ∀ b, (lv ad ln cp m).ownBlock = some b → b < N)
    (hap : Apart3 (lv ad ln cp)) (hn : n < 3) : OV B ad ln cp (n + 1) W' := by
  intro m hm hnm
  have h1 := h m hm hnm
  refine ⟨h1.1, ?_⟩
  rcases h1.2 with h3 | ⟨g', cap, cur, heq, hB, hh, r⟩
  · exact .inl h3
  · have hgb : (lv ad ln cp m).ownBlock = some g' := by rw [heq]; rfl
    refine .inr ⟨g', cap, cur, heq, hB, (hg.block g' (Array.getElem?_eq_some_iff.1 hh).1 (fun e0 => ?_)).trans hh, r⟩
    rcases hb g' e0.symm with h5 | h5
    · exact hap m n hm hn (by omega) g' hgb h5
    · have := hN m hm g' hgb
      omega
theorem ov_below {B n : Nat} {ad : Nat → Option Addr} {ln cp : Nat → Nat} {W W' : World} (h : OV B ad ln cp n W) (hb : Below W.heap.size W W') : OV B ad ln cp n W' := fun m hm hn => own_below (h m hm hn) hb
theorem ov_set {B n G : Nat} {ad : Nat → Option Addr} {ln cp : Nat → Nat} {W : World} (h : OV B ad ln cp n W) {a : Addr} (ha : a.block = G) (hG : ∀ m, m < 3 → ∀ b, (lv ad ln cp m).ownBlock = some b → b < G) (u : Value) : OV B ad ln cp n (W.setCell a u) := by
  intro m hm hn
  have h1 := h m hm hn
  refine ⟨h1.1, ?_⟩
  rcases h1.2 with h3 | ⟨g', cap, cur, heq, hB, hh, r⟩
  · exact .inl h3
  · have := hG m hm g' (by rw [heq]; rfl)
    exact .inr ⟨g', cap, cur, heq, hB, (Below.heap_setCell _ _ _ _ (by omega)).trans hh, r⟩
theorem cv_set {ad : Nat → Option Addr} {ln : Nat → Nat} {N : Nat} {W : World} (h : CV ad ln N W) {a : Addr} (ha : N ≤ a.block) (u : Value) : CV ad ln N (W.setCell a u) := fun m hm j hj => by
  obtain ⟨b, h1, h2, h3⟩ := h m hm j hj
  exact ⟨b, h1, h2, (World.cell?_of_block (a := ⟨b, j, none⟩) (Below.heap_setCell _ _ _ _ (by dsimp only; omega))).trans h3⟩
theorem long_at {W : World} {B g c q k : Nat} {x : Value} (ho : W.ownsRow B 3 1 (.slice (some ⟨g, 0, none⟩) q c) q (List.replicate q x)) (hk : k < q) : W.cell? ⟨g, k, none⟩ = some x := by
  rw [ho.cellAt k (by omega), List.getElem?_replicate, if_pos hk]
/-- One list more. -/
theorem cu_more {G n N B c g : Nat} {u : Nat → Value} {ad : Nat → Option Addr} {ln cp : Nat → Nat} {W : World} (h : CU G u ad ln cp n N W) (hN : N ≤ W.heap.size) (hn : n < 3) (ho : W.ownsRow B 3 1 (.slice (some ⟨g, 0, none⟩) (ln n + 300) c) (ln n + 300) (List.replicate (ln n + 300) (mk n)))
    (hb : (lv ad ln cp n).ownBlock = some g ∨ N ≤ g) (hG : G < N) (hv : ∀ m, m < 3 → ∀ b, (lv ad ln cp m).ownBlock = some b → b < G) (hap : Apart3 (lv ad ln cp)) (j : Nat) :
    CU G (upd u n (.slice (some ⟨g, 0, none⟩) (ln n + 300) c)) ad ln cp (n + 1) W.heap.size (W.setCell ⟨G, j, none⟩ (.slice (some ⟨g, 0, none⟩) (ln n + 300) c)) := by
  intro m hm
  have hset : ∀ b o x, b ≠ G → W.cell? ⟨b, o, none⟩ = some x → (W.setCell ⟨G, j, none⟩ (.slice (some ⟨g, 0, none⟩) (ln n + 300) c)).cell? ⟨b, o, none⟩ = some x := fun b o x hb h => (World.cell?_of_block (a := ⟨b, o, none⟩) (Below.heap_setCell _ _ _ _ hb)).trans h
  by_cases e : m = n
  · subst e
    have hgl := own_lt ho
    have hne : g ≠ G := by
      rcases hb with h1 | h1
      · have := hv m hn g h1; omega
      · omega
    refine ⟨g, c, by unfold upd; rw [if_pos rfl], ⟨hgl.2, hne⟩, fun k hk => hset _ _ _ hne ?_, fun m' hm' hne' h2 => ?_⟩
    · exact long_at ho hk
    · rcases hb with h1 | h1
      · exact hap m' m hm' hn hne' g h2 h1
      · have := hv m' hm' g h2
        omega
  · obtain ⟨b, c', h1, ⟨h2, h3⟩, h4, h5⟩ := h m (by omega)
    exact ⟨b, c', by unfold upd; rw [if_neg e]; exact h1, ⟨by omega, h3⟩, fun k hk => hset _ _ _ h3 (h4 k hk), h5⟩
set_option maxHeartbeats 2000000 in
set_option maxRecDepth 100000 in
theorem lent_walk (i : Ins) (A : Option Addr) (capA : Nat) (j : Ins) (C : Option Addr) (capC : Nat) (w : World) (hi : InsAt w i A capA) (hj : InsAt w j C capC) :
    Calls Tryd.prog 10 #[insV i (.slice A i.imm.length capA), insV j (.slice C j.imm.length capC)] w fun e w' => e = .returned (.bool true) ∧ Below w.heap.size w w' := by
  obtain ⟨i0, hinf, hz0, hz1, hz2⟩ := info_parts infoInt
  obtain ⟨a1, a2, a3, a4, a5, a6, a7, a8⟩ := hi
  obtain ⟨b1, b2, b3, b4, b5, b6, b7, b8⟩ := hj
  have hzi : ∀ z ∈ i.imm, 0 ≤ z ∧ z < 256 := fun z hz => byte_wf (a2 z hz)
  have hzj : ∀ z ∈ j.imm, 0 ≤ z ∧ z < 256 := fun z hz => byte_wf (b2 z hz)
  have hli := leadsI_len hzi
  have hlj := leadsI_len hzj
  have HI := Lib.hid (fun (w1 : World) (hb : Below w.heap.size w w1) => leads_any i A capA w1 (ints_below hb a1) hzi (by omega) a3 a8)
  have HR := Lib.hid (fun (w1 : World) (hb : Below w.heap.size w w1) => rleads_any i A capA w1 (ints_below hb a1) hzi (by omega) a8)
  have HJ := Lib.hid (fun (w1 : World) (hb : Below w.heap.size w w1) => leads_any j C capC w1 (ints_below hb b1) hzj (by omega) b3 b8)
  generalize hLi : leadsI i = li at hli HI HR
  generalize hLj : leadsI j = lj at hlj HJ
  clear a1 a2 a4 a5 a6 a7 a8 b1 b2 b4 b5 b6 b7 b8 hzi hzj hLi hLj
  obtain ⟨iat, icode, iimm, inext⟩ := i
  obtain ⟨jat, jcode, jimm, jnext⟩ := j
  unfold insV at HI HR HJ ⊢
  dsimp only at *
  have hB0 : Below w.heap.size w ((w.alloc (.cells #[.int .i64 iat, .int .i64 icode, .slice A iimm.length capA, .int .i64 inext] 34)).alloc (.cells #[.int .i64 jat, .int .i64 jcode, .slice C jimm.length capC, .int .i64 jnext] 34)) := ((Below.refl _ _).alloc (Nat.le_refl _) _).alloc (by simp) _
  have hp := heap_alloc_before (heap_alloc_at w (.cells #[.int .i64 iat, .int .i64 icode, .slice A iimm.length capA, .int .i64 inext] 34) _ rfl) (.cells #[.int .i64 jat, .int .i64 jcode, .slice C jimm.length capC, .int .i64 jnext] 34)
  have hq := heap_alloc_at (w.alloc (.cells #[.int .i64 iat, .int .i64 icode, .slice A iimm.length capA, .int .i64 inext] 34)) (.cells #[.int .i64 jat, .int .i64 jcode, .slice C jimm.length capC, .int .i64 jnext] 34) (w.heap.size + 1) (by simp)
  obtain ⟨p0, p1, p2, p3, pz, pl⟩ := cells4 hp
  go_enter Tryd.func10, Tryd.ntmps10
  go_wp2_with (go_at_call 28; refine stop_o ?_)
  unfold StopO
  generalize (w.alloc (.cells #[.int .i64 iat, .int .i64 icode, .slice A iimm.length capA, .int .i64 inext] 34)).alloc (.cells #[.int .i64 jat, .int .i64 jcode, .slice C jimm.length capC, .int .i64 jnext] 34) = W0 at hB0 hp hq ⊢
  clear p0 p1 p2 p3 pz pl
  refine (HI.out W0 hB0).mono ?_
  rintro e W1 ⟨v, rfl, o0, hb⟩
  obtain ⟨X0, c0, rfl⟩ := owns_shape o0
  have hp1 := kept_of2 hb hp
  have hq1 := kept_of2 hb hq
  have hB1 := hB0.trans (hb.mono hB0.size)
  have s1 := hb.size
  obtain ⟨p0, p1, p2, p3, pz, pl⟩ := cells4 hq1
  have hB0s := (Array.getElem?_eq_some_iff.1 hp).1
  have HB0S := Lib.hid (show w.heap.size ≤ W0.heap.size from Nat.le_of_lt hB0s)
  clear hb hp hq hB0
  go_wp2_with (go_at_call 28; refine stop_o ?_)
  unfold StopO
  clear p0 p1 p2 p3 pz pl
  refine (HJ.out W1 hB1).mono ?_
  rintro e W2 ⟨v, rfl, o1, hb⟩
  obtain ⟨X1, c1, rfl⟩ := owns_shape o1
  have hp2 := kept_of2 hb hp1
  have o02 := own_below o0 hb
  have hB2 := hB1.trans (hb.mono hB1.size)
  have s2 := hb.size
  obtain ⟨p0, p1, p2, p3, pz, pl⟩ := cells4 hp2
  have HO0 := Lib.hid o0
  clear hb hp1 hq1 hB1 o0
  go_wp2_with (go_at_call 28; refine stop_o ?_)
  unfold StopO
  clear p0 p1 p2 p3 pz pl
  refine (HI.out W2 hB2).mono ?_
  rintro e W3 ⟨v, rfl, o2, hb⟩
  obtain ⟨X2, c2, rfl⟩ := owns_shape o2
  have hp3 := kept_of2 hb hp2
  have o03 := own_below o02 hb
  have o13 := own_below o1 hb
  have hB3 := hB2.trans (hb.mono hB2.size)
  have s3 := hb.size
  obtain ⟨p0, p1, p2, p3, pz, pl⟩ := cells4 hp3
  have HO1 := Lib.hid o1
  clear hb hp2 hB2 o02 o1
  go_wp2_with (go_at_call 29; refine stop_o ?_)
  unfold StopO
  clear p0 p1 p2 p3 pz pl
  refine (HR.out W3 hB3).mono ?_
  rintro e W4 ⟨v, rfl, o3, hb⟩
  obtain ⟨X3, c3, rfl⟩ := owns_shape o3
  have hp4 := kept_of2 hb hp3
  have o04 := own_below o03 hb
  have o14 := own_below o13 hb
  have o24 := own_below o2 hb
  have hB4 := hB3.trans (hb.mono hB3.size)
  have s4 := hb.size
  have HO2 := Lib.hid o2
  clear hb hp3 hB3 o03 o13 o2
  have t0 : ∀ q, (Value.slice X0 li.length c0).ownBlock = some q → W0.heap.size ≤ q ∧ q < W1.heap.size := fun q hq => HO0.out.lt q hq
  have t1 : ∀ q, (Value.slice X1 lj.length c1).ownBlock = some q → W1.heap.size ≤ q ∧ q < W2.heap.size := fun q hq => HO1.out.lt q hq
  have t2 : ∀ q, (Value.slice X2 li.length c2).ownBlock = some q → W2.heap.size ≤ q ∧ q < W3.heap.size := fun q hq => HO2.out.lt q hq
  have t3 : ∀ q, (Value.slice X3 li.length c3).ownBlock = some q → W3.heap.size ≤ q ∧ q < W4.heap.size := fun q hq => o3.lt q hq
  have I0 := Lib.hid (owned_ints64 (zs := li) o04)
  have I2 := Lib.hid (owned_ints64 (zs := li) o24)
  have I3 := Lib.hid (owned_ints64 (zs := li) o3)
  have O04 := Lib.hid o04
  have O14 := Lib.hid o14
  have O24 := Lib.hid o24
  have O34 := Lib.hid o3
  have T0 := Lib.hid t0
  have T1 := Lib.hid t1
  have T2 := Lib.hid t2
  have T3 := Lib.hid t3
  have HP4 := Lib.hid hp4
  clear o04 o14 o24 o3 t0 t1 t2 t3 hp4
  go_wp2
  go_loopw [9] (fun vk wr => ∃ k : Nat, vk = .int .i64 k ∧ k ≤ li.length ∧ Below W4.heap.size W4 wr) (fun vk _ => li.length - (intOf vk).toNat)
  case atStart => exact ⟨0, rfl, Nat.zero_le _, Below.refl _ _⟩
  case round =>
    obtain ⟨k, rfl, hk, hBx⟩ := hrel
    by_cases hlt : k < li.length
    · obtain ⟨x0, rfl, hx0⟩ := I0.out k hlt
      obtain ⟨x2, rfl, hx2⟩ := I2.out k hlt
      obtain ⟨x3, rfl, hx3⟩ := I3.out k hlt
      replace hx0 := cell_later hBx hx0
      replace hx2 := cell_later hBx hx2
      replace hx3 := cell_later hBx hx3
      generalize li.getD k 0 = z at hx0 hx2 hx3
      have hk1 : (k : Int) < (li.length : Int) := by omega
      go_wp2
      go_quiet (fail)
      go_wp2
      exact ⟨⟨k + 1, by go_num, by omega, below_drewN hBx _⟩, by simp [intOf]; omega⟩
    · have hk1 : ¬ (k : Int) < (li.length : Int) := by omega
      obtain ⟨L, hL⟩ : ∃ L, L = wr.heap.size := ⟨_, rfl⟩
      have hLm := heap_alloc_at wr (.cells #[.slice X0 li.length c0, .slice X1 lj.length c1, .slice X2 li.length c2] 59) L hL
      have hBy := (hB4.trans (hBx.mono hB4.size)).alloc (hB4.trans (hBx.mono hB4.size)).size (.cells #[.slice X0 li.length c0, .slice X1 lj.length c1, .slice X2 li.length c2] 59)
      have hBz := hBx.alloc hBx.size (.cells #[.slice X0 li.length c0, .slice X1 lj.length c1, .slice X2 li.length c2] 59)
      have hLs : L < (wr.alloc (.cells #[.slice X0 li.length c0, .slice X1 lj.length c1, .slice X2 li.length c2] 59)).heap.size := by simp [hL]
      have hL4 : W4.heap.size ≤ L := by have := hBx.size; omega
      have HL := Lib.hid hL
      clear hL
      go_upto_region 13 with fail
      rw [← HL.out]
      generalize wr.alloc (.cells #[.slice X0 li.length c0, .slice X1 lj.length c1, .slice X2 li.length c2] 59) = W5 at hLm hBy hBz hLs ⊢
      clear hBx HL
      obtain ⟨ad, had0, had1, had2⟩ : ∃ ad : Nat → Option Addr, X0 = ad 0 ∧ X1 = ad 1 ∧ X2 = ad 2 := ⟨fun m => if m = 0 then X0 else if m = 1 then X1 else X2, rfl, rfl, rfl⟩
      obtain ⟨ln, hln0, hln1, hln2⟩ : ∃ ln : Nat → Nat, li.length = ln 0 ∧ lj.length = ln 1 ∧ li.length = ln 2 := ⟨fun m => if m = 0 then li.length else if m = 1 then lj.length else li.length, rfl, rfl, rfl⟩
      obtain ⟨cp, hcp0, hcp1, hcp2⟩ : ∃ cp : Nat → Nat, c0 = cp 0 ∧ c1 = cp 1 ∧ c2 = cp 2 := ⟨fun m => if m = 0 then c0 else if m = 1 then c1 else c2, rfl, rfl, rfl⟩
      have e0 : (Value.slice X0 li.length c0) = lv ad ln cp 0 := by unfold lv; rw [had0, hln0, hcp0]
      have e1 : (Value.slice X1 lj.length c1) = lv ad ln cp 1 := by unfold lv; rw [had1, hln1, hcp1]
      have e2 : (Value.slice X2 li.length c2) = lv ad ln cp 2 := by unfold lv; rw [had2, hln2, hcp2]
      have hT : ∀ m, m < 3 → ∀ q, (lv ad ln cp m).ownBlock = some q → w.heap.size < q ∧ q < W3.heap.size ∧ (m = 0 → q < W1.heap.size) ∧ (m = 1 → W1.heap.size ≤ q ∧ q < W2.heap.size) ∧ (m = 2 → W2.heap.size ≤ q) := by
        intro m hm q hq
        have z0 := hB0s
        rcases (show m = 0 ∨ m = 1 ∨ m = 2 by omega) with rfl | rfl | rfl
        · rw [← e0] at hq
          have := T0.out q hq
          omega
        · rw [← e1] at hq
          have := T1.out q hq
          omega
        · rw [← e2] at hq
          have := T2.out q hq
          omega
      have hAp : Apart3 (lv ad ln cp) := by
        intro m m' hm hm' hne b hb hb'
        have h1 := hT m hm b hb
        have h2 := hT m' hm' b hb'
        omega
      have hM : Marked W0.heap.size ad ln cp 0 0 W5 := by
        intro m hm
        rcases (show m = 0 ∨ m = 1 ∨ m = 2 by omega) with rfl | rfl | rfl
        · exact ⟨_, by rw [← e0, ← hln0]; exact own_below O04.out hBz, fun j hj => by omega⟩
        · exact ⟨_, by rw [← e1, ← hln1]; exact owns_le (own_below O14.out hBz) s1, fun j hj => by omega⟩
        · exact ⟨_, by rw [← e2, ← hln2]; exact owns_le (own_below O24.out hBz) (by omega), fun j hj => by omega⟩
      have hll : ∀ m, m < 3 → ln m ≤ 256 := by
        intro m hm
        rcases (show m = 0 ∨ m = 1 ∨ m = 2 by omega) with rfl | rfl | rfl <;> omega
      have hLm' : W5.heap[L]? = some (.cells #[lv ad ln cp 0, lv ad ln cp 1, lv ad ln cp 2] 59 (0, 0)) := by rw [← e0, ← e1, ← e2]; exact hLm
      have HW := Lib.hid (ints_below hBz I3.out)
      have HT := Lib.hid hT
      have HA := Lib.hid hAp
      have HM := Lib.hid hM
      have HLL := Lib.hid hll
      have HLM := Lib.hid hLm'
      have HP5 := Lib.hid (kept_of2 hBz HP4.out)
      have hRest : Rest (lv ad ln cp) W5 W5 := ⟨Nat.le_refl _, fun _ _ _ => rfl⟩
      clear hT hAp hM hll hLm hLm' e0 e1 e2 had0 had1 had2 hln0 hln1 hln2 hcp0 hcp1 hcp2 HO0 HO1 HO2 I0 I2 I3 O04 O14 O24 O34 T0 T1 T2 HP4 hB4
      go_wp2
      go_loopw [11] (fun vn wr => ∃ n : Nat, vn = .int .i64 n ∧ n ≤ 3 ∧ Marked W0.heap.size ad ln cp n 0 wr ∧ Rest (lv ad ln cp) W5 wr ∧ Below w.heap.size w wr) (fun vn _ => 3 - (intOf vn).toNat)
      case atStart => exact ⟨0, rfl, by omega, HM.out, hRest, hBy⟩
      case round =>
        clear hRest hBy
        obtain ⟨wo, rfl⟩ : ∃ wo : World, wo = wr := ⟨_, rfl⟩
        obtain ⟨n, rfl, hn, yM, yR, yB⟩ := hrel
        have hLv : ∀ m, m < 3 → (lv ad ln cp m).ownBlock ≠ some L := fun m hm e => by have := HT.out m hm L e; omega
        have HLV := Lib.hid hLv
        clear hLv
        by_cases h3 : n < 3
        · have h3i : (n : Int) < 3 := by omega
          have hl2 := HLL.out n h3
          have HYM := Lib.hid yM
          go_wp2
          go_loopw [12] (fun vk wx => ∃ k : Nat, vk = .int .i64 k ∧ k ≤ ln n ∧ Marked W0.heap.size ad ln cp n k wx ∧ Rest (lv ad ln cp) W5 wx ∧ Below w.heap.size w wx) (fun vk _ => ln n - (intOf vk).toNat)
          case atStart => exact ⟨0, rfl, by omega, HYM.out, yR, yB⟩
          case round =>
            clear yM yR yB
            obtain ⟨k, rfl, hk, zM, zR, zB⟩ := hrel
            have hz := (zR.2 L hLs HLV.out).trans HLM.out
            obtain ⟨d0, d1⟩ := cells3 hz n h3
            unfold lv at d0
            by_cases hkn : k < ln n
            · have hki : (k : Int) < (ln n : Int) := by omega
              obtain ⟨zs, g1, g2⟩ := zM n h3
              unfold lv at g1
              obtain ⟨gX, hgX⟩ := own_head g1 (by omega)
              have FIN := Lib.hid (⟨marked_step zM h3 hkn hgX HA.out, rest_set zR (a := ⟨gX, k, none⟩) (.inr ⟨n, h3, by unfold lv; rw [hgX]; rfl⟩) (mk n), zB.setCell (p := ⟨gX, k, none⟩) (Nat.le_of_lt (HT.out n h3 gX (by unfold lv; rw [hgX]; rfl)).1) (mk n)⟩ : _ ∧ _ ∧ _)
              rw [hgX] at d0 g1
              obtain ⟨vv, hvv⟩ : ∃ vv, zs[k]? = some vv := ⟨_, List.getElem?_eq_getElem (by have := g1.1; omega)⟩
              obtain ⟨q1, q2⟩ := own_cell g1 hvv
              have HGX := Lib.hid hgX
              clear hgX g1 g2 zM zR zB hz hvv
              unfold mk at FIN
              go_wp2
              exact ⟨⟨k + 1, by go_num, by omega, FIN.out⟩, by simp [intOf]; omega⟩
            · have hki : ¬ (k : Int) < (ln n : Int) := by omega
              obtain rfl : k = ln n := by omega
              have FIN := Lib.hid (⟨marked_next zM, zR, zB⟩ : _ ∧ _ ∧ _)
              clear zM zR zB hz
              go_wp2
              exact ⟨⟨n + 1, by go_num, by omega, FIN.out⟩, by simp [intOf]; omega⟩
        · have h3i : ¬ (n : Int) < 3 := by omega
          obtain rfl : n = 3 := by omega
          obtain ⟨G, hG⟩ : ∃ G, G = wo.heap.size := ⟨_, rfl⟩
          have zB := yB.alloc yB.size (.cells #[.slice none 0 0, .slice none 0 0, .slice none 0 0] 59)
          have hbz := (Below.refl wo.heap.size wo).alloc (Nat.le_refl _) (.cells #[.slice none 0 0, .slice none 0 0, .slice none 0 0] 59)
          have zR := rest_below yR hbz
          have zO := ov_below (ov_start yM) hbz
          have zV := cv_below (marked_cells yM) (Nat.le_refl _) hbz
          have zG := heap_alloc_at wo (.cells #[.slice none 0 0, .slice none 0 0, .slice none 0 0] 59) G hG
          have hGs : G < (wo.alloc (.cells #[.slice none 0 0, .slice none 0 0, .slice none 0 0] 59)).heap.size := by simp [hG]
          rw [← hG] at zV
          have hLG : L < G := by have := yR.1; omega
          have hG5 : W5.heap.size ≤ G := by have := yR.1; omega
          have HG := Lib.hid hG
          clear hG yM yR yB hbz
          go_upto_region 21 with fail
          rw [← HG.out]
          generalize wo.alloc (.cells #[.slice none 0 0, .slice none 0 0, .slice none 0 0] 59) = W6 at zB zR zO zV zG hGs ⊢
          clear HG
          have hvG : ∀ m, m < 3 → ∀ b, (lv ad ln cp m).ownBlock = some b → b < G := fun m hm b hb => by have := HT.out m hm b hb; omega
          have HVG := Lib.hid hvG
          clear hvG
          have zU : CU G (fun _ => .slice none 0 0) ad ln cp 0 W6.heap.size W6 := fun m hm => by omega
          go_wp2
          go_loopw [14] (fun vn wr => ∃ (n : Nat) (u : Nat → Value), vn = .int .i64 n ∧ n ≤ 3 ∧ CV ad ln G wr ∧ OV W0.heap.size ad ln cp n wr ∧ CU G u ad ln cp n wr.heap.size wr ∧ wr.heap[G]? = some (.cells #[u 0, u 1, u 2] 59 (0, 0)) ∧ Rest (lv ad ln cp) W5 wr ∧ Below w.heap.size w wr) (fun vn _ => 3 - (intOf vn).toNat)
          case atStart => exact ⟨0, _, rfl, by omega, zV, zO, zU, zG, zR, zB⟩
          case round =>
            clear zV zO zU zG zR zB
            obtain ⟨wo, rfl⟩ : ∃ wo : World, wo = wr := ⟨_, rfl⟩
            obtain ⟨n, u, rfl, hn, yV, yO, yU, yG, yR, yB⟩ := hrel
            by_cases h3 : n < 3
            · have h3i : (n : Int) < 3 := by omega
              have hl2 := HLL.out n h3
              obtain ⟨d0, d1⟩ := cells3 ((yR.2 L hLs HLV.out).trans HLM.out) n h3
              have yn := yO n h3 (Nat.le_refl _)
              have yO' : OV W0.heap.size ad ln cp (n + 1) wo := fun m hm hnm => yO m hm (by omega)
              have hGl := (Array.getElem?_eq_some_iff.1 yG).1
              obtain ⟨Nn, hNn⟩ : ∃ Nn, Nn = wo.heap.size := ⟨_, rfl⟩
              rw [← hNn] at yU hGl
              have hWN : W5.heap.size ≤ Nn := by have := yR.1; omega
              have HGL := Lib.hid hGl
              have HWN := Lib.hid hWN
              have HNN := Lib.hid hNn
              have HY := Lib.hid (⟨yn, yV, yO', yU, yG, yR, yB⟩ : _ ∧ _ ∧ _ ∧ _ ∧ _ ∧ _ ∧ _)
              clear yn yV yO yO' yU yG yR yB hNn
              unfold lv at d0
              go_wp2
              go_loopw [15, 16] (fun vg vk wx => ∃ (k c : Nat) (g : Option Addr), vg = .slice g (ln n + k) c ∧ vk = .int .i64 k ∧ k ≤ 300 ∧ wx.ownsRow W0.heap.size 3 1 (.slice g (ln n + k) c) (ln n + k) (List.replicate (ln n + k) (mk n)) ∧
                (∀ b, (Value.slice g (ln n + k) c).ownBlock = some b → (lv ad ln cp n).ownBlock = some b ∨ Nn ≤ b) ∧ CV ad ln G wx ∧ OV W0.heap.size ad ln cp (n + 1) wx ∧ CU G u ad ln cp n Nn wx ∧ wx.heap[G]? = some (.cells #[u 0, u 1, u 2] 59 (0, 0)) ∧ Rest (lv ad ln cp) W5 wx ∧ Nn ≤ wx.heap.size ∧ Below w.heap.size w wx) (fun _ vk _ => 300 - (intOf vk).toNat)
              case atStart => exact ⟨0, _, _, rfl, rfl, by omega, HY.out.1, fun b hb => .inl hb, HY.out.2.1, HY.out.2.2.1, HY.out.2.2.2.1, HY.out.2.2.2.2.1, HY.out.2.2.2.2.2.1, by rw [HNN.out]; exact Nat.le_refl _, HY.out.2.2.2.2.2.2⟩
              case round =>
                clear HY d0 d1 HNN
                obtain ⟨k, c, g, rfl, rfl, hk, hO, hb, xV, xO, xU, xG, xR, xN, xB⟩ := hrel
                by_cases hk3 : k < 300
                · have hki : (k : Int) < 300 := by omega
                  have hO1 := hO.alloc (.cells #[mk n] 3)
                  have hba := (Below.refl wr.heap.size wr).alloc (Nat.le_refl _) (.cells #[mk n] 3)
                  have HH := Lib.hid (⟨hb, cv_below xV (by have := (Array.getElem?_eq_some_iff.1 xG).1; omega) hba, ov_below xO hba, cu_below xU xN hba, heap_alloc_before xG (.cells #[mk n] 3), rest_below xR hba, xB.alloc xB.size (.cells #[mk n] 3)⟩ : _ ∧ _ ∧ _ ∧ _ ∧ _ ∧ _ ∧ _)
                  have HO1 := Lib.hid hO1
                  have w0w := HB0S.out
                  have hGl := HGL.out
                  have hWN := HWN.out
                  have xw := xR.1
                  have xg := (Array.getElem?_eq_some_iff.1 xG).1
                  clear hO hb xV xO xU xG xR xB hba hO1
                  unfold mk at HO1
                  go_wp2_with (at_builtin; refine wpList_append_own_keep _ rfl _ _ 53 rfl W0.heap.size 3 i0 (.int .i64 0) 1 8 Tryd.underlying53 hinf hz0 hz1 hz2 rfl (by decide) _ (ln n + k) _ rfl HO1.out ⟨wr.heap.size, 0, none⟩ 1 1 [.int .i64 (-1000000 - (n : Int))] rfl rfl ?c1 ?c2 ?c3 ?c4 ?c5 ?_)
                  case c1 => exact cells_fresh wr #[.int .i64 (-1000000 - (n : Int))] _ _ rfl
                  case c2 => intro x hx; simp at hx; subst hx; rfl
                  case c3 => unfold maxLen; omega
                  case c4 => omega
                  case c5 => simp; omega
                  intro v' w2 hown2 hgrow hloc hkeep
                  obtain ⟨g', c', rfl⟩ := owns_shape hown2
                  have hsa : Nn ≤ (wr.alloc (.cells #[.int .i64 (-1000000 - (n : Int))] 3)).heap.size := by simp; omega
                  obtain ⟨h1, h2, h4, h5, h6, h7, h8⟩ := HH.out
                  unfold mk at h2 h4 h5 h6 h7 h8
                  have hkp : ∀ b o, b < (wr.alloc (.cells #[.int .i64 (-1000000 - (n : Int))] 3)).heap.size → ((Value.slice g (ln n + k) c).ownBlock = some b → o < ln n + k) → w2.cell? ⟨b, o, none⟩ = (wr.alloc (.cells #[.int .i64 (-1000000 - (n : Int))] 3)).cell? ⟨b, o, none⟩ := fun b o h h' => hkeep b o (by simpa using h) h'
                  have hnb : ∀ b, (Value.slice g' (ln n + k + 1) c').ownBlock = some b → (lv ad ln cp n).ownBlock = some b ∨ Nn ≤ b := fun b e => by
                    rcases hloc with e2 | e2
                    · exact h1 b (e2.symm.trans e)
                    · rw [e2] at e
                      cases e
                      exact .inr (by simpa using hsa)
                  have FIN := Lib.hid (⟨by rw [show ln n + (k + 1) = ln n + k + 1 from rfl, List.replicate_succ']; exact hown2, hnb, cv_keep h2 hkp (by omega) (fun b e => (h1 b e).imp id (fun h => by omega)) (by omega) HA.out h3,
                    ov_grow (N := Nn) h4 hgrow h1 (fun m hm b hb => by have := HVG.out m hm b hb; omega) HA.out h3, cu_keep h5 hkp hsa h1 h3,
                    (hgrow.block G (by omega) (fun e => by
                      rcases h1 G e.symm with h9 | h9
                      · have := HVG.out n h3 G h9; omega
                      · omega)).trans h6, rest_grown h7 hgrow (fun b e => by
                      rcases h1 b e with h9 | h9
                      · exact .inr ⟨n, h3, h9⟩
                      · exact .inl (by omega)), Nat.le_trans hsa hgrow.size, h8.grown hgrow h8.size (fun b e => by
                      rcases h1 b e with h9 | h9
                      · exact Nat.le_of_lt (HT.out n h3 b h9).1
                      · omega)⟩ : w2.ownsRow W0.heap.size 3 1 (.slice g' (ln n + (k + 1)) c') (ln n + (k + 1)) (List.replicate (ln n + (k + 1)) (mk n)) ∧ _ ∧ _ ∧ _ ∧ _ ∧ _ ∧ _ ∧ _ ∧ _)
                  clear hown2 hgrow hloc hkeep hkp h1 h2 h4 h5 h6 h7 h8 hnb hsa HH HO1
                  go_wp2
                  exact ⟨⟨k + 1, c', g', rfl, by go_num, by omega, FIN.out⟩, by simp [intOf]; omega⟩
                · have hki : ¬ (k : Int) < 300 := by omega
                  obtain rfl : k = 300 := by omega
                  obtain ⟨gb, rfl⟩ := own_head hO (by omega)
                  obtain ⟨q0, q1⟩ := cells3 xG n h3
                  have hgg := own_lt hO
                  have w0w := HB0S.out
                  have hGl := HGL.out
                  have hWN := HWN.out
                  have FIN := Lib.hid (⟨cv_set (a := ⟨G, n, none⟩) xV (Nat.le_refl _) _, ov_set (a := ⟨G, n, none⟩) xO rfl HVG.out _, cu_more (j := n) xU xN h3 hO (hb gb rfl) (by omega) HVG.out HA.out, set3 xG n h3 (.slice (some ⟨gb, 0, none⟩) (ln n + 300) c), rest_set xR (a := ⟨G, n, none⟩) (.inl (by dsimp only; omega)) _, xB.setCell (p := ⟨G, n, none⟩) (by dsimp only; omega) _⟩ : CV ad ln G (wr.setCell ⟨G, n, none⟩ (.slice (some ⟨gb, 0, none⟩) (ln n + 300) c)) ∧ OV W0.heap.size ad ln cp (n + 1) (wr.setCell ⟨G, n, none⟩ (.slice (some ⟨gb, 0, none⟩) (ln n + 300) c)) ∧ _ ∧ _ ∧ Rest (lv ad ln cp) W5 (wr.setCell ⟨G, n, none⟩ (.slice (some ⟨gb, 0, none⟩) (ln n + 300) c)) ∧ Below w.heap.size w (wr.setCell ⟨G, n, none⟩ (.slice (some ⟨gb, 0, none⟩) (ln n + 300) c)))
                  clear hO hb xV xO xU xG xR xB
                  go_wp2
                  exact ⟨⟨n + 1, _, by go_num, by omega, FIN.out.1, FIN.out.2.1, by simpa using FIN.out.2.2.1, FIN.out.2.2.2⟩, by simp [intOf]; omega⟩
            · have h3i : ¬ (n : Int) < 3 := by omega
              obtain rfl : n = 3 := by omega
              have HU := Lib.hid yU
              have HW9 := Lib.hid (ints_rest (n := li.length) (c := c3) yR HW.out (fun q hq => ⟨by have := (T3.out q hq).2; omega, fun m hm e => by have := (T3.out q hq).1; have := (HT.out m hm q e).2.1; omega⟩))
              have HLW := Lib.hid ((yR.2 L hLs HLV.out).trans HLM.out)
              have hp9 := (yR.2 w.heap.size (by omega) (fun m hm e => by have := (HT.out m hm _ e).1; omega)).trans HP5.out
              have HP9 := Lib.hid hp9
              have HYV := Lib.hid yV
              have HYG := Lib.hid yG
              have HYB := Lib.hid yB
              clear yV yO yU yG yR yB hp9
              go_wp2
              go_loop [17] (fun vn => ∃ n : Nat, vn = .int .i64 n ∧ n ≤ 3) (fun vn => 3 - (intOf vn).toNat)
              case atStart => exact ⟨0, rfl, by omega⟩
              case round =>
                obtain ⟨n, rfl, hn⟩ := hrel
                by_cases h3 : n < 3
                · have h3i : (n : Int) < 3 := by omega
                  obtain ⟨b, c, hu, _, hcell, _⟩ := HU.out n h3
                  obtain ⟨d0, d1⟩ := cells3 HYG.out n h3
                  obtain ⟨d2, d3⟩ := cells3 HLW.out n h3
                  rw [hu] at d0
                  unfold lv at d2
                  have HC := Lib.hid hcell
                  have hl2 := HLL.out n h3
                  clear hcell hu
                  go_wp2
                  go_loop [18] (fun vk => ∃ k : Nat, vk = .int .i64 k ∧ k ≤ ln n + 300) (fun vk => ln n + 300 - (intOf vk).toNat)
                  case atStart => exact ⟨0, rfl, by omega⟩
                  case round =>
                    obtain ⟨k, rfl, hk⟩ := hrel
                    by_cases hk3 : k < ln n + 300
                    · have hki : (k : Int) < (ln n : Int) + 300 := by omega
                      have hc := HC.out k hk3
                      unfold mk at hc
                      by_cases hkl : k < ln n
                      · have hkj : (k : Int) < (ln n : Int) := by omega
                        obtain ⟨b', hb1, _, hb2⟩ := HYV.out n h3 k hkl
                        rw [hb1] at d2
                        unfold mk at hb2
                        go_wp2
                        exact ⟨⟨k + 1, by go_num, by omega⟩, by simp [intOf]; omega⟩
                      · have hkj : ¬ (k : Int) < (ln n : Int) := by omega
                        go_wp2
                        exact ⟨⟨k + 1, by go_num, by omega⟩, by simp [intOf]; omega⟩
                    · have hki : ¬ (k : Int) < (ln n : Int) + 300 := by omega
                      go_wp2
                      exact ⟨⟨n + 1, by go_num, by omega⟩, by simp [intOf]; omega⟩
                · have h3i : ¬ (n : Int) < 3 := by omega
                  obtain ⟨p0, p1, p2, p3, pz, pl⟩ := cells4 HP9.out
                  go_wp2_with (go_at_call 28; refine stop_o ?_)
                  unfold StopO
                  clear p0 p1 p2 p3 pz pl
                  refine (HI.out _ HYB.out).mono ?_
                  rintro e WA ⟨v, rfl, oA, hb⟩
                  obtain ⟨XA, cA, rfl⟩ := owns_shape oA
                  have IA := Lib.hid (owned_ints64 (zs := li) oA)
                  have IW := Lib.hid (ints_below hb HW9.out)
                  have BA := Lib.hid (HYB.out.trans (hb.mono HYB.out.size))
                  clear oA hb
                  go_wp2
                  go_loopw [20] (fun vk wr => ∃ k : Nat, vk = .int .i64 k ∧ k ≤ li.length ∧ Below WA.heap.size WA wr) (fun vk _ => li.length - (intOf vk).toNat)
                  case atStart => exact ⟨0, rfl, Nat.zero_le _, Below.refl _ _⟩
                  case round =>
                    obtain ⟨k, rfl, hk, hBx⟩ := hrel
                    by_cases hlt : k < li.length
                    · obtain ⟨x0, rfl, hx0⟩ := IA.out k hlt
                      obtain ⟨x3, rfl, hx3⟩ := IW.out k hlt
                      replace hx0 := cell_later hBx hx0
                      replace hx3 := cell_later hBx hx3
                      generalize li.getD k 0 = z at hx0 hx3
                      have hk1 : (k : Int) < (li.length : Int) := by omega
                      have hk2 : decide ((li.length : Int) ≤ (k : Int)) = false := decide_eq_false (by omega)
                      have hk3 : decide (li.length ≤ k) = false := decide_eq_false (by omega)
                      go_wp2
                      go_quiet (fail)
                      go_wp2
                      exact ⟨⟨k + 1, by go_num, by omega, below_drewN hBx _⟩, by simp [intOf]; omega⟩
                    · have hk1 : ¬ (k : Int) < (li.length : Int) := by omega
                      go_wp2_with (go_at_call 17; refine (awake6 _).mono ?_; rintro e w2 ⟨rfl, hb2⟩)
                      go_ret
                      exact ⟨rfl, BA.out.trans ((hBx.trans (hb2.mono hBx.size)).mono BA.out.size)⟩
end Go.Proofs.YthjnjdpiihpgeaaDoor
