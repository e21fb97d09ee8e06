/- Where an instruction's ways lead; a step of a walk (plain); append's run, of what came in. -/
import Derived.Test.YtfjmdffhfjnopaaDoorMet7
import Derived.Test.YtfjmdffhfjnopaaDoorOrderS
namespace Vouch
open Go.Vk Go.Proofs.YtfjmdffhfjnopaaDoor
/-- Where an instruction's ways lead. -/
def tosI (i : Ins) : List Int := leadsI i ++ (if (opR i.code).ends then [] else [i.next])
theorem getD_mem {l : List Int} {m : Nat} (h : m < l.length) : l.getD m 0 ∈ l := by
  rw [List.getD_eq_getElem?_getD, List.getElem?_eq_getElem h]
  exact List.getElem_mem h
theorem at_zero {bs : List Int} (h : 0 < (allI bs).length) : ((allI bs).getD 0 zeroI).at_ = 0 := by
  obtain ⟨q, hq, _⟩ := allI_reads bs
  have hs : allI bs = [] ++ (allI bs).getD 0 zeroI :: (allI bs).drop 1 := by
    rw [List.getD_eq_getElem?_getD, List.getElem?_eq_getElem h]
    conv => lhs; rw [← List.drop_zero (l := allI bs), List.drop_eq_getElem_cons h]
    rfl
  rw [hs] at hq
  obtain ⟨p, r1, r2⟩ := reads_take _ hq
  have := reads_next r1
  have h2 := (read_next r2).2.2.2.1
  rw [h2, this]
  rfl
theorem tosI_len {i : Ins} (hz : ∀ z ∈ i.imm, 0 ≤ z ∧ z < 256) : (tosI i).length ≤ 257 := by
  have := leadsI_len hz
  unfold tosI
  rw [List.length_append]
  split <;> simp <;> omega
theorem tos_place {bs : List Int} {k m : Nat} (hc : (checkE bs (allI bs)).1 = 0) (hk : k < (allI bs).length) (hm : m < (tosI ((allI bs).getD k zeroI)).length) : ∃ n, n < (allI bs).length ∧ n ∈ toN (allI bs) k ∧ ((allI bs).getD n zeroI).at_ = (tosI ((allI bs).getD k zeroI)).getD m 0 := by
  obtain ⟨h1, h2⟩ := toN_place hc hk
  have hmem : (tosI ((allI bs).getD k zeroI)).getD m 0 ∈ tosI ((allI bs).getD k zeroI) := getD_mem hm
  generalize (tosI ((allI bs).getD k zeroI)).getD m 0 = t at hmem
  unfold tosI at hmem
  unfold toN
  rcases List.mem_append.1 hmem with h | h
  · obtain ⟨a, b⟩ := h2 t h
    exact ⟨_, a, List.mem_append.2 (.inr (List.mem_map.2 ⟨t, h, rfl⟩)), b⟩
  · cases he : (opR ((allI bs).getD k zeroI).code).ends with
    | true =>
      rw [he] at h
      simp at h
    | false =>
      rw [he] at h
      have ht : t = ((allI bs).getD k zeroI).next := by simpa using h
      obtain ⟨a, b⟩ := h1 he
      exact ⟨k + 1, a, List.mem_append.2 (.inl (by simp)), by rw [b, ht]⟩
theorem low_in {ts : List Ty} {own : Ty} {i : Ins} {h : Int × Int} (hw : wrongI ts own i h = 0) : (turnsI ts own i).1 ≤ h.1 ∧ (i.code = 228 → h.1 = (turnsI ts own i).1 ∧ h.2 = (turnsI ts own i).1) := by
  unfold wrongI at hw
  by_cases e : i.code = 228
  · have ht : (turnsI ts own i).1 = own.out := by unfold turnsI; rw [if_neg (by omega), if_neg (by omega), if_pos e]
    rw [if_pos e] at hw
    rw [ht]
    split at hw
    · rename_i h1
      exact ⟨by omega, fun _ => h1⟩
    · omega
  · rw [if_neg e] at hw
    refine ⟨?_, fun h => absurd h e⟩
    split at hw
    · omega
    · omega
/-- A step of a walk stays within the heights. -/
theorem judged_step {ts : List Ty} {own : Ty} {l : List Ins} {hs : List (Int × Int)} (h : Judged ts own l hs) {k n : Nat} (hk : k < l.length) (hn : n < l.length) (ht : n ∈ toN l k) {wd : Int} (h1 : (hs.getD k (0, 0)).1 ≤ wd) (h2 : wd ≤ (hs.getD k (0, 0)).2) :
    (hs.getD n (0, 0)).1 ≤ wd - (turnsI ts own (l.getD k zeroI)).1 + (turnsI ts own (l.getD k zeroI)).2 ∧ wd - (turnsI ts own (l.getD k zeroI)).1 + (turnsI ts own (l.getD k zeroI)).2 ≤ (hs.getD n (0, 0)).2 := by
  by_cases e : k < n
  · have := h.ahead k n hn e ht
    unfold goH at this
    dsimp only at this
    omega
  · have := h.back k n hk (by omega) ht
    unfold goH at this
    rw [this]
    dsimp only
    omega
theorem rise_hg {bs : List Int} {hs : List (Int × Int)} (hl : hs.length = (allI bs).length) : ∀ a b, a < b → b < (hgTri (allI bs) hs).length → ((hgTri (allI bs) hs).getD a zeroTri).1 < ((hgTri (allI bs) hs).getD b zeroTri).1 := fun a b hab hb => by
  rw [hgTri_length hl, hl] at hb
  rw [hgTri_at hl (by omega), hgTri_at hl hb]
  dsimp only
  obtain ⟨q, hq, _⟩ := allI_reads bs
  have e1 : (allI bs).getD b zeroI = (allI bs)[b] := by rw [List.getD_eq_getElem?_getD, List.getElem?_eq_getElem hb]; rfl
  have hs : allI bs = (allI bs).take b ++ (allI bs).getD b zeroI :: (allI bs).drop (b + 1) := by
    rw [e1, ← List.drop_eq_getElem_cons hb, List.take_append_drop]
  rw [hs] at hq
  obtain ⟨p, r1, r2⟩ := reads_take _ hq
  have ha : (allI bs).getD a zeroI ∈ (allI bs).take b := by
    have ha' : a < ((allI bs).take b).length := by rw [List.length_take]; omega
    have : (allI bs).getD a zeroI = ((allI bs).take b)[a] := by rw [List.getElem_take, List.getD_eq_getElem?_getD, List.getElem?_eq_getElem (by omega)]; rfl
    rw [this]
    exact List.getElem_mem ha'
  have := (reads_lt r1 _ ha).2.1
  have := (read_next r2).2.2.2.1
  omega
end Vouch
namespace Go.Vk
open Go.RowKit
theorem run_append_src {P : Program} (w : World) (base : Nat) (t ty e : TypeId) (i : TypeInfo) (z : Value) (size bytes : Nat) (ht : P.underlying t = some (.slice e)) (hi : P.info? e = some i) (hz : i.zero = some z)
    (hsize : i.size = size) (hby : i.bytes = bytes) (hzs : z.cells.size = size) (hsz : 0 < size)
    (v : Value) (n : Nat) (xs : List Value) (hown : w.ownsRow base e size v n xs)
    (A : Option Addr) (m c : Nat) (news : List Value) (hA : A = none → m = 0 ∧ c = 0) (hl : news.length = m * size) (hnews : ∀ y, A = some y → ∀ j u, news[j]? = some u → w.cell? (y.add j) = some u) (h1 : ∀ u ∈ news, u.oneCell' = true)
    (h63 : n + m ≤ maxLen) (hbytes : (n + m) * bytes ≤ 140737488355328) (hbase : base ≤ w.heap.size) :
    ∃ v' w', (Builtin.append_ #[t, t] ty #[v, .slice A m c]).run P w = .ok v' w' ∧ w'.ownsRow base e size v' (n + m) (xs ++ news) ∧ w.grownBy w' v.ownBlock := by
  cases A with
  | some y =>
    obtain ⟨v', w', hr, h2, h3, _⟩ := run_append_own_keep (P := P) w base t ty e i z size bytes ht hi hz hsize hby hzs hsz v n xs hown y m c news hl (hnews y rfl) h1 h63 hbytes hbase
    exact ⟨v', w', hr, h2, h3⟩
  | none =>
    obtain ⟨rfl, rfl⟩ := hA rfl
    have hnil : news = [] := List.eq_nil_of_length_eq_zero (by omega)
    subst hnil
    exact ⟨v, w, run_append_owned_none (P := P) (w := w) base t ty e i size ht hi v n xs hown, by simpa using hown, World.grownBy.refl _ _⟩
theorem own_none {w : World} {B e size n c : Nat} {X : Option Addr} {xs : List Value} (h : w.ownsRow B e size (.slice X n c) n xs) : X = none → n = 0 ∧ c = 0 := fun e => by
  subst e
  rcases h.2 with ⟨a1, a2⟩ | ⟨g, cap, cur, a1, _⟩
  · exact ⟨a2, (Value.slice.inj a1).2.2⟩
  · cases a1
theorem own_src {w : World} {B e size n c : Nat} {X : Option Addr} {xs : List Value} (h : w.ownsRow B e size (.slice X n c) n xs) : ∀ y, X = some y → ∀ j u, xs[j]? = some u → w.cell? (y.add j) = some u := fun y hy j u hu => by
  subst hy
  rcases h.2 with ⟨a1, a2⟩ | ⟨g, cap, cur, a1, _⟩
  · cases a1
  · cases a1
    exact h.cells (g := g) rfl j u hu
end Go.Vk
