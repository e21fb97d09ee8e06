/- A region that draws its order, whose operations' values hang on what was drawn (two makers of memory in any order, a third one that takes both), and a last operation that may write a slot which others read. Over any program. -/
import Derived.Test.YtfjmdffhfjnopaaDoorGen
namespace Go.Vk
open Go.Sort Go.RowKit
theorem wpIn_region_state_put {S : Type} {F : Fence} {n : Nat} {P : Program} {id : Nat} {l : List Oper} {oL : Oper} {Q : Exit → Act → World → Prop} {a0 : Act} {w0 : World} (vals : S → Nat → Value) (Wd : S → Array Bool → World → Prop) (s0 : S) (hm : P.follows .mixedOrders = true)
    (hg : (l.all fun o => o.guard.isNone && noDefer o) = true) (hgL : oL.guard = none) (hbL : (List.range (l ++ [oL]).length).all (fun i => match (l ++ [oL])[i]? with | some o => o.after.all (fun e => !Region.binds .any e || decide (e.on < i)) | none => true) = true)
    (hwL : (List.range l.length).all (fun j => oL.after.any fun e => e.on == j && Region.binds .any e) = true)
    (hd : (List.range l.length).all (fun i => (List.range l.length).all fun j => i == j || (match l[i]?, l[j]? with | some o, some o' => (match o.dst, o'.dst with | some d, some d' => d != d' | _, _ => true) | _, _ => true)) = true)
    (hlt : (l.all fun o => match o.dst with | some d => decide (d < a0.tmps.size) | none => true) = true)
    (h0 : Wd s0 (Array.replicate l.length false) w0.drew)
    (hstep : ∀ i o, l[i]? = some o → ∀ (σ : S) (listed : Array Bool) (ρ : Operand → Value) w, listed.size = l.length → Rho l (vals σ) a0 o ρ →
      Wd σ listed w → listed.getD i true = false → (∀ e ∈ o.after, Region.binds .any e = true → listed.getD e.on false = true) → (∀ (j : Nat) (o : Oper), l[j]? = some o → listed.getD j true = true → ∀ e ∈ o.after, Region.binds .any e = true → listed.getD e.on false = true) →
      ∃ σ' w', Yld P ρ o w (vals σ' i) w' ∧ Wd σ' (listed.setIfInBounds i true) w' ∧ ∀ j, listed.getD j true = true → j < listed.size → vals σ j = vals σ' j)
    (hend : ∀ (listed : Array Bool) a σ w, Jt l (vals σ) a0 listed a → Wd σ listed w → listed.size = l.length → (∀ i, i < l.length → listed.getD i true = true) → oL.wpIn F n P a w (fun a' w' => Q .normal a' w') Q) : (Code.region id (l ++ [oL]).toArray true).wpIn F n P Q a0 w0 := by
  have hgd : ∀ o ∈ l, o.guard = none ∧ noDefer o = true := fun o ho => by
    have := List.all_eq_true.1 hg o ho
    simpa using this
  have hll : (l ++ [oL]).length = l.length + 1 := by simp
  have hback : ∀ (i : Nat) (o : Oper), l[i]? = some o → ∀ e ∈ o.after, Region.binds .any e = true → e.on < l.length := fun i o ho e he hbe => by
    have hil := (List.getElem?_eq_some_iff.1 ho).1
    have h1 := List.all_eq_true.1 hbL i (List.mem_range.2 (by omega))
    rw [List.getElem?_append_left hil, ho] at h1
    have h2 := Array.all_eq_true'.1 h1 e he
    have h3 : e.on < i := by rw [hbe] at h2; simpa using h2
    omega
  refine wpIn_region_inv (fun listed a w => (listed.getD l.length true = false ∧ ∃ σ, Jt l (vals σ) a0 listed.pop a ∧ Wd σ listed.pop w) ∨ ((∀ i, i < l.length + 1 → listed.getD i true = true) ∧ Q .normal a w)) hm (fun o ho => ?_) (some_ready hbL) (.inl ⟨by simp [hll], s0, ?_, ?_⟩) (fun i o ho listed a w hs hJ hf hdep => ?_) (fun listed a w hs hJ hall => ?_)
  · rcases List.mem_append.1 ho with h | h
    · exact (hgd o h).1
    · rw [List.mem_singleton.1 h]; exact hgL
  · have e : (Array.replicate (l ++ [oL]).length false).pop = Array.replicate l.length false := by rw [hll]; simp
    rw [e]
    exact jt_start _ _ _ _ (Nat.le_refl _)
  · have e : (Array.replicate (l ++ [oL]).length false).pop = Array.replicate l.length false := by rw [hll]; simp
    rw [e]
    exact h0
  · rw [hll] at hs
    have hps : listed.pop.size = l.length := by simp [hs]
    rcases hJ with ⟨hfm, σ, hj, hW⟩ | ⟨hall, _⟩
    · by_cases e : i < l.length
      · rw [List.getElem?_append_left e] at ho
        have hdep' : ∀ e ∈ o.after, Region.binds .any e = true → listed.pop.getD e.on false = true := fun x hx hb => by
          rw [pop_get (by have := hback i o ho x hx hb; omega)]
          exact hdep x hx hb
        obtain ⟨σ', w', hy, hW', hch⟩ := hstep i o ho σ listed.pop a.eval w hps ⟨fun e he hbi o' d h1 h2 => by
          have h3 := getD_false_true (hdep' e he hbi)
          exact hj.done e.on o' d h1 h3.1 h3.2 h2, fun d hdn => hj.rest d (rest_of hdn), fun c => rfl⟩ hW (by rw [pop_get (by omega)]; exact hf) hdep' hj.clos
        refine wpIn_oper_yld (hgd o (List.mem_of_getElem? ho)).2 hy (.inl ⟨?_, σ', ?_, ?_⟩)
        · rw [getD_set_ne true (by omega)]
          exact hfm
        · rw [pop_set, if_pos (by omega)]
          refine jt_step (jt_change hj hch) ho (fun j o' d h1 h2 h3 => ?_) (fun d h1 => ?_) hdep'
          · have hil : i < l.length := (List.getElem?_eq_some_iff.1 ho).1
            have hjl : j < l.length := (List.getElem?_eq_some_iff.1 h1).1
            have h4 := List.all_eq_true.1 (List.all_eq_true.1 hd j (List.mem_range.2 hjl)) i (List.mem_range.2 hil)
            rw [h1, ho] at h4
            simp only [h2, h3, bne_self_eq_false, Bool.or_false, beq_iff_eq] at h4
            exact h4
          · have h4 := List.all_eq_true.1 hlt o (List.mem_of_getElem? ho)
            rw [h1] at h4
            simpa using h4
        · rw [pop_set, if_pos (by omega)]
          exact hW'
      · have hil : i < (l ++ [oL]).length := (List.getElem?_eq_some_iff.1 ho).1
        have ei : i = l.length := by omega
        subst ei
        rw [List.getElem?_append_right (Nat.le_refl _), Nat.sub_self] at ho
        obtain rfl : oL = o := by simpa using ho
        have hlj : ∀ j, j < l.length → listed.getD j true = true := fun j hji => by
          have h4 := List.all_eq_true.1 hwL j (List.mem_range.2 hji)
          obtain ⟨x, hx1, hx2⟩ := Array.any_eq_true'.1 h4
          simp only [Bool.and_eq_true, beq_iff_eq] at hx2
          have h5 := hdep x hx1 hx2.2
          rw [hx2.1] at h5
          exact (getD_false_true h5).1
        refine Oper.wpIn_mono (fun a' w' hQ => .inr ⟨fun j hj' => ?_, hQ⟩) (hend listed.pop a σ w hj hW hps (fun j hji => by rw [pop_get (by omega)]; exact hlj j hji))
        by_cases ej : l.length = j
        · subst ej
          simp [hs]
        · rw [getD_set_ne true ej]
          exact hlj j (by omega)
    · have hil : i < (l ++ [oL]).length := (List.getElem?_eq_some_iff.1 ho).1
      rw [hall i (by omega)] at hf
      cases hf
  · rcases hJ with ⟨hfm, _⟩ | ⟨_, hQ⟩
    · rw [hall l.length (by omega)] at hfm
      cases hfm
    · exact hQ
/-- The values where two makers (q1, q2) and a third one (m) yield what is known only when it is made. -/
def vals3 (pv : Nat → Value) (q1 q2 m : Nat) (σ : Value × Value × Value) (j : Nat) : Value := if j = q1 then σ.1 else if j = q2 then σ.2.1 else if j = m then σ.2.2 else pv j
theorem wpIn_region_two {F : Fence} {n : Nat} {P : Program} {id : Nat} {l : List Oper} {oL : Oper} {Q : Exit → Act → World → Prop} {a0 : Act} {w0 : World} (pv : Nat → Value) (q1 q2 m : Nat) (M1 M2 : Value → World → Prop) (Mend : Value → World → Prop) (hm : P.follows .mixedOrders = true)
    (hg : (l.all fun o => o.guard.isNone && noDefer o) = true) (hgL : oL.guard = none) (hbL : (List.range (l ++ [oL]).length).all (fun i => match (l ++ [oL])[i]? with | some o => o.after.all (fun e => !Region.binds .any e || decide (e.on < i)) | none => true) = true)
    (hwL : (List.range l.length).all (fun j => oL.after.any fun e => e.on == j && Region.binds .any e) = true)
    (hd : (List.range l.length).all (fun i => (List.range l.length).all fun j => i == j || (match l[i]?, l[j]? with | some o, some o' => (match o.dst, o'.dst with | some d, some d' => d != d' | _, _ => true) | _, _ => true)) = true)
    (hlt : (l.all fun o => match o.dst with | some d => decide (d < a0.tmps.size) | none => true) = true)
    (hq : q1 < m ∧ q2 < m ∧ q1 ≠ q2) (hml : l.length = m + 1) (hwait : (List.range l.length).all (fun j => j == m || waitsN l 8 m j) = true)
    (k1 : ∀ v W W', M1 v W → Below W.heap.size W W' → M1 v W') (k2 : ∀ v W W', M2 v W → Below W.heap.size W W' → M2 v W')
    (hp : ∀ i o, i < m → i ≠ q1 → i ≠ q2 → l[i]? = some o → ∀ σ ρ, Rho l (vals3 pv q1 q2 m σ) a0 o ρ → ∀ W, Below w0.heap.size w0 W → Yld P ρ o W (pv i) W)
    (h1 : ∀ o, l[q1]? = some o → ∀ σ ρ, Rho l (vals3 pv q1 q2 m σ) a0 o ρ → ∀ W, Below w0.heap.size w0 W → ∃ v W', Yld P ρ o W v W' ∧ Below W.heap.size W W' ∧ M1 v W')
    (h2 : ∀ o, l[q2]? = some o → ∀ σ ρ, Rho l (vals3 pv q1 q2 m σ) a0 o ρ → ∀ W, Below w0.heap.size w0 W → ∃ v W', Yld P ρ o W v W' ∧ Below W.heap.size W W' ∧ M2 v W')
    (h3 : ∀ o, l[m]? = some o → ∀ σ ρ, Rho l (vals3 pv q1 q2 m σ) a0 o ρ → ∀ W, Below w0.heap.size w0 W → M1 σ.1 W → M2 σ.2.1 W → ∃ v W', Yld P ρ o W v W' ∧ Mend v W')
    (hend : ∀ (listed : Array Bool) a σ w, (∀ i, i < l.length → listed.getD i true = true ∧ i < listed.size) → Jt l (vals3 pv q1 q2 m σ) a0 listed a → Mend σ.2.2 w → oL.wpIn F n P a w (fun a' w' => Q .normal a' w') Q) : (Code.region id (l ++ [oL]).toArray true).wpIn F n P Q a0 w0 := by
  refine wpIn_region_state_put (vals3 pv q1 q2 m) (fun σ listed w => (listed.getD m true = false ∧ Below w0.heap.size w0 w ∧ (listed.getD q1 true = true → M1 σ.1 w) ∧ (listed.getD q2 true = true → M2 σ.2.1 w)) ∨ ((∀ i, i < l.length → listed.getD i true = true) ∧ Mend σ.2.2 w)) (undef, undef, undef) hm hg hgL hbL hwL hd hlt (.inl ⟨?_, (Below.refl _ _).drew, fun h => ?_, fun h => ?_⟩) (fun i o ho σ listed ρ w hs hr hW hf hdep hcl => ?_) (fun listed a σ w hJ hW hs hall => ?_)
  · rw [Array.getD_eq_getD_getElem?, Array.getElem?_replicate, if_pos (by omega)]
    rfl
  · rw [Array.getD_eq_getD_getElem?, Array.getElem?_replicate, if_pos (by omega)] at h
    cases h
  · rw [Array.getD_eq_getD_getElem?, Array.getElem?_replicate, if_pos (by omega)] at h
    cases h
  · have hil : i < l.length := (List.getElem?_eq_some_iff.1 ho).1
    have hno : ∀ j, listed.getD j true = true → j ≠ i := fun j hj e => by rw [e, hf] at hj; cases hj
    rcases hW with ⟨hfm, hB, hM1, hM2⟩ | ⟨hall, _⟩
    · by_cases em : i = m
      · subst em
        have hlj : ∀ j, j < l.length → j ≠ i → listed.getD j true = true := fun j hjl hne => by
          have h4 := List.all_eq_true.1 hwait j (List.mem_range.2 hjl)
          have h5 : waitsN l 8 i j = true := by
            rcases Bool.or_eq_true_iff.1 h4 with h | h
            · exact absurd (by simpa using h) hne
            · exact h
          exact waits_listed hcl 8 _ _ o h5 ho hdep
        obtain ⟨v, W', hy, hW'⟩ := h3 o ho σ ρ hr w hB (hM1 (hlj q1 (by omega) (by omega))) (hM2 (hlj q2 (by omega) (by omega)))
        refine ⟨(σ.1, σ.2.1, v), W', ?_, .inr ⟨fun j hjl => ?_, hW'⟩, fun j hj _ => ?_⟩
        · have e : vals3 pv q1 q2 i (σ.1, σ.2.1, v) i = v := by unfold vals3; rw [if_neg (by omega), if_neg (by omega), if_pos rfl]
          rw [e]
          exact hy
        · by_cases ej : i = j
          · subst ej
            simp
          · rw [getD_set_ne true ej]
            exact hlj j hjl (fun e => ej e.symm)
        · have := hno j hj
          unfold vals3
          by_cases e1 : j = q1
          · rw [if_pos e1, if_pos e1]
          · rw [if_neg e1, if_neg e1]
            by_cases e2 : j = q2
            · rw [if_pos e2, if_pos e2]
            · rw [if_neg e2, if_neg e2, if_neg this, if_neg this]
      · by_cases e1 : i = q1
        · subst e1
          obtain ⟨v, W', hy, hb, hW'⟩ := h1 o ho σ ρ hr w hB
          refine ⟨(v, σ.2.1, σ.2.2), W', ?_, .inl ⟨?_, hB.trans (hb.mono hB.size), fun _ => hW', fun h => ?_⟩, fun j hj _ => ?_⟩
          · have e : vals3 pv i q2 m (v, σ.2.1, σ.2.2) i = v := by unfold vals3; rw [if_pos rfl]
            rw [e]
            exact hy
          · rw [getD_set_ne true em]
            exact hfm
          · rw [getD_set_ne true (fun e => hq.2.2 e)] at h
            exact k2 _ _ _ (hM2 h) hb
          · have := hno j hj
            unfold vals3
            rw [if_neg this, if_neg this]
        · by_cases e2 : i = q2
          · subst e2
            obtain ⟨v, W', hy, hb, hW'⟩ := h2 o ho σ ρ hr w hB
            refine ⟨(σ.1, v, σ.2.2), W', ?_, .inl ⟨?_, hB.trans (hb.mono hB.size), fun h => ?_, fun _ => hW'⟩, fun j hj _ => ?_⟩
            · have e : vals3 pv q1 i m (σ.1, v, σ.2.2) i = v := by unfold vals3; rw [if_neg e1, if_pos rfl]
              rw [e]
              exact hy
            · rw [getD_set_ne true em]
              exact hfm
            · rw [getD_set_ne true (fun e => hq.2.2 e.symm)] at h
              exact k1 _ _ _ (hM1 h) hb
            · have := hno j hj
              unfold vals3
              by_cases e1 : j = q1
              · rw [if_pos e1, if_pos e1]
              · rw [if_neg e1, if_neg e1, if_neg this, if_neg this]
          · refine ⟨σ, w, ?_, .inl ⟨?_, hB, fun h => ?_, fun h => ?_⟩, fun j _ _ => rfl⟩
            · have e : vals3 pv q1 q2 m σ i = pv i := by unfold vals3; rw [if_neg e1, if_neg e2, if_neg em]
              rw [e]
              exact hp i o (by omega) e1 e2 ho σ ρ hr w hB
            · rw [getD_set_ne true em]
              exact hfm
            · rw [getD_set_ne true e1] at h
              exact hM1 h
            · rw [getD_set_ne true e2] at h
              exact hM2 h
    · rw [hall i hil] at hf
      cases hf
  · rcases hW with ⟨hfm, _⟩ | ⟨_, hE⟩
    · rw [hall m (by omega)] at hfm
      cases hfm
    · exact hend listed a σ w (fun i hi => ⟨hall i hi, by omega⟩) hJ hE
end Go.Vk
