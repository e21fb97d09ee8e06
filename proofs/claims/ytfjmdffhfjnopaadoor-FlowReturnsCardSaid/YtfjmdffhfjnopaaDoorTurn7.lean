/- vouchlaw7's turns, ends, number; an instruction that was read stands. -/
import Derived.Test.YtfjmdffhfjnopaaDoorJudge7
import Derived.Test.YtfjmdffhfjnopaaDoorNamed7
namespace Vouch
open Go.Vk Go.Proofs.YtfjmdffhfjnopaaDoor
theorem immL_take {r : OpRow} {z : List Int} {n : Nat} (h : immL r z = some n) (hn : n ≤ z.length) (hz : ∀ x ∈ z, 0 ≤ x) : immL r (z.take n) = some n := by
  unfold immL at h ⊢
  by_cases e : r.imm = -1
  · rw [if_pos e] at h ⊢
    by_cases e2 : z.length = 0
    · rw [if_pos e2] at h
      cases h
    · rw [if_neg e2] at h
      have h1 := Option.some.inj h
      cases z with
      | nil => simp at e2
      | cons a r =>
        have ha := hz a (List.mem_cons_self ..)
        rw [List.getD_cons_zero] at h1
        obtain ⟨m, rfl⟩ : ∃ m, n = m + 1 := ⟨n - 1, by omega⟩
        rw [List.take_succ_cons, List.getD_cons_zero, if_neg (by simp), h1]
  · rw [if_neg e] at h ⊢
    exact h
theorem read_stands {bs : List Int} {p : Int} {i : Ins} (hz : ∀ z ∈ bs, 0 ≤ z ∧ z < 256) (hb : bs.length ≤ 1048577) (h : readE bs p = (0, i)) : standsI i = true := by
  have hn := read_next h
  unfold readE at h
  split at h
  · cases h
  · split at h
    · cases h
    · rename_i hop
      split at h
      · cases h
      · rename_i n hi
        split at h
        · cases h
        · rename_i hl
          injection h with _ h
          have hle : n ≤ (bs.drop (p.toNat + 1)).length := by rw [List.length_drop]; omega
          have hi2 := immL_take hi hle (fun x hx => (hz x (List.mem_of_mem_drop hx)).1)
          subst h
          dsimp only at hn ⊢
          unfold standsI
          dsimp only
          have hl2 : ((bs.drop (p.toNat + 1)).take n).length = n := by rw [List.length_take]; omega
          rw [hi2, hl2]
          have hop2 : isOp (bs.getD p.toNat 0) = true := by simpa using hop
          rw [hop2, decide_eq_true (by omega), decide_eq_true (by omega)]
          simp
theorem needs_ok {i : Ins} (h : standsI i = true) (hz : ∀ z ∈ i.imm, 0 ≤ z ∧ z < 256) (hr : -1 ≤ (opR i.code).imm) : (needsOf i.code i.imm).2.2 = true := by
  obtain ⟨h1, _, _, h4, _⟩ := stands_bounds h
  have hl : (i.imm.length : Int) = immN (opR i.code) (i.imm.getD 0 0) ∧ ¬ ((opR i.code).imm = -1 ∧ i.imm.length = 0) := by
    unfold immL at h4
    unfold immN
    by_cases e : (opR i.code).imm = -1
    · rw [if_pos e] at h4
      rw [if_pos e]
      by_cases e2 : i.imm.length = 0
      · rw [if_pos e2] at h4
        cases h4
      · rw [if_neg e2] at h4
        have := Option.some.inj h4
        have hb : 0 ≤ i.imm.getD 0 0 := by
          rw [List.getD_eq_getElem?_getD, List.getElem?_eq_getElem (by omega)]
          exact (hz _ (List.getElem_mem _)).1
        exact ⟨by omega, fun h => e2 h.2⟩
    · rw [if_neg e] at h4
      rw [if_neg e]
      have := Option.some.inj h4
      exact ⟨by omega, fun h => e h.1⟩
  unfold needsOf
  rw [if_neg (by simp [h1]), if_neg hl.2, if_neg (by simp only [ne_eq, Decidable.not_not]; exact hl.1)]
  split
  · rfl
  · split <;> rfl
theorem imm_low : ∀ c : Fin 256, -1 ≤ (opR (c.1 : Int)).imm := by decide +kernel
theorem opR_imm_low {c : Int} (h : isOp c = true) : -1 ≤ (opR c).imm := by
  by_cases h0 : 0 ≤ c ∧ c < 256
  · have := imm_low ⟨c.toNat, by omega⟩
    rwa [show ((c.toNat : Nat) : Int) = c by omega] at this
  · unfold isOp at h
    rw [opR_out c (by omega)] at h
    exact absurd h (by decide +kernel)
/-- What is known of the instruction number k of a section. -/
theorem ins_known {bs : List Int} {k : Nat} (hz : ∀ z ∈ bs, 0 ≤ z ∧ z < 256) (hb : bs.length ≤ 1048577) (hk : k < (allI bs).length) :
    standsI ((allI bs).getD k zeroI) = true ∧ (∀ z ∈ ((allI bs).getD k zeroI).imm, 0 ≤ z ∧ z < 256) ∧ ((allI bs).getD k zeroI).imm.length ≤ bs.length ∧ 0 ≤ ((allI bs).getD k zeroI).next ∧ ((allI bs).getD k zeroI).next ≤ bs.length ∧ (needsOf ((allI bs).getD k zeroI).code ((allI bs).getD k zeroI).imm).2.2 = true ∧ readE bs ((allI bs).getD k zeroI).at_ = (0, (allI bs).getD k zeroI) := by
  obtain ⟨q, hq, _⟩ := allI_reads bs
  have hm : (allI bs).getD k zeroI ∈ allI bs := by rw [List.getD_eq_getElem?_getD, List.getElem?_eq_getElem hk]; exact List.getElem_mem hk
  have e1 : (allI bs).getD k zeroI = (allI bs)[k] := by rw [List.getD_eq_getElem?_getD, List.getElem?_eq_getElem hk]; rfl
  have hs : allI bs = (allI bs).take k ++ (allI bs).getD k zeroI :: (allI bs).drop (k + 1) := by
    rw [e1, ← List.drop_eq_getElem_cons hk, List.take_append_drop]
  have hq2 := hq
  rw [hs] at hq2
  obtain ⟨p, _, r2⟩ := reads_take _ hq2
  have hst := read_stands hz hb r2
  have hby := reads_bytes hz hq _ hm
  have hnx := reads_next7 hq _ hm
  have hat := (read_next r2).2.2.2.1
  rw [← hat] at r2
  exact ⟨hst, hby, reads_imm7 hq _ hm, hnx.1, hnx.2, needs_ok hst hby (opR_imm_low (stands_bounds hst).1), r2⟩
end Vouch
namespace Go.Proofs.YtfjmdffhfjnopaaDoor
open Go.RowKit Vouch Go.Vk Go.Sort
set_option maxRecDepth 100000 in
theorem lends_any (i : Ins) (v : Value) (w : World) : Calls Tryd.prog 22 #[insV i v] w fun e w' => e = .returned (.bool (opR i.code).ends) ∧ Below w.heap.size w w' := by
  obtain ⟨at_, code, imm, next⟩ := i
  unfold insV
  dsimp only
  have hb0 : Below w.heap.size w (w.alloc (.cells #[.int .i64 at_, .int .i64 code, v, .int .i64 next] 42)) := (Below.refl _ _).alloc (Nat.le_refl _) _
  obtain ⟨q0, q1, q2, q3, qf, ql⟩ := cells4 (heap_alloc_new w (.cells #[.int .i64 at_, .int .i64 code, v, .int .i64 next] 42))
  go_enter Tryd.func22, Tryd.ntmps22
  go_wp2_with (go_at_call 40; refine stop_o ?_)
  unfold StopO
  refine (of_any _ _).mono ?_
  unfold rowC
  rintro e w1 ⟨rfl, hb⟩
  have hb5 := hb.alloc hb.size (.cells #[.int .i64 (opR code).code, .string (opR code).name, .int .i64 (opR code).imm, .int .i64 (opR code).inn, .int .i64 (opR code).out, .int .i64 (opR code).gas, .bool (opR code).ends] 82)
  go_wp2
  go_ret
  exact ⟨rfl, hb0.trans (hb5.mono hb0.size)⟩
/-- Places that rise. -/
def RiseT (L : List Tri) : Prop := ∀ a b, a < b → b < L.length → (L.getD a zeroTri).1 < (L.getD b zeroTri).1
set_option maxHeartbeats 1000000 in
set_option maxRecDepth 100000 in
theorem lnumber_any (L : List Tri) (A : Option Addr) (cap n : Nat) (w : World) (ht : TriAt w A L) (hr : RiseT L) (hn : n < L.length) (hl : L.length ≤ 1048576) :
    Calls Tryd.prog 23 #[.slice A L.length cap, .int .i64 (L.getD n zeroTri).1] w fun e w' => e = .returned (.int .i64 n) ∧ Below w.heap.size w w' := by
  have HT := Lib.hid ht
  have HR := Lib.hid hr
  clear ht hr
  obtain ⟨at_, hat⟩ : ∃ at_, at_ = (L.getD n zeroTri).1 := ⟨_, rfl⟩
  rw [← hat]
  have HAT := Lib.hid hat
  clear hat
  go_enter Tryd.func23, Tryd.ntmps23
  go_wp2
  go_loopw [5, 6] (fun va vb wr => ∃ a b : Nat, va = .int .i64 a ∧ vb = .int .i64 b ∧ a ≤ n ∧ n ≤ b ∧ b ≤ L.length ∧ Below w.heap.size w wr) (fun va vb _ => (intOf vb).toNat - (intOf va).toNat)
  case atStart => exact ⟨0, L.length, rfl, rfl, Nat.zero_le _, by omega, Nat.le_refl _, Below.refl _ _⟩
  case round =>
    obtain ⟨a, b, rfl, rfl, h1, h2, h3, hB⟩ := hrel
    by_cases hab : a < b
    · have q1 : (a : Int) < (b : Int) := by omega
      have hml : (a + b) / 2 < L.length := by omega
      have q2 : ((a : Int) + (b : Int)) / 2 < (L.length : Int) := by omega
      have q3 : 0 ≤ ((a : Int) + (b : Int)) / 2 := by omega
      have q4 : (((a : Int) + (b : Int)) / 2).toNat = (a + b) / 2 := by omega
      obtain ⟨x, rfl, x0, x1, x2⟩ := HT.out ((a + b) / 2) hml
      replace x0 := cell_later hB x0
      have hlt := Lib.hid (HR.out ((a + b) / 2) n)
      have hgt := Lib.hid (HR.out n ((a + b) / 2))
      have heq : (a + b) / 2 = n → (L.getD ((a + b) / 2) zeroTri).1 = at_ := fun e => by rw [e, HAT.out]
      rw [← HAT.out] at hlt hgt
      generalize (L.getD ((a + b) / 2) zeroTri).1 = pm at x0 hlt hgt heq
      clear x1 x2
      by_cases hp : pm < at_
      · have hmn : (a + b) / 2 < n := by
          by_cases e : (a + b) / 2 = n
          · have := heq e
            omega
          · by_cases e2 : n < (a + b) / 2
            · have := hgt.out e2 hml
              omega
            · omega
        clear heq
        go_wp2
        exact ⟨⟨(a + b) / 2 + 1, b, by go_num, rfl, by omega, h2, h3, hB⟩, by simp [intOf]; omega⟩
      · have hmn : n ≤ (a + b) / 2 := by
          by_cases e : (a + b) / 2 < n
          · have := hlt.out e hn
            omega
          · omega
        clear heq
        go_wp2
        exact ⟨⟨a, (a + b) / 2, rfl, by go_num, h1, hmn, by omega, hB⟩, by simp [intOf]; omega⟩
    · have q1 : ¬ (a : Int) < (b : Int) := by omega
      obtain rfl : a = n := by omega
      obtain ⟨x, rfl, x0, x1, x2⟩ := HT.out a hn
      replace x0 := cell_later hB x0
      rw [← HAT.out] at x0
      have q2 : (a : Int) < (L.length : Int) := by omega
      clear x1 x2
      go_wp2
      go_ret
      exact ⟨rfl, hB⟩
set_option maxHeartbeats 1000000 in
set_option maxRecDepth 100000 in
theorem lturns_any (ls : List Tri) (A : Option Addr) (capT n : Nat) (i : Ins) (X : Option Addr) (c : Nat) (w : World) (ht : TriAt w A ls) (hi : InsOK w i X) (hn : NamesOK (ls.map triTy) i) (hs : n < ls.length) (hok : (needsOf i.code i.imm).2.2 = true) :
    Calls Tryd.prog 20 #[.slice A ls.length capT, .int .i64 n, insV i (.slice X i.imm.length c)] w fun e w' => e = .returned (.tuple #[.int .i64 (turnsI (ls.map triTy) (triTy (ls.getD n zeroTri)) i).1, .int .i64 (turnsI (ls.map triTy) (triTy (ls.getD n zeroTri)) i).2, .bool true]) ∧ Below w.heap.size w w' := by
  have hb0 : Below w.heap.size w (w.alloc (.cells #[.int .i64 i.at_, .int .i64 i.code, .slice X i.imm.length c, .int .i64 i.next] 42)) := (Below.refl _ _).alloc (Nat.le_refl _) _
  have hnew := heap_alloc_new w (.cells #[.int .i64 i.at_, .int .i64 i.code, .slice X i.imm.length c, .int .i64 i.next] 42)
  by_cases hc : i.code = 227 ∨ i.code = 229
  · obtain ⟨n0, n1⟩ := hn hc
    rw [List.length_map] at n1
    obtain ⟨j, hj⟩ : ∃ j : Nat, namedN i = j := ⟨(namedN i).toNat, by omega⟩
    have hjl : j < ls.length := by omega
    have HNM := Lib.hid (fun (w1 : World) (hb : Below w.heap.size w w1) => named_any i X c w1 (ints_below hb hi.1) hi.2.1 hi.2.2.1 hi.2.2.2)
    rw [hj] at HNM
    have hty : tyAt (ls.map triTy) (namedN i) = triTy (ls.getD j zeroTri) := by rw [hj]; exact tyAt_tri hjl
    have hT : turnsI (ls.map triTy) (triTy (ls.getD n zeroTri)) i = ((ls.getD j zeroTri).1, if i.code = 229 then 0 else (ls.getD j zeroTri).2.1) := by
      unfold turnsI
      rw [hty]
      rcases hc with e | e
      · rw [if_pos e, if_neg (by omega)]
        rfl
      · rw [if_neg (by omega), if_pos e, if_pos e]
        rfl
    rw [hT]
    obtain ⟨x, rfl, t0, t1, _⟩ := ht j hjl
    have HT := Lib.hid (⟨t0, t1⟩ : _ ∧ _)
    generalize ls.getD j zeroTri = ty at HT ⊢
    generalize namedB i = nb at HNM
    clear hT hty hj n0 n1 hn ht hi hok t0 t1
    have r1 : ¬ (j : Int) < 0 := by omega
    have r2 : ¬ (ls.length : Int) ≤ (j : Int) := by omega
    have r3 : ¬ ls.length ≤ j := by omega
    have r4 : (j : Int) < (ls.length : Int) := by omega
    obtain ⟨at_, code, imm, next⟩ := i
    unfold insV at HNM ⊢
    dsimp only at *
    have hnew2 := hnew
    obtain ⟨q0, q1, q2, q3, qf, ql⟩ := cells4 hnew
    clear hnew
    rcases hc with rfl | rfl
    all_goals
      go_enter Tryd.func20, Tryd.ntmps20
      go_wp2_with (go_at_call 25; refine stop_o ?_)
      unfold StopO
      refine (HNM.out _ hb0).mono ?_
      rintro e w1 ⟨rfl, hb1⟩
      have hB := hb0.trans (hb1.mono hb0.size)
      have t0 := cell_later hB HT.out.1
      have t1 := cell_later hB HT.out.2
      have hn3 := kept_of hb1 hnew2
      clear q0 q1 q2 q3 qf ql
      obtain ⟨q0, q1, q2, q3, qf, ql⟩ := cells4 hn3
      clear hb1 hb0 HNM HT hnew2 hn3
      go_wp2
    · go_quiet (fail)
      go_wp2
      exact bodyPost_ret (results_tmp3 rfl _ _ _) rfl ⟨rfl, below_drewN hB _⟩
    · exact bodyPost_ret (results_tmp3 rfl _ _ _) rfl ⟨rfl, hB⟩
  · have c1 : ¬ i.code = 227 := fun h => hc (.inl h)
    have c2 : ¬ i.code = 229 := fun h => hc (.inr h)
    have e1 : (i.code == 227) = false := by rw [beq_eq_false_iff_ne]; exact c1
    have e2 : (i.code == 229) = false := by rw [beq_eq_false_iff_ne]; exact c2
    by_cases c3 : i.code = 228
    · have hT : turnsI (ls.map triTy) (triTy (ls.getD n zeroTri)) i = ((ls.getD n zeroTri).2.1, 0) := by
        unfold turnsI
        rw [if_neg c1, if_neg c2, if_pos c3]
        rfl
      rw [hT]
      obtain ⟨x, rfl, t0, t1, _⟩ := ht n hs
      generalize ls.getD n zeroTri = ty at t0 t1 ⊢
      have u1 := cell_later hb0 t1
      clear hT hn ht hi hok t0 t1 c1 c2 hc e1 e2
      have r4 : (n : Int) < (ls.length : Int) := by omega
      obtain ⟨at_, code, imm, next⟩ := i
      unfold insV
      dsimp only at *
      subst c3
      obtain ⟨q0, q1, q2, q3, qf, ql⟩ := cells4 hnew
      clear hnew
      go_enter Tryd.func20, Tryd.ntmps20
      go_wp2
      exact bodyPost_ret (results_tmp3 rfl _ _ _) rfl ⟨rfl, hb0⟩
    · have e3 : (i.code == 228) = false := by rw [beq_eq_false_iff_ne]; exact c3
      have hT : turnsI (ls.map triTy) (triTy (ls.getD n zeroTri)) i = ((needsOf i.code i.imm).1, (needsOf i.code i.imm).2.1) := by
        unfold turnsI
        rw [if_neg c1, if_neg c2, if_neg c3]
      rw [hT]
      have HNE := Lib.hid (fun (w1 : World) (hb : Below w.heap.size w w1) => needs_any i.code X c i.imm w1 (ints_below hb hi.1) hi.2.1 (by have := hi.2.2.1; omega))
      unfold needsV at HNE
      rw [hok] at HNE
      generalize (needsOf i.code i.imm).1 = a at HNE ⊢
      generalize (needsOf i.code i.imm).2.1 = b at HNE ⊢
      clear hT hn ht hi hok c1 c2 c3 hc
      obtain ⟨at_, code, imm, next⟩ := i
      unfold insV
      dsimp only at *
      obtain ⟨q0, q1, q2, q3, qf, ql⟩ := cells4 hnew
      clear hnew
      go_enter Tryd.func20, Tryd.ntmps20
      go_wp2_with (go_at_call 43; refine stop_o ?_)
      unfold StopO
      refine (HNE.out _ hb0).mono ?_
      rintro e w1 ⟨rfl, hb1⟩
      go_wp2
      exact bodyPost_ret (results_tmp3 rfl _ _ _) rfl ⟨rfl, hb0.trans (hb1.mono hb0.size)⟩
end Go.Proofs.YtfjmdffhfjnopaaDoor
