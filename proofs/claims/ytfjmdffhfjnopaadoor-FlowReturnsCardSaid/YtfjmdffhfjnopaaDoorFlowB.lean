/- chapter 7: what an instruction takes and leaves; what is broken at it (the program's turns, named, wrong). -/
import Derived.Test.YtfjmdffhfjnopaaDoorFlowA
namespace Vouch
open Go.Proofs.YtfjmdffhfjnopaaDoor
theorem turn_ok' : ∀ i : Fin 256, 0 ≤ (opR (i.1 : Int)).inn ∧ (opR (i.1 : Int)).inn ≤ 20 ∧ 0 ≤ (opR (i.1 : Int)).out ∧ (opR (i.1 : Int)).out ≤ 20 := by decide +kernel
theorem opR_turn (c : Int) (h : isOp c = true) : 0 ≤ (opR c).inn ∧ (opR c).inn ≤ 20 ∧ 0 ≤ (opR c).out ∧ (opR c).out ≤ 20 := by
  by_cases h0 : 0 ≤ c ∧ c < 256
  · have := turn_ok' ⟨c.toNat, by omega⟩
    rwa [show ((c.toNat : Nat) : Int) = c by omega] at this
  · unfold isOp at h
    rw [opR_out c (by omega)] at h
    exact absurd h (by decide +kernel)
theorem needs_bounds {c : Int} {z : List Int} (hz : ∀ x ∈ z, 0 ≤ x ∧ x < 256) : 0 ≤ (needsOf c z).1 ∧ (needsOf c z).1 ≤ 1000 ∧ 0 ≤ (needsOf c z).2.1 ∧ (needsOf c z).2.1 ≤ 1000 := by
  have hb : 0 ≤ z.getD 0 0 ∧ z.getD 0 0 < 256 := by
    rcases z with _ | ⟨x, r⟩
    · simp
    · simpa using hz x (List.mem_cons_self ..)
  unfold needsOf
  by_cases h : isOp c = true
  · have ht := opR_turn c h
    rw [if_neg (by simp [h])]
    split
    · simp
    · split
      · simp
      · split
        · dsimp only; omega
        · split
          · dsimp only; omega
          · dsimp only; omega
  · rw [if_pos (by simpa using h)]
    simp
theorem tyOK_iff {t : Ty} (h : tyOK t = true) : 0 ≤ t.inn ∧ t.inn ≤ 127 ∧ 0 ≤ t.out ∧ t.out ≤ 128 ∧ 0 ≤ t.most ∧ t.most ≤ 1023 := by
  unfold tyOK at h
  simp only [Bool.and_eq_true, decide_eq_true_eq] at h
  omega
theorem tyAt_ok {ts : List Ty} (h : ∀ t ∈ ts, tyOK t = true) (n : Int) : 0 ≤ (tyAt ts n).inn ∧ (tyAt ts n).inn ≤ 127 ∧ 0 ≤ (tyAt ts n).out ∧ (tyAt ts n).out ≤ 128 ∧ 0 ≤ (tyAt ts n).most ∧ (tyAt ts n).most ≤ 1023 := by
  unfold tyAt
  rw [List.getD_eq_getElem?_getD]
  cases hg : ts[n.toNat]? with
  | none => simp [zeroT]
  | some t => exact tyOK_iff (h t (List.mem_of_getElem? hg))
theorem turnsI_bounds {ts : List Ty} {own : Ty} {i : Ins} (h : ∀ t ∈ ts, tyOK t = true) (ho : tyOK own = true) (hz : ∀ x ∈ i.imm, 0 ≤ x ∧ x < 256) : 0 ≤ (turnsI ts own i).1 ∧ (turnsI ts own i).1 ≤ 1000 ∧ 0 ≤ (turnsI ts own i).2 ∧ (turnsI ts own i).2 ≤ 1000 := by
  have h1 := tyAt_ok h (namedN i)
  have h2 := tyOK_iff ho
  have h3 := needs_bounds (c := i.code) hz
  unfold turnsI
  split
  · dsimp only; omega
  · split
    · dsimp only; omega
    · split
      · dsimp only; omega
      · dsimp only; omega
end Vouch
namespace Go.Proofs.YtfjmdffhfjnopaaDoor
open Go.RowKit Vouch Go.Vk Go.Sort
/-- What is known of an instruction that is handed on. -/
def InsOK (w : World) (i : Ins) (X : Option Addr) : Prop := IntsAt w .u8 X i.imm ∧ (∀ z ∈ i.imm, 0 ≤ z ∧ z < 256) ∧ i.imm.length ≤ 140737488355328 ∧ (Lit.int .i64 i.next).wf = true
theorem insok_below {w w' : World} {i : Ins} {X : Option Addr} (h : InsOK w i X) (hb : Below w.heap.size w w') : InsOK w' i X := ⟨ints_below hb h.1, h.2⟩
/-- Does an instruction that names a section name one that is there? -/
def NamesOK (ts : List Ty) (i : Ins) : Prop := i.code = 227 ∨ i.code = 229 → 0 ≤ namedN i ∧ namedN i < ts.length
set_option maxHeartbeats 400000 in
set_option maxRecDepth 100000 in
theorem turns_any (g : Nat) (A : Option Addr) (ts : List Ty) (capT : Nat) (own : Ty) (L : Option Addr) (k cl mb : Nat) (i : Ins) (X : Option Addr) (c : Nat) (w : World) (hp : PassAt w g A ts capT own L k cl mb) (ht : TysAt w A ts) (hi : InsOK w i X) (hn : NamesOK ts i) :
    Calls Tryd.prog 38 #[.pointer (some ⟨g, 0, none⟩), insV i (.slice X i.imm.length c)] w fun e w' => e = .returned (.tuple #[.int .i64 (turnsI ts own i).1, .int .i64 (turnsI ts own i).2]) ∧ Below w.heap.size w w' := by
  have hb0 : Below w.heap.size w (w.alloc (.cells #[.int .i64 i.at_, .int .i64 i.code, .slice X i.imm.length c, .int .i64 i.next] 42)) := (Below.refl _ _).alloc (Nat.le_refl _) _
  have hnew := heap_alloc_new w (.cells #[.int .i64 i.at_, .int .i64 i.code, .slice X i.imm.length c, .int .i64 i.next] 42)
  have HP := Lib.hid hp
  have HCAL := Lib.hid (fun (w1 : World) (hb : Below w.heap.size w w1) (h0 : 0 ≤ namedN i) (h1 : namedN i < ts.length) => callee_any g A ts capT own L k cl mb i X c w1 (kept_of hb hp) (tys_below ht hb) (ints_below hb hi.1) hi.2.1 hi.2.2.1 hi.2.2.2 h0 h1)
  have HNE := Lib.hid (fun (w1 : World) (hb : Below w.heap.size w w1) => needs_any i.code X c i.imm w1 (ints_below hb hi.1) hi.2.1 (by have := hi.2.2.1; omega))
  clear hp ht hi
  by_cases h1 : i.code = 227
  · have hT : turnsI ts own i = ((tyAt ts (namedN i)).inn, (tyAt ts (namedN i)).out) := by unfold turnsI; rw [if_pos h1]
    rw [hT]
    obtain ⟨n0, n1⟩ := hn (.inl h1)
    replace HCAL := Lib.hid (fun w1 hb => HCAL.out w1 hb n0 n1)
    generalize tyAt ts (namedN i) = ty at HCAL ⊢
    clear HNE hT n0 n1 hn
    obtain ⟨at_, code, imm, next⟩ := i
    unfold insV at HCAL ⊢
    dsimp only at *
    subst h1
    obtain ⟨q0, q1, q2, q3, qf, ql⟩ := cells4 hnew
    go_enter Tryd.func38, Tryd.ntmps38
    go_wp2_with (go_at_call 57; refine stop_o ?_)
    unfold StopO
    refine (HCAL.out _ hb0).mono ?_
    rintro e W1 ⟨rfl, hb1⟩
    unfold tyV
    have hB := hb0.trans (hb1.mono hb0.size)
    obtain ⟨z0, z1, z2, zf, zl⟩ := cells3 (heap_alloc_new W1 (.cells #[.int .i64 ty.inn, .int .i64 ty.out, .int .i64 ty.most] 35))
    clear hb1 hb0 HCAL q0 q1 q2 q3 qf ql hnew
    go_wp2
    go_quiet (fail)
    go_wp2
    refine bodyPost_ret (results_tmp2 rfl _ _ _) rfl ⟨rfl, ?_⟩
    exact below_drewN (hB.alloc hB.size _) _
  · by_cases h2 : i.code = 229
    · have hT : turnsI ts own i = ((tyAt ts (namedN i)).inn, 0) := by unfold turnsI; rw [if_neg h1, if_pos h2]
      rw [hT]
      obtain ⟨n0, n1⟩ := hn (.inr h2)
      replace HCAL := Lib.hid (fun w1 hb => HCAL.out w1 hb n0 n1)
      generalize tyAt ts (namedN i) = ty at HCAL ⊢
      clear HNE hT n0 n1 hn h1
      obtain ⟨at_, code, imm, next⟩ := i
      unfold insV at HCAL ⊢
      dsimp only at *
      subst h2
      obtain ⟨q0, q1, q2, q3, qf, ql⟩ := cells4 hnew
      go_enter Tryd.func38, Tryd.ntmps38
      go_wp2_with (go_at_call 57; refine stop_o ?_)
      unfold StopO
      refine (HCAL.out _ hb0).mono ?_
      rintro e W1 ⟨rfl, hb1⟩
      unfold tyV
      have hB := hb0.trans (hb1.mono hb0.size)
      clear hb1 hb0 HCAL q0 q1 q2 q3 qf ql hnew
      have hf : Sem.run Tryd.prog (Instr.field 35 (.agg #[.int .i64 ty.inn, .int .i64 ty.out, .int .i64 ty.most]) 0) W1 = .ok (.int .i64 ty.inn) W1 := by kernel_rfl
      go_wp2
      exact bodyPost_ret (results_tmp2 rfl _ _ _) rfl ⟨rfl, hB⟩
    · have e1 : (i.code == 227) = false := by rw [beq_eq_false_iff_ne]; exact h1
      have e2 : (i.code == 229) = false := by rw [beq_eq_false_iff_ne]; exact h2
      by_cases h3 : i.code = 228
      · have hT : turnsI ts own i = (own.out, 0) := by unfold turnsI; rw [if_neg h1, if_neg h2, if_pos h3]
        rw [hT]
        obtain ⟨p0, p1, p2, p3, p4, p5⟩ := cells6 (kept_of hb0 HP.out)
        clear HCAL HNE hT hn h1 h2 HP e1 e2
        obtain ⟨at_, code, imm, next⟩ := i
        unfold insV
        dsimp only at *
        subst h3
        obtain ⟨q0, q1, q2, q3, qf, ql⟩ := cells4 hnew
        go_enter Tryd.func38, Tryd.ntmps38
        go_wp2
        exact bodyPost_ret (results_tmp2 rfl _ _ _) rfl ⟨rfl, hb0⟩
      · have hT : turnsI ts own i = ((needsOf i.code i.imm).1, (needsOf i.code i.imm).2.1) := by unfold turnsI; rw [if_neg h1, if_neg h2, if_neg h3]
        have e3 : (i.code == 228) = false := by rw [beq_eq_false_iff_ne]; exact h3
        rw [hT]
        unfold needsV at HNE
        generalize (needsOf i.code i.imm).1 = a at HNE ⊢
        generalize (needsOf i.code i.imm).2.1 = b at HNE ⊢
        generalize (needsOf i.code i.imm).2.2 = kk at HNE
        clear HCAL hT hn h1 h2 h3 HP
        obtain ⟨at_, code, imm, next⟩ := i
        unfold insV
        dsimp only at *
        obtain ⟨q0, q1, q2, q3, qf, ql⟩ := cells4 hnew
        go_enter Tryd.func38, Tryd.ntmps38
        go_wp2_with (go_at_call 43; refine (HNE.out _ hb0).mono ?_; rintro e W1 ⟨rfl, hb1⟩)
        exact bodyPost_ret (results_tmp2 rfl _ _ _) rfl ⟨rfl, hb0.trans (hb1.mono hb0.size)⟩
set_option maxHeartbeats 400000 in
set_option maxRecDepth 100000 in
theorem named7_other (g : Nat) (_A : Option Addr) (ts : List Ty) (_capT : Nat) (own : Ty) (_L : Option Addr) (_k _cl _mb : Nat) (i : Ins) (X : Option Addr) (c : Nat) (w : World) (h1 : ¬ i.code = 228) (h2 : ¬ i.code = 227) (h3 : ¬ i.code = 229) :
    Calls Tryd.prog 56 #[.pointer (some ⟨g, 0, none⟩), insV i (.slice X i.imm.length c)] w fun e w' => e = .returned (.bool (namedOK ts own i)) ∧ Below w.heap.size w w' := by
  have hb0 : Below w.heap.size w (w.alloc (.cells #[.int .i64 i.at_, .int .i64 i.code, .slice X i.imm.length c, .int .i64 i.next] 42)) := (Below.refl _ _).alloc (Nat.le_refl _) _
  have hnew := heap_alloc_new w (.cells #[.int .i64 i.at_, .int .i64 i.code, .slice X i.imm.length c, .int .i64 i.next] 42)
  have hT : namedOK ts own i = true := by
    unfold namedOK
    rw [if_neg h1, if_neg (by omega), if_neg (by omega)]
  rw [hT]
  have e1 : (i.code == 228) = false := by rw [beq_eq_false_iff_ne]; exact h1
  have e2 : (i.code != 227) = true := by rw [bne_iff_ne]; omega
  have e3 : (i.code != 229) = true := by rw [bne_iff_ne]; omega
  clear hT h1 h2 h3
  obtain ⟨at_, code, imm, next⟩ := i
  unfold insV
  dsimp only at *
  obtain ⟨q0, q1, q2, q3, qf, ql⟩ := cells4 hnew
  clear hnew
  go_enter Tryd.func56, Tryd.ntmps56
  go_wp2
  exact bodyPost_ret (results_tmp rfl _ _ _) rfl ⟨rfl, hb0⟩
set_option maxHeartbeats 2000000 in
set_option maxRecDepth 100000 in
theorem named7_any (g : Nat) (A : Option Addr) (ts : List Ty) (capT : Nat) (own : Ty) (L : Option Addr) (k cl mb : Nat) (i : Ins) (X : Option Addr) (c : Nat) (w : World) (hp : PassAt w g A ts capT own L k cl mb) (ht : TysAt w A ts) (hi : InsOK w i X) (h0 : 0 ≤ namedN i) :
    Calls Tryd.prog 56 #[.pointer (some ⟨g, 0, none⟩), insV i (.slice X i.imm.length c)] w fun e w' => e = .returned (.bool (namedOK ts own i)) ∧ Below w.heap.size w w' := by
  have hb0 : Below w.heap.size w (w.alloc (.cells #[.int .i64 i.at_, .int .i64 i.code, .slice X i.imm.length c, .int .i64 i.next] 42)) := (Below.refl _ _).alloc (Nat.le_refl _) _
  have hnew := heap_alloc_new w (.cells #[.int .i64 i.at_, .int .i64 i.code, .slice X i.imm.length c, .int .i64 i.next] 42)
  have HP := Lib.hid hp
  have HNM := Lib.hid (fun (w1 : World) (hb : Below w.heap.size w w1) => named_any i X c w1 (ints_below hb hi.1) hi.2.1 hi.2.2.1 hi.2.2.2)
  clear hp hi
  by_cases h1 : i.code = 228
  · have hT : namedOK ts own i = decide (own.out ≠ 128) := by unfold namedOK; rw [if_pos h1]
    rw [hT]
    obtain ⟨p0, p1, p2, p3, p4, p5⟩ := cells6 (kept_of hb0 HP.out)
    clear HNM hT HP h0
    obtain ⟨at_, code, imm, next⟩ := i
    unfold insV
    dsimp only at *
    subst h1
    obtain ⟨q0, q1, q2, q3, qf, ql⟩ := cells4 hnew
    go_enter Tryd.func56, Tryd.ntmps56
    go_wp2
    refine bodyPost_ret (results_tmp rfl _ _ _) rfl ⟨?_, hb0⟩
    by_cases hh : own.out = 128 <;> simp [hh]
  · have e1 : (i.code == 228) = false := by rw [beq_eq_false_iff_ne]; exact h1
    by_cases h2 : i.code = 227 ∨ i.code = 229
    · by_cases hl : namedN i < ts.length
      · obtain ⟨n, hnn⟩ : ∃ n : Nat, namedN i = n := ⟨(namedN i).toNat, by omega⟩
        have hnl : n < ts.length := by omega
        obtain ⟨x, rfl, t0, t1, t2⟩ := ht n hnl
        have HT := Lib.hid (⟨t0, t1, t2⟩ : _ ∧ _ ∧ _)
        have e : tyAt ts (namedN i) = ts.getD n zeroT := by unfold tyAt; rw [hnn]; rfl
        have hT : namedOK ts own i = if i.code = 227 then decide ((tyAt ts (namedN i)).out ≠ 128) else (decide ((tyAt ts (namedN i)).out = 128) || (decide (own.out ≠ 128) && decide ((tyAt ts (namedN i)).out ≤ own.out))) := by
          unfold namedOK
          rw [if_neg h1]
          rcases h2 with h | h
          · rw [if_pos h, if_pos h, decide_eq_true hl, Bool.true_and]
          · have hne : ¬ i.code = 227 := by omega
            rw [if_neg hne, if_neg hne, if_pos h, decide_eq_true hl, Bool.true_and]
        rw [hT, e]
        generalize ts.getD n zeroT = ty at *
        rw [hnn] at HNM
        have hnl2 : (n : Int) < (ts.length : Int) := by omega
        have hnl3 : decide ((ts.length : Int) ≤ (n : Int)) = false := decide_eq_false (by omega)
        have HP := Lib.hid HP.out
        generalize namedB i = nb at HNM
        clear hT e h0 hl hnn t0 t1 t2 ht
        obtain ⟨at_, code, imm, next⟩ := i
        unfold insV at HNM ⊢
        dsimp only at *
        obtain ⟨q0, q1, q2, q3, qf, ql⟩ := cells4 hnew
        have hq := hnew
        clear hnew
        rcases h2 with rfl | rfl
        all_goals
          go_enter Tryd.func56, Tryd.ntmps56
          go_wp2_with (go_at_call 25; refine stop_o ?_)
          unfold StopO
          refine (HNM.out _ hb0).mono ?_
          rintro e W1 ⟨rfl, hb1⟩
          have hB := hb0.trans (hb1.mono hb0.size)
          have hq1 := kept_of hb1 hq
          clear q0 q1 q2 q3 qf ql
          obtain ⟨q0, q1, q2, q3, qf, ql⟩ := cells4 hq1
          obtain ⟨p0, p1, p2, p3, p4, p5⟩ := cells6 (kept_of hB HP.out)
          have t0 := cell_later hB HT.out.1
          have t1 := cell_later hB HT.out.2.1
          have t2 := cell_later hB HT.out.2.2
          clear hb1 hq1 HNM HT HP
        · go_wp2
          exact bodyPost_ret (results_tmp rfl _ _ _) rfl ⟨by by_cases hh : ty.out = 128 <;> simp [hh], hB⟩
        · by_cases hty : ty.out = 128
          · rw [hty] at t1
            go_wp2
            exact bodyPost_ret (results_tmp rfl _ _ _) rfl ⟨by simp, hB⟩
          · have e9 : (ty.out == 128) = false := by rw [beq_eq_false_iff_ne]; exact hty
            by_cases ho : own.out = 128
            · rw [ho] at p2
              go_wp2
              go_quiet (fail)
              go_wp2
              exact bodyPost_ret (results_tmp rfl _ _ _) rfl ⟨by simp, below_drewN hB _⟩
            · have e8 : (own.out == 128) = false := by rw [beq_eq_false_iff_ne]; exact ho
              go_wp2
              go_quiet (fail)
              go_wp2
              exact bodyPost_ret (results_tmp rfl _ _ _) rfl ⟨by simp [ho], below_drewN hB _⟩
      · have hT : namedOK ts own i = false := by
          unfold namedOK
          rw [if_neg h1]
          rcases h2 with h | h
          · rw [if_pos h, decide_eq_false hl]; rfl
          · rw [if_neg (by omega), if_pos h, decide_eq_false hl]; rfl
        rw [hT]
        have hl2 : (ts.length : Int) ≤ namedN i := by omega
        generalize namedN i = n at HNM h0 hl2
        generalize namedB i = nb at HNM
        have HP := Lib.hid HP.out
        clear hT hl ht
        obtain ⟨at_, code, imm, next⟩ := i
        unfold insV at HNM ⊢
        dsimp only at *
        obtain ⟨q0, q1, q2, q3, qf, ql⟩ := cells4 hnew
        have hq := hnew
        clear hnew
        rcases h2 with rfl | rfl
        all_goals
          go_enter Tryd.func56, Tryd.ntmps56
          go_wp2_with (go_at_call 25; refine stop_o ?_)
          unfold StopO
          refine (HNM.out _ hb0).mono ?_
          rintro e W1 ⟨rfl, hb1⟩
          have hB := hb0.trans (hb1.mono hb0.size)
          clear q0 q1 q2 q3 qf ql
          obtain ⟨p0, p1, p2, p3, p4, p5⟩ := cells6 (kept_of hB HP.out)
          clear hb1 HNM HP
          go_wp2
          exact bodyPost_ret (results_tmp rfl _ _ _) rfl ⟨rfl, hB⟩
    · exact named7_other g A ts capT own L k cl mb i X c w h1 (by omega) (by omega)
end Go.Proofs.YtfjmdffhfjnopaaDoor
