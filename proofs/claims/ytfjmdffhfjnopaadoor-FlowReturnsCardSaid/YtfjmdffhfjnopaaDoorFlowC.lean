/- chapter 7: what is broken at an instruction (the program's wrong). -/
import Derived.Test.YtfjmdffhfjnopaaDoorFlowB
import Derived.Lib.QuietBelow
namespace Go.Proofs.YtfjmdffhfjnopaaDoor
open Go.RowKit Vouch Go.Vk Go.Sort
def spV (h : Int × Int) : Value := .agg #[.int .i64 h.1, .int .i64 h.2]
set_option maxHeartbeats 2000000 in
set_option maxRecDepth 100000 in
theorem wrong_any (g : Nat) (A : Option Addr) (ts : List Ty) (capT : Nat) (own : Ty) (L : Option Addr) (k cl mb : Nat) (i : Ins) (X : Option Addr) (c : Nat) (h : Int × Int) (w : World) (hp : PassAt w g A ts capT own L k cl mb) (ht : TysAt w A ts) (hi : InsOK w i X) (hn : NamesOK ts i)
    (hts : ∀ t ∈ ts, tyOK t = true) (ho : tyOK own = true) (hh : -100000 ≤ h.1 ∧ h.1 ≤ 100000 ∧ -100000 ≤ h.2 ∧ h.2 ≤ 100000) :
    Calls Tryd.prog 36 #[.pointer (some ⟨g, 0, none⟩), insV i (.slice X i.imm.length c), spV h] w fun e w' => e = .returned (.int .i64 (wrongI ts own i h)) ∧ Below w.heap.size w w' := by
  obtain ⟨a, b⟩ := h
  dsimp only at hh
  have hb0 : Below w.heap.size w ((w.alloc (.cells #[.int .i64 i.at_, .int .i64 i.code, .slice X i.imm.length c, .int .i64 i.next] 42)).alloc (.cells #[.int .i64 a, .int .i64 b] 75)) := ((Below.refl _ _).alloc (Nat.le_refl _) _).alloc (by simp) _
  have hI := heap_alloc_before (heap_alloc_new w (.cells #[.int .i64 i.at_, .int .i64 i.code, .slice X i.imm.length c, .int .i64 i.next] 42)) (.cells #[.int .i64 a, .int .i64 b] 75)
  have hS := heap_alloc_at (w.alloc (.cells #[.int .i64 i.at_, .int .i64 i.code, .slice X i.imm.length c, .int .i64 i.next] 42)) (.cells #[.int .i64 a, .int .i64 b] 75) (w.heap.size + 1) (by simp)
  obtain ⟨W0, hW0⟩ : ∃ W0, W0 = (w.alloc (.cells #[.int .i64 i.at_, .int .i64 i.code, .slice X i.imm.length c, .int .i64 i.next] 42)).alloc (.cells #[.int .i64 a, .int .i64 b] 75) := ⟨_, rfl⟩
  have HP := Lib.hid hp
  have HCAL := Lib.hid (fun (w1 : World) (hb : Below w.heap.size w w1) (h0 : 0 ≤ namedN i) (h1 : namedN i < ts.length) => callee_any g A ts capT own L k cl mb i X c w1 (kept_of hb hp) (tys_below ht hb) (ints_below hb hi.1) hi.2.1 hi.2.2.1 hi.2.2.2 h0 h1)
  have HTU := Lib.hid (fun (w1 : World) (hb : Below w.heap.size w w1) => turns_any g A ts capT own L k cl mb i X c w1 (kept_of hb hp) (tys_below ht hb) (insok_below hi hb) hn)
  have htb := turnsI_bounds hts ho hi.2.1
  have hown := tyOK_iff ho
  have hcb := tyAt_ok hts (namedN i)
  have hin : i.code = 228 → (turnsI ts own i).1 = own.out := fun e => by
    unfold turnsI
    rw [if_neg (by omega), if_neg (by omega), if_pos e]
  have hw : wrongI ts own i (a, b) = if i.code = 228 then (if a = (turnsI ts own i).1 ∧ b = (turnsI ts own i).1 then 0 else 74)
      else if a < (turnsI ts own i).1 then 70
      else if (i.code = 227 ∨ i.code = 229) ∧ 1024 < b - (turnsI ts own i).1 + (tyAt ts (namedN i)).most then 71
      else if i.code = 229 then (if (tyAt ts (namedN i)).out ≠ 128 ∧ ¬ (a = own.out - (tyAt ts (namedN i)).out + (tyAt ts (namedN i)).inn ∧ b = own.out - (tyAt ts (namedN i)).out + (tyAt ts (namedN i)).inn) then 74 else 0)
      else if 1023 < b - (turnsI ts own i).1 + (turnsI ts own i).2 then 71 else 0 := by
    unfold wrongI
    by_cases e : i.code = 228
    · rw [if_pos e, if_pos e, hin e]
    · rw [if_neg e, if_neg e]
  rw [hw]
  have hn2 := Lib.hid hn
  clear hp ht hi hw hin hts ho hn
  generalize (turnsI ts own i).1 = tin at HTU htb ⊢
  generalize (turnsI ts own i).2 = tout at HTU htb ⊢
  by_cases h1 : i.code = 228
  · rw [if_pos h1]
    clear HCAL hcb hn2 HP
    obtain ⟨at_, code, imm, next⟩ := i
    unfold insV spV at *
    dsimp only at *
    subst h1
    obtain ⟨r, hr, hr0, hr1⟩ : ∃ r : Int, (if a = tin ∧ b = tin then (0 : Int) else 74) = r ∧ (a = tin ∧ b = tin → r = 0) ∧ (¬ (a = tin ∧ b = tin) → r = 74) := ⟨_, rfl, fun h => if_pos h, fun h => if_neg h⟩
    rw [hr]
    clear hr
    have HR0 := Lib.hid hr0
    have HR1 := Lib.hid hr1
    clear hr0 hr1
    go_enter Tryd.func36, Tryd.ntmps36
    go_wp2_with (go_at_call 38; refine stop_o ?_)
    unfold StopO
    rw [← hW0] at hb0 hI hS ⊢
    refine (HTU.out _ hb0).mono ?_
    rintro e W1 ⟨rfl, hb1⟩
    have hB := hb0.trans (hb1.mono hb0.size)
    obtain ⟨q0, q1, q2, q3, qf, ql⟩ := cells4 (kept_of hb1 hI)
    obtain ⟨s0, s1, sf⟩ := cells2 (kept_of hb1 hS)
    clear hb1 hb0 HTU hI hS hW0
    by_cases ha : a = tin
    · by_cases hb : b = tin
      · obtain rfl := HR0.out ⟨ha, hb⟩
        clear HR0 HR1
        subst ha hb
        go_wp2
        exact bodyPost_ret (results_tmp rfl _ _ _) rfl ⟨rfl, hB⟩
      · obtain rfl := HR1.out (fun h => hb h.2)
        clear HR0 HR1
        subst ha
        have e2 : (b == a) = false := by rw [beq_eq_false_iff_ne]; exact hb
        go_wp2
        exact bodyPost_ret (results_tmp rfl _ _ _) rfl ⟨rfl, hB⟩
    · obtain rfl := HR1.out (fun h => ha h.1)
      clear HR0 HR1
      have e2 : (a == tin) = false := by rw [beq_eq_false_iff_ne]; exact ha
      go_wp2
      exact bodyPost_ret (results_tmp rfl _ _ _) rfl ⟨rfl, hB⟩
  · rw [if_neg h1]
    have e1 : (i.code == 228) = false := by rw [beq_eq_false_iff_ne]; exact h1
    have hw1 : wrap64 (b - tin) = b - tin := by simp only [wrap64]; omega
    have hw2 : wrap64 (b - tin + tout) = b - tin + tout := by simp only [wrap64]; omega
    by_cases h2 : a < tin
    · rw [if_pos h2]
      clear HCAL hcb hn2 HP h1
      obtain ⟨at_, code, imm, next⟩ := i
      unfold insV spV at *
      dsimp only at *
      go_enter Tryd.func36, Tryd.ntmps36
      go_wp2_with (go_at_call 38; refine stop_o ?_)
      unfold StopO
      rw [← hW0] at hb0 hI hS ⊢
      refine (HTU.out _ hb0).mono ?_
      rintro e W1 ⟨rfl, hb1⟩
      have hB := hb0.trans (hb1.mono hb0.size)
      obtain ⟨q0, q1, q2, q3, qf, ql⟩ := cells4 (kept_of hb1 hI)
      obtain ⟨s0, s1, sf⟩ := cells2 (kept_of hb1 hS)
      clear hb1 hb0 HTU hI hS hW0
      go_wp2
      exact bodyPost_ret (results_tmp rfl _ _ _) rfl ⟨rfl, hB⟩
    · rw [if_neg h2]
      by_cases h3 : i.code = 227 ∨ i.code = 229
      · obtain ⟨n0, n1⟩ := hn2.out h3
        replace HCAL := Lib.hid (fun w1 hb => HCAL.out w1 hb n0 n1)
        generalize tyAt ts (namedN i) = ty at HCAL hcb ⊢
        have hw3 : wrap64 (b - tin + ty.most) = b - tin + ty.most := by simp only [wrap64]; omega
        have hw4 : wrap64 (own.out - ty.out) = own.out - ty.out := by simp only [wrap64]; omega
        have hw5 : wrap64 (own.out - ty.out + ty.inn) = own.out - ty.out + ty.inn := by simp only [wrap64]; omega
        have hv1 : IntKind.i64.wrap (b - tin) = b - tin := by rw [IntKind.wrap_i64]; omega
        have hv3 : IntKind.i64.wrap (b - tin + ty.most) = b - tin + ty.most := by rw [IntKind.wrap_i64]; omega
        clear hn2 h1 n0 n1
        obtain ⟨at_, code, imm, next⟩ := i
        unfold insV spV tyV at *
        dsimp only at *
        have hf : ∀ W1, Sem.run Tryd.prog (Instr.field 35 (.agg #[.int .i64 ty.inn, .int .i64 ty.out, .int .i64 ty.most]) 2) W1 = .ok (.int .i64 ty.most) W1 := fun W1 => by kernel_rfl
        rcases h3 with rfl | rfl
        · obtain ⟨r, hr, hr0, hr1, hr2⟩ : ∃ r : Int, (if ((227 : Int) = 227 ∨ (227 : Int) = 229) ∧ 1024 < b - tin + ty.most then (71 : Int) else if (227 : Int) = 229 then (if ty.out ≠ 128 ∧ ¬ (a = own.out - ty.out + ty.inn ∧ b = own.out - ty.out + ty.inn) then 74 else 0) else if 1023 < b - tin + tout then 71 else 0) = r ∧ (1024 < b - tin + ty.most → r = 71) ∧ (¬ 1024 < b - tin + ty.most → 1023 < b - tin + tout → r = 71) ∧ (¬ 1024 < b - tin + ty.most → ¬ 1023 < b - tin + tout → r = 0) :=
            ⟨_, rfl, fun h => if_pos ⟨.inl rfl, h⟩, fun h h' => by rw [if_neg (fun x => h x.2), if_neg (by decide), if_pos h'], fun h h' => by rw [if_neg (fun x => h x.2), if_neg (by decide), if_neg h']⟩
          rw [hr]
          clear hr
          have HR0 := Lib.hid hr0
          have HR1 := Lib.hid hr1
          have HR2 := Lib.hid hr2
          clear hr0 hr1 hr2
          go_enter Tryd.func36, Tryd.ntmps36
          go_wp2_with (go_at_call 38; refine stop_o ?_)
          unfold StopO
          rw [← hW0] at hb0 hI hS ⊢
          refine (HTU.out _ hb0).mono ?_
          rintro e W1 ⟨rfl, hb1⟩
          have hB := hb0.trans (hb1.mono hb0.size)
          have hI1 := Lib.hid (kept_of hb1 hI)
          have hS1 := Lib.hid (kept_of hb1 hS)
          obtain ⟨q0, q1, q2, q3, qf, ql⟩ := cells4 hI1.out
          obtain ⟨s0, s1, sf⟩ := cells2 hS1.out
          clear hb1 hb0 HTU hI hS hW0
          have u0 := fun d os => cell_regrown q0 d os
          have u1 := fun d os => cell_regrown q1 d os
          have u2 := fun d os => cell_regrown q2 d os
          have u3 := fun d os => cell_regrown q3 d os
          have u4 := fun d os => cell_regrown s1 d os
          have uN := fun d os => calls_grown (w := W1) (fun w2 hb => HCAL.out w2 (hB.trans (hb.mono hB.size))) d os
          go_wp2
          refine wp_region_quiet_below (by kernel_rfl) (by kernel_rfl) ?_
          repeat (refine wpQuiet_step (fun K hK => ?_); go_simp; first | (refine hK _ ?_; clear hK K) | (apply Exists.intro; refine ⟨fun _ => ?_, hK _ ?_⟩; with_reducible exact uN _ _; clear hK K))
          refine wpQuiet_nil ?_
          rintro _ ⟨pq, rfl⟩
          have hb2 := below_regrown W1 pq.d pq.os
          generalize grow (redrawn W1 pq.d) pq.os = W2 at hb2 ⊢
          clear q0 q1 q2 q3 qf ql s0 s1 sf u0 u1 u2 u3 u4 uN
          have hI2 := Lib.hid (kept_of hb2 hI1.out)
          have hS2 := Lib.hid (kept_of hb2 hS1.out)
          obtain ⟨q0, q1, q2, q3, qf, ql⟩ := cells4 hI2.out
          obtain ⟨s0, s1, sf⟩ := cells2 hS2.out
          have hB2 := hB.trans (hb2.mono hB.size)
          clear hb2 hI1 hS1
          clear HCAL hI2 hS2
          by_cases h4 : 1024 < b - tin + ty.most
          · obtain rfl := HR0.out (by omega)
            clear HR0 HR1 HR2
            go_wp2
            exact bodyPost_ret (results_tmp rfl _ _ _) rfl ⟨rfl, hB2⟩
          · by_cases h5 : 1023 < b - tin + tout
            · obtain rfl := HR1.out (by omega) (by omega)
              clear HR0 HR1 HR2
              go_wp2
              exact bodyPost_ret (results_tmp rfl _ _ _) rfl ⟨rfl, hB2⟩
            · obtain rfl := HR2.out (by omega) (by omega)
              clear HR0 HR1 HR2
              go_wp2
              exact bodyPost_ret (results_tmp rfl _ _ _) rfl ⟨rfl, hB2⟩
        · obtain ⟨r, hr, hr0, hr1, hr2, hr3⟩ : ∃ r : Int, (if ((229 : Int) = 227 ∨ (229 : Int) = 229) ∧ 1024 < b - tin + ty.most then (71 : Int) else if (229 : Int) = 229 then (if ty.out ≠ 128 ∧ ¬ (a = own.out - ty.out + ty.inn ∧ b = own.out - ty.out + ty.inn) then 74 else 0) else if 1023 < b - tin + tout then 71 else 0) = r ∧ (1024 < b - tin + ty.most → r = 71) ∧ (¬ 1024 < b - tin + ty.most → ty.out = 128 → r = 0) ∧
              (¬ 1024 < b - tin + ty.most → ty.out ≠ 128 → (a = own.out - ty.out + ty.inn ∧ b = own.out - ty.out + ty.inn) → r = 0) ∧ (¬ 1024 < b - tin + ty.most → ty.out ≠ 128 → ¬ (a = own.out - ty.out + ty.inn ∧ b = own.out - ty.out + ty.inn) → r = 74) :=
            ⟨_, rfl, fun h => if_pos ⟨.inr rfl, h⟩, fun h h' => by rw [if_neg (fun x => h x.2), if_pos rfl, if_neg (fun x => x.1 h')], fun h h' h2 => by rw [if_neg (fun x => h x.2), if_pos rfl, if_neg (fun x => x.2 h2)], fun h h' h2 => by rw [if_neg (fun x => h x.2), if_pos rfl, if_pos ⟨h', h2⟩]⟩
          rw [hr]
          clear hr
          have HR0 := Lib.hid hr0
          have HR1 := Lib.hid hr1
          have HR2 := Lib.hid hr2
          have HR3 := Lib.hid hr3
          clear hr0 hr1 hr2 hr3
          go_enter Tryd.func36, Tryd.ntmps36
          go_wp2_with (go_at_call 38; refine stop_o ?_)
          unfold StopO
          rw [← hW0] at hb0 hI hS ⊢
          refine (HTU.out _ hb0).mono ?_
          rintro e W1 ⟨rfl, hb1⟩
          have hB := hb0.trans (hb1.mono hb0.size)
          have hI1 := Lib.hid (kept_of hb1 hI)
          have hS1 := Lib.hid (kept_of hb1 hS)
          obtain ⟨q0, q1, q2, q3, qf, ql⟩ := cells4 hI1.out
          obtain ⟨s0, s1, sf⟩ := cells2 hS1.out
          clear hb1 hb0 HTU hI hS hW0
          have u0 := fun d os => cell_regrown q0 d os
          have u1 := fun d os => cell_regrown q1 d os
          have u2 := fun d os => cell_regrown q2 d os
          have u3 := fun d os => cell_regrown q3 d os
          have u4 := fun d os => cell_regrown s1 d os
          have uN := fun d os => calls_grown (w := W1) (fun w2 hb => HCAL.out w2 (hB.trans (hb.mono hB.size))) d os
          go_wp2
          refine wp_region_quiet_below (by kernel_rfl) (by kernel_rfl) ?_
          repeat (refine wpQuiet_step (fun K hK => ?_); go_simp; first | (refine hK _ ?_; clear hK K) | (apply Exists.intro; refine ⟨fun _ => ?_, hK _ ?_⟩; with_reducible exact uN _ _; clear hK K))
          refine wpQuiet_nil ?_
          rintro _ ⟨pq, rfl⟩
          have hb2 := below_regrown W1 pq.d pq.os
          generalize grow (redrawn W1 pq.d) pq.os = W2 at hb2 ⊢
          clear q0 q1 q2 q3 qf ql s0 s1 sf u0 u1 u2 u3 u4 uN
          have hI2 := Lib.hid (kept_of hb2 hI1.out)
          have hS2 := Lib.hid (kept_of hb2 hS1.out)
          obtain ⟨q0, q1, q2, q3, qf, ql⟩ := cells4 hI2.out
          obtain ⟨s0, s1, sf⟩ := cells2 hS2.out
          have hB2 := hB.trans (hb2.mono hB.size)
          clear hb2 hI1 hS1
          by_cases h4 : 1024 < b - tin + ty.most
          · obtain rfl := HR0.out (by omega)
            clear HR0 HR1 HR2 HR3 HCAL hI2 hS2
            go_wp2
            exact bodyPost_ret (results_tmp rfl _ _ _) rfl ⟨rfl, hB2⟩
          · replace HR1 := Lib.hid (HR1.out (by omega))
            replace HR2 := Lib.hid (HR2.out (by omega))
            replace HR3 := Lib.hid (HR3.out (by omega))
            clear HR0
            have HC2 := Lib.hid (HCAL.out W2 hB2)
            have HP2 := Lib.hid (kept_of hB2 HP.out)
            clear HCAL
            go_wp2_with (go_at_call 57; refine stop_o ?_)
            unfold StopO
            refine HC2.out.mono ?_
            rintro e W3 ⟨rfl, hb3⟩
            have hba := (Below.refl W3.heap.size W3).alloc (Nat.le_refl _) (.cells #[.int .i64 ty.inn, .int .i64 ty.out, .int .i64 ty.most] 35)
            have hb3a := hb3.trans (hba.mono hb3.size)
            obtain ⟨z0, z1, z2, zf, zl⟩ := cells3 (heap_alloc_new W3 (.cells #[.int .i64 ty.inn, .int .i64 ty.out, .int .i64 ty.most] 35))
            clear q0 q1 q2 q3 qf ql s0 s1 sf
            obtain ⟨q0, q1, q2, q3, qf, ql⟩ := cells4 (kept_of hb3a hI2.out)
            obtain ⟨s0, s1, sf⟩ := cells2 (kept_of hb3a hS2.out)
            obtain ⟨p0, p1, p2, p3, p4, p5⟩ := cells6 (kept_of hb3a HP2.out)
            have hB3 := hB2.trans (hb3a.mono hB2.size)
            clear HC2 HP2 hI2 hS2 hb3 hba hb3a
            by_cases h6 : ty.out = 128
            · obtain rfl := HR1.out h6
              have e5 : (ty.out != 128) = false := by rw [h6]; rfl
              clear HR1 HR2 HR3 h6
              go_wp2
              go_quiet (fail)
              go_wp2
              exact bodyPost_ret (results_tmp rfl _ _ _) rfl ⟨rfl, below_drewN hB3 _⟩
            · have e5 : (ty.out != 128) = true := by rw [bne_iff_ne]; exact h6
              replace HR2 := Lib.hid (HR2.out h6)
              replace HR3 := Lib.hid (HR3.out h6)
              clear HR1 h6
              by_cases ha : a = own.out - ty.out + ty.inn
              · by_cases hb : b = own.out - ty.out + ty.inn
                · obtain rfl := HR2.out ⟨ha, hb⟩
                  clear HR2 HR3
                  subst ha
                  subst hb
                  go_wp2
                  go_quiet (fail)
                  go_wp2
                  exact bodyPost_ret (results_tmp rfl _ _ _) rfl ⟨rfl, below_drewN hB3 _⟩
                · obtain rfl := HR3.out (fun h => hb h.2)
                  have e6 : (b == own.out - ty.out + ty.inn) = false := by rw [beq_eq_false_iff_ne]; exact hb
                  clear HR2 HR3 hb
                  subst ha
                  go_wp2
                  go_quiet (fail)
                  go_wp2
                  exact bodyPost_ret (results_tmp rfl _ _ _) rfl ⟨rfl, below_drewN hB3 _⟩
              · obtain rfl := HR3.out (fun h => ha h.1)
                have e6 : (a == own.out - ty.out + ty.inn) = false := by rw [beq_eq_false_iff_ne]; exact ha
                clear HR2 HR3 ha
                go_wp2
                go_quiet (fail)
                go_wp2
                exact bodyPost_ret (results_tmp rfl _ _ _) rfl ⟨rfl, below_drewN hB3 _⟩
      · rw [if_neg (fun h => h3 h.1), if_neg (fun h => h3 (.inr h))]
        obtain ⟨r, hr, hr0, hr1⟩ : ∃ r : Int, (if 1023 < b - tin + tout then (71 : Int) else 0) = r ∧ (1023 < b - tin + tout → r = 71) ∧ (¬ (1023 < b - tin + tout) → r = 0) := ⟨_, rfl, fun h => if_pos h, fun h => if_neg h⟩
        rw [hr]
        clear hr
        have HR0 := Lib.hid hr0
        have HR1 := Lib.hid hr1
        clear hr0 hr1
        have e2 : (i.code == 227) = false := by rw [beq_eq_false_iff_ne]; omega
        have e3 : (i.code == 229) = false := by rw [beq_eq_false_iff_ne]; omega
        clear HCAL hcb hn2 HP h1 h3
        obtain ⟨at_, code, imm, next⟩ := i
        unfold insV spV at *
        dsimp only at *
        go_enter Tryd.func36, Tryd.ntmps36
        go_wp2_with (go_at_call 38; refine stop_o ?_)
        unfold StopO
        rw [← hW0] at hb0 hI hS ⊢
        refine (HTU.out _ hb0).mono ?_
        rintro e W1 ⟨rfl, hb1⟩
        have hB := hb0.trans (hb1.mono hb0.size)
        obtain ⟨q0, q1, q2, q3, qf, ql⟩ := cells4 (kept_of hb1 hI)
        obtain ⟨s0, s1, sf⟩ := cells2 (kept_of hb1 hS)
        clear hb1 hb0 HTU hI hS hW0
        by_cases h5 : 1023 < b - tin + tout
        · obtain rfl := HR0.out (by omega)
          clear HR0 HR1
          go_wp2
          exact bodyPost_ret (results_tmp rfl _ _ _) rfl ⟨rfl, hB⟩
        · obtain rfl := HR1.out (by omega)
          clear HR0 HR1
          go_wp2
          exact bodyPost_ret (results_tmp rfl _ _ _) rfl ⟨rfl, hB⟩
end Go.Proofs.YtfjmdffhfjnopaaDoor
