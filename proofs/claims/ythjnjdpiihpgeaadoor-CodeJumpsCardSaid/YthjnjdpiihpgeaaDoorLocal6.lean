/- vouchlaw6.CodeLocal returns true. -/
import Derived.Test.YthjnjdpiihpgeaaDoorWhole
namespace Vouch
theorem immL_local {r : OpRow} {z C : List Int} {n : Nat} (hz : ∀ x ∈ z, 0 ≤ x) (h : immL r z = some n) : immL r (z.take n ++ C) = some n := by
  unfold immL at h ⊢
  by_cases h1 : r.imm = -1
  · rw [if_pos h1] at h ⊢
    by_cases h2 : z.length = 0
    · rw [if_pos h2] at h; cases h
    · rw [if_neg h2] at h
      have h3 := hz (z.getD 0 0) (by rw [List.getD_eq_getElem?_getD, List.getElem?_eq_getElem (by omega)]; simp)
      simp only [Option.some.injEq] at h
      obtain ⟨a, z', rfl⟩ : ∃ a z', z = a :: z' := by cases z with | nil => simp at h2 | cons a z' => exact ⟨a, z', rfl⟩
      obtain ⟨k, rfl⟩ : ∃ k, n = k + 1 := ⟨n - 1, by omega⟩
      rw [List.take_succ_cons, List.cons_append, if_neg (by simp)]
      simpa using h
  · rw [if_neg h1] at h ⊢
    exact h
theorem read_local {A bs C : List Int} {i : Ins} (hz : ∀ x ∈ bs, 0 ≤ x) (h : readE bs 0 = (0, i)) (hp : i.next = 0 + 1 + i.imm.length ∧ i.next ≤ bs.length)
    (hok : ∀ {bs : List Int} {p n : Nat}, p < bs.length → isOp (bs.getD p 0) = true → immL (opR (bs.getD p 0)) (bs.drop (p + 1)) = some n → p + 1 + n ≤ bs.length → readE bs (p : Int) = (0, ⟨p, bs.getD p 0, (bs.drop (p + 1)).take n, p + 1 + n⟩)) :
    readE (A ++ (bs.take (1 + i.imm.length) ++ C)) (A.length : Int) = (0, ⟨A.length, i.code, i.imm, A.length + i.next⟩) := by
  obtain ⟨h1, h2, h3, n, h4, h5⟩ := read_parts h
  subst h5
  rw [show ((0 : Int).toNat + 1) = 1 from rfl] at h3 h4
  rw [show (0 : Int).toNat = 0 from rfl] at h1
  have hlen : 1 + i.imm.length ≤ bs.length := by omega
  have e0 : (A ++ (bs.take (1 + i.imm.length) ++ C)).drop A.length = bs.take (1 + i.imm.length) ++ C := by simp
  obtain ⟨b, bs', rfl⟩ : ∃ b bs', bs = b :: bs' := by cases bs with | nil => simp at hlen | cons b bs' => exact ⟨b, bs', rfl⟩
  have e1 : (A ++ ((b :: bs').take (1 + i.imm.length) ++ C)).getD A.length 0 = b := by
    rw [List.getD_eq_getElem?_getD, List.getElem?_append_right (Nat.le_refl _), Nat.sub_self, Nat.add_comm 1, List.take_succ_cons]
    rfl
  have e2 : (A ++ ((b :: bs').take (1 + i.imm.length) ++ C)).drop (A.length + 1) = bs'.take i.imm.length ++ C := by
    rw [← List.drop_drop, e0, Nat.add_comm 1, List.take_succ_cons]
    rfl
  have hb : i.code = b := by rw [h1]; rfl
  rw [show (b :: bs').drop 1 = bs' from rfl] at h3 h4
  have hl' : (bs'.take i.imm.length).length = i.imm.length := by rw [← h3]
  have key := hok (bs := A ++ ((b :: bs').take (1 + i.imm.length) ++ C)) (p := A.length) (n := i.imm.length) (by simp; omega) (by rw [e1, ← hb]; exact h2)
    (by rw [e1, e2, ← hb]; exact immL_local (fun x hx => hz x (by simp [hx])) h4) (by simp at hlen ⊢; omega)
  rw [key, e1, e2, List.take_append_of_le_length (by omega), List.take_of_length_le (by omega), ← h3, hb, hp.1]
  congr 2
  omega
end Vouch
namespace Go.Proofs.YthjnjdpiihpgeaaDoor
open Go.RowKit Vouch Go.Vk Go.Sort
/-- append of a row that the call owns to a row that the call owns. -/
theorem wpList_append_both {P : Program} {w : World} {ops : Array Oper} {rest : List Oper} {o : Oper} {a : Act} {Q : Exit → Act → World → Prop} (hgd : o.guard = none) (s x : Operand) (t : TypeId)
    (ho : o.op = .call { callee := .builtin .append, args := #[s, x], argTypes := #[t, t] }) (base : Nat) (e : TypeId) (i : TypeInfo) (z : Value) (size bytes : Nat) (ht : P.underlying t = some (.slice e)) (hi : P.info? e = some i) (hz : i.zero = some z)
    (hsize : i.size = size) (hby : i.bytes = bytes) (hzs : z.cells.size = size) (hsz : 0 < size) (v : Value) (n : Nat) (xs : List Value) (hs : a.eval s = v) (hown : w.ownsRow base e size v n xs)
    {B' : Nat} (u : Value) (m : Nat) (ys : List Value) (hx : a.eval x = u) (hsrc : w.ownsRow B' e size u m ys) (h1c : ∀ u ∈ ys, u.oneCell' = true) (h63 : n + m ≤ maxLen) (hbytes : (n + m) * bytes ≤ 140737488355328) (hbase : base ≤ w.heap.size)
    (h : ∀ v' w', w'.ownsRow base e size v' (n + m) (xs ++ ys) → w.grownBy w' v.ownBlock → wpList P ops Q rest (a.put o.dst v') w') : wpList P ops Q (o :: rest) a w := by
  have hl := hsrc.1
  rcases hsrc.2 with ⟨rfl, rfl⟩ | ⟨g, cap, cur, rfl, _, hg, _, _, _, hcur⟩
  · refine wpList_append_own_none hgd s x t ho base e i size ht hi v n xs hs hown hx ?_
    obtain rfl : ys = [] := List.eq_nil_of_length_eq_zero (by simpa using hl)
    exact h v w (by simpa using hown) ⟨rfl, rfl, rfl, Nat.le_refl _, fun _ _ _ => rfl⟩
  · refine wpList_append_own w hgd s x t ho base e i z size bytes ht hi hz hsize hby hzs hsz v n xs hs hown ⟨g, 0, none⟩ m cap ys hx hl ?_ h1c h63 hbytes hbase (fun v' w' h1 h2 _ => h v' w' h1 h2)
    intro j u hj
    rw [addr_zero]
    have := hsrc.cellAt j (by rw [← hl]; exact (List.getElem?_eq_some_iff.1 hj).1)
    rw [this, hj]
def Stop (p : Prop) : Prop := p
theorem stop_here {p : Prop} (h : Stop p) : p := h
theorem own_prefix {w : World} {B e n c k : Nat} {X : Option Addr} {xs : List Value} (h : w.ownsRow B e 1 (.slice X n c) n xs) (hk : k ≤ n) (h0 : 0 < k) : w.ownsRow B e 1 (.slice X k c) k (xs.take k) := by
  have hl := h.1
  refine ⟨by rw [List.length_take]; omega, ?_⟩
  rcases h.2 with ⟨h1, h2⟩ | ⟨g, cap, cur, h1, h2, h3, h4, h5, h6, h7⟩
  · omega
  · cases h1
    refine .inr ⟨g, c, cur, rfl, h2, h3, by omega, h5, h6, ?_⟩
    rw [← h7, List.take_take, Nat.mul_one, Nat.mul_one, Nat.min_eq_left hk]
theorem own_prefix_bytes {w : World} {B c k : Nat} {X : Option Addr} {zs : List Int} (h : w.ownsRow B 5 1 (.slice X zs.length c) zs.length (byteVs zs)) (hk : k ≤ zs.length) (h0 : 0 < k) : w.ownsRow B 5 1 (.slice X k c) k (byteVs (zs.take k)) := by
  have := own_prefix h hk h0
  rwa [show (byteVs zs).take k = byteVs (zs.take k) by simp [byteVs, List.map_take]] at this
set_option maxHeartbeats 600000 in
set_option maxRecDepth 100000 in
theorem local_walk (A : Option Addr) (capA : Nat) (za : List Int) (B : Option Addr) (capB : Nat) (zb : List Int) (C : Option Addr) (capC : Nat) (zc : List Int) (w : World)
    (hca : IntsAt w .u8 A za) (hza : ∀ n ∈ za, (Lit.int .u8 n).wf = true) (hA : za.length ≤ capA) (hnA : A = none → capA = 0) (hcb : IntsAt w .u8 B zb) (hzb : ∀ n ∈ zb, (Lit.int .u8 n).wf = true) (hBc : zb.length ≤ capB) (hnB : B = none → capB = 0) (hcc : IntsAt w .u8 C zc) (hzc : ∀ n ∈ zc, (Lit.int .u8 n).wf = true) (hC : zc.length ≤ capC) (hnC : C = none → capC = 0) :
    Calls Tryd.prog 6 #[.slice A za.length capA, .slice B zb.length capB, .slice C zc.length capC] w fun e w' => e = .returned (.bool true) ∧ Below w.heap.size w w' := by
  obtain ⟨i0, hi, hz0, hz1, hz2⟩ := info_parts infoByte
  have ra : ∀ z ∈ za.take 70000, 0 ≤ z ∧ z < 256 := fun z h => byte_wf (hza z (List.mem_of_mem_take h))
  have rb : ∀ z ∈ zb.take 70000, 0 ≤ z ∧ z < 256 := fun z h => byte_wf (hzb z (List.mem_of_mem_take h))
  have rc : ∀ z ∈ zc.take 70000, 0 ≤ z ∧ z < 256 := fun z h => byte_wf (hzc z (List.mem_of_mem_take h))
  have la : (za.take 70000).length ≤ 70000 := by rw [List.length_take]; omega
  have lb : (zb.take 70000).length ≤ 70000 := by rw [List.length_take]; omega
  have lc : (zc.take 70000).length ≤ 70000 := by rw [List.length_take]; omega
  have HCA := Lib.hid (fun w1 (hb : Below w.heap.size w w1) => cut_any za A capA w1 (ints_below hb hca) hA hnA)
  have HCB := Lib.hid (fun w1 (hb : Below w.heap.size w w1) => cut_any zb B capB w1 (ints_below hb hcb) hBc hnB)
  have HCC := Lib.hid (fun w1 (hb : Below w.heap.size w w1) => cut_any zc C capC w1 (ints_below hb hcc) hC hnC)
  clear hca hcb hcc hza hzb hzc
  generalize za.take 70000 = ahs at ra la HCA
  generalize zb.take 70000 = bs at rb lb HCB
  generalize zc.take 70000 = cs at rc lc HCC
  have HZA := Lib.hid ra
  have HZB := Lib.hid rb
  have HZC := Lib.hid rc
  clear ra rb rc
  go_enter Tryd.func6, Tryd.ntmps6
  go_wp2_with (go_at_call 15; refine stop_here ?_)
  unfold Stop
  refine (HCA.out w (Below.refl _ _)).mono ?_
  rintro e w1 ⟨v, rfl, ha, hB1⟩
  obtain ⟨Xa, ca, rfl⟩ := owns_shape ha
  go_wp2_with (go_at_call 15; refine stop_here ?_)
  unfold Stop
  refine (HCB.out w1 hB1).mono ?_
  rintro e w2 ⟨v, rfl, hb, hb2⟩
  obtain ⟨Xb, cb, rfl⟩ := owns_shape hb
  have hB2 := hB1.trans (hb2.mono hB1.size)
  generalize hrd : readE bs 0 = r
  obtain ⟨er, i⟩ := r
  have HO1 := Lib.hid (one_any bs Xb cb 0 w2 (owned_ints hb) HZB.out (by omega) (owned_cap hb))
  have HHA := Lib.hid ha
  have HHB := Lib.hid hb
  clear ha hb
  rw [hrd] at HO1
  by_cases her : er = 0
  · subst her
    obtain ⟨_, _, hnx1, hat, hnx2, _⟩ := read_next hrd
    have HRD := Lib.hid hrd
    clear hrd
    have hat0 : (i.at_ != 0) = false := by rw [hat]; rfl
    have hnA : decide (i.next < 1) = false := decide_eq_false (by omega)
    have hnB : decide ((bs.length : Int) < i.next) = false := decide_eq_false (by omega)
    have hnC : ((i.imm.length : Int) != i.next - 1) = false := by rw [hnx2]; simp; omega
    have hnW : wrap64 (i.next - 1) = i.next - 1 := by simp only [wrap64]; omega
    obtain ⟨N, hN⟩ : ∃ N : Nat, i.next = N := ⟨i.next.toNat, by omega⟩
    have hN1 : N = 1 + i.imm.length := by omega
    have hN2 : N ≤ bs.length := by omega
    have hN3 : 0 < N := by omega
    have HN1 := Lib.hid hN1
    clear hN1
    have HN := Lib.hid hN
    have HAT := Lib.hid hat
    clear hat hnx2 hN
    go_wp2_with (first
      | (go_at_call 22; refine HO1.out.mono ?_; unfold insV; rintro e w3 ⟨v, rfl, ho, hb3⟩; obtain ⟨X, c, rfl⟩ := owns_shape ho; have hg := heap_alloc_new w3 (.cells #[.int .i64 i.at_, .int .i64 i.code, .slice X i.imm.length c, .int .i64 i.next] 34); obtain ⟨q0, q1, q2, q3, qz, ql⟩ := cells4 hg)
      | (at_builtin; refine stop_here ?_))
    have hb4 := hb3.alloc hb3.size (.cells #[.int .i64 i.at_, .int .i64 i.code, .slice X i.imm.length c, .int .i64 i.next] 34)
    have hB4 := hB2.trans (hb4.mono hB2.size)
    have ha4 := own_below (own_below HHA.out hb2) hb4
    have hbb4 := own_below HHB.out hb4
    have ho4 := ho.alloc (.cells #[.int .i64 i.at_, .int .i64 i.code, .slice X i.imm.length c, .int .i64 i.next] 34)
    generalize w3.alloc (.cells #[.int .i64 i.at_, .int .i64 i.code, .slice X i.imm.length c, .int .i64 i.next] 34) = W4 at hg q0 q1 q2 q3 qz ql hb4 hB4 ha4 hbb4 ho4 ⊢
    unfold Stop
    refine wpList_append_both rfl _ _ 22 rfl W4.heap.size 5 i0 (.int .u8 0) 1 1 Tryd.underlying22 hi hz0 hz1 hz2 rfl (by decide) _ _ _ rfl (World.ownsRow_nil _ _ _ _) _ _ _ rfl ha4 bytes_one (by unfold maxLen; omega) (by omega) ?_ ?_
    · exact Nat.le_refl _
    intro v5 w5 ho5 hg5
    have hb5 : Below W4.heap.size W4 w5 := (Below.refl _ _).grown hg5 (Nat.le_refl _) (fun k e => by cases e)
    obtain ⟨X5, c5, rfl⟩ := owns_shape ho5
    clear hg5 q0 q1 q2 q3 qz ql
    obtain ⟨q0, q1, q2, q3, qz, ql⟩ := cells4 (kept_of hb5 hg)
    rw [HN.out] at q3
    have hs1 : (0 : Int) ≤ (N : Int) := by omega
    have hs2 : (N : Int) ≤ (cb : Int) := by have := owned_cap hbb4; omega
    go_wp2_with (at_builtin; refine stop_here ?_)
    unfold Stop
    have ho5' : w5.ownsRow W4.heap.size 5 1 (.slice X5 ahs.length c5) ahs.length (byteVs ahs) := by simpa using ho5
    refine wpList_append_both rfl _ _ 22 rfl W4.heap.size 5 i0 (.int .u8 0) 1 1 Tryd.underlying22 hi hz0 hz1 hz2 rfl (by decide) _ _ _ rfl ho5' _ _ _ rfl (own_prefix_bytes (own_below hbb4 hb5) hN2 hN3) bytes_one (by unfold maxLen; omega) (by omega) ?_ ?_
    · exact hb5.size
    intro v6 w6 ho6 hg6
    obtain ⟨X6, c6, rfl⟩ := owns_shape ho6
    have hB6 := bel_own hb5 ho5' (Nat.le_refl _) hg6
    clear hg6
    go_wp2_with (first
      | (go_at_call 15; refine (HCC.out w6 (hB4.trans (hB6.mono hB4.size))).mono ?_; rintro e w7 ⟨v, rfl, hc7, hb7⟩; obtain ⟨X7, c7, rfl⟩ := owns_shape hc7)
      | (at_builtin; refine stop_here ?_))
    unfold Stop
    have ho7 := own_below ho6 hb7
    have hB7 := hB6.trans (hb7.mono hB6.size)
    refine wpList_append_both rfl _ _ 22 rfl W4.heap.size 5 i0 (.int .u8 0) 1 1 Tryd.underlying22 hi hz0 hz1 hz2 rfl (by decide) _ _ _ rfl ho7 _ _ _ rfl hc7 bytes_one (by unfold maxLen; omega) (by omega) ?_ ?_
    · exact hB7.size
    intro v8 w8 ho8 hg8
    have hB8 := bel_own hB7 ho7 (Nat.le_refl _) hg8
    clear hg8
    obtain ⟨X8, c8, rfl⟩ := owns_shape ho8
    have hlen : (ahs ++ (bs.take N ++ cs)).length = ahs.length + N + cs.length := by rw [List.length_append, List.length_append, List.length_take]; omega
    have ho8' : w8.ownsRow W4.heap.size 5 1 (.slice X8 (ahs ++ (bs.take N ++ cs)).length c8) (ahs ++ (bs.take N ++ cs)).length (byteVs (ahs ++ (bs.take N ++ cs))) := by
      rw [hlen]
      simpa [byteVs] using ho8
    have hrl := read_local (A := ahs) (C := cs) (fun x hx => (HZB.out x hx).1) HRD.out ⟨by rw [HN.out]; have := HN1.out; omega, by rw [HN.out]; omega⟩ readE_ok
    rw [← HN1.out, HN.out] at hrl
    have HO2 := Lib.hid (one_any (ahs ++ (bs.take N ++ cs)) X8 c8 (ahs.length : Int) w8 (owned_ints ho8') (fun z hz => by
      rcases List.mem_append.1 hz with h | h
      · exact HZA.out z h
      · rcases List.mem_append.1 h with h | h
        · exact HZB.out z (List.mem_of_mem_take h)
        · exact HZC.out z h) (by rw [hlen]; omega) (owned_cap ho8'))
    rw [hrl, hlen] at HO2
    clear hrl ho8' q0 q1 q2 q3 qz ql hs1 hs2
    go_wp2_with (first
      | (go_at_call 22; refine HO2.out.mono ?_; unfold insV; rintro e w9 ⟨v, rfl, ho9, hb9⟩; obtain ⟨X9, c9, rfl⟩ := owns_shape ho9; have hb10 := hb9.alloc hb9.size (.cells #[.int .i64 (ahs.length : Int), .int .i64 i.code, .slice X9 i.imm.length c9, .int .i64 ((ahs.length : Int) + (N : Int))] 34); have hB10 := hB8.trans (hb10.mono hB8.size); have hg10 := heap_alloc_new w9 (.cells #[.int .i64 (ahs.length : Int), .int .i64 i.code, .slice X9 i.imm.length c9, .int .i64 ((ahs.length : Int) + (N : Int))] 34); have hg11 := kept_of hB10 hg; obtain ⟨q0, q1, q2, q3, qz, ql⟩ := cells4 hg10; obtain ⟨k0, k1, k2, k3, kz, kl⟩ := cells4 hg11; have cv1 := conv_str (cap := c9) (owned_ints (ho9.alloc (.cells #[.int .i64 (ahs.length : Int), .int .i64 i.code, .slice X9 i.imm.length c9, .int .i64 ((ahs.length : Int) + (N : Int))] 34))) rfl; have cv2 := conv_str (cap := c) (owned_ints (own_below ho4 hB10)) rfl; rw [HN.out] at k3)
      | (go_at_call 17; refine (awake6 _).mono ?_; rintro e w11 ⟨rfl, hb11⟩))
    go_ret
    exact ⟨rfl, hB4.trans ((hB10.trans (hb11.mono hB10.size)).mono hB4.size)⟩
  · have hne : (er != 0) = true := by simpa using her
    clear hrd
    go_wp2_with (first
      | (go_at_call 22; refine HO1.out.mono ?_; unfold insV; rintro e w3 ⟨v, rfl, ho, hb3⟩; obtain ⟨X, c, rfl⟩ := owns_shape ho)
      | (go_at_call 17; refine (awake6 _).mono ?_; rintro e w5 ⟨rfl, hb5⟩))
    go_ret
    exact ⟨rfl, hB2.trans (((hb3.alloc hb3.size _).trans (hb5.mono (Nat.le_trans hb3.size (by simp)))).mono hB2.size)⟩
end Go.Proofs.YthjnjdpiihpgeaaDoor
