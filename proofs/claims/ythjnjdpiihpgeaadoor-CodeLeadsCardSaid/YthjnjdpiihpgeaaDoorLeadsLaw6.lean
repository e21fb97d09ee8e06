/- vouchlaw6.CodeLeads returns true. -/
import Derived.Test.YthjnjdpiihpgeaaDoorNamed6
import Derived.Test.YthjnjdpiihpgeaaDoorJumpsA
import Derived.Test.YthjnjdpiihpgeaaDoorOwnSet
import Derived.Test.YthjnjdpiihpgeaaDoorOnes
namespace Go.Proofs.YthjnjdpiihpgeaaDoor
open Go.RowKit Vouch Go.Vk Go.Sort
theorem own_bytes {w : World} {B g n c : Nat} {bs : List Int} (h : w.ownsRow B 5 1 (.slice (some ⟨g, 0, none⟩) (n + 75) c) (n + 75) (byteVs (bs ++ marksN 75))) (hn : n = bs.length) : w.ownsRow B 5 1 (.slice (some ⟨g, 0, none⟩) n c) n (byteVs bs) := by
  have := own_cut h n (by omega)
  rwa [show (byteVs (bs ++ marksN 75)).take n = byteVs bs by subst hn; unfold byteVs; rw [List.map_append, List.take_left' (by simp)]] at this
theorem byteVs_set (zs : List Int) (j : Nat) (v : Int) : byteVs (zs.set j v) = (byteVs zs).set j (.int .u8 v) := by unfold byteVs; rw [List.map_set]
theorem leads_len {i : Ins} (hz : ∀ z ∈ i.imm, 0 ≤ z ∧ z < 256) : (leadsI i).length ≤ 256 := by
  cases hs : standsI i with
  | false => unfold leadsI; rw [hs]; simp
  | true =>
    obtain ⟨fr, cnt, hL, hcnt, _⟩ := leads_form hz hs
    rw [hL, leadsN_length]
    exact hcnt
theorem xor_byte (a b : Int) : 0 ≤ bits .xor .u8 a b ∧ bits .xor .u8 a b < 256 := by
  unfold bits
  simp only [IntKind.wrap_u8]
  omega
theorem own_take {w : World} {B e c n : Nat} {X : Option Addr} {xs ys : List Value} (h : w.ownsRow B e 1 (.slice X n c) n (xs ++ ys)) (h0 : 0 < n) : ∃ g, X = some ⟨g, 0, none⟩ := own_head h h0
set_option maxHeartbeats 1000000 in
set_option maxRecDepth 100000 in
theorem leads_walk (i : Ins) (A : Option Addr) (capA : Nat) (w : World) (hca : IntsAt w .u8 A i.imm) (hza : ∀ n ∈ i.imm, (Lit.int .u8 n).wf = true) (hn : i.imm.length ≤ 140737488355328) (hx : (Lit.int .i64 i.next).wf = true) :
    Calls Tryd.prog 11 #[insV i (.slice A i.imm.length capA)] w fun e w' => e = .returned (.bool true) ∧ Below w.heap.size w w' := by
  obtain ⟨i0, hi, hz0, hz1, hz2⟩ := info_parts infoByte
  obtain ⟨at_, code, za, next⟩ := i
  unfold insV
  dsimp only at *
  have hb0 : Below w.heap.size w (w.alloc (.cells #[.int .i64 at_, .int .i64 code, .slice A za.length capA, .int .i64 next] 34)) := (Below.refl _ _).alloc (Nat.le_refl _) _
  have hg0 := heap_alloc_new w (.cells #[.int .i64 at_, .int .i64 code, .slice A za.length capA, .int .i64 next] 34)
  have ra : ∀ z ∈ za.take 70000, 0 ≤ z ∧ z < 256 := fun z h => byte_wf (hza z (List.mem_of_mem_take h))
  have la : (za.take 70000).length ≤ 70000 := by rw [List.length_take]; omega
  have lb : (za.take 70000).length ≤ za.length := by rw [List.length_take]; omega
  have le : za.take 70000 = za.take (za.take 70000).length := by rw [List.length_take, take_min']
  have HL := Lib.hid (laid_any za A capA _ (ints_below hb0 hca) hn)
  generalize za.take 70000 = bs at ra la lb le HL
  obtain ⟨n, hnn⟩ : ∃ n, n = bs.length := ⟨_, rfl⟩
  rw [← hnn] at la lb le HL
  have HN := Lib.hid hnn
  have HE := Lib.hid le
  have HZ := Lib.hid ra
  have HI := Lib.hid (fun w1 (hb : Below w.heap.size w w1) => ints_below hb hca)
  obtain ⟨p0, p1, p2, p3, pz, pl⟩ := cells4 hg0
  clear hca hza hnn le ra
  go_enter Tryd.func11, Tryd.ntmps11
  go_wp2_with (go_at_call 21; refine stop_r ?_)
  unfold StopR
  refine HL.out.mono ?_
  rintro e w1 ⟨g, c, rfl, ho1, hb1⟩
  have hcn : n + 75 ≤ c := owned_cap ho1
  have hgw : w.heap.size < g := by have := (own_lt ho1).1; simp at this; omega
  replace ho1 := owns_le ho1 (show w.heap.size ≤ _ by simp)
  have hB1 := hb0.trans (hb1.mono hb0.size)
  have hg1 := kept_of hb1 hg0
  clear p0 p1 p2 p3 pz pl hb1 hb0 hg0 HL
  obtain ⟨p0, p1, p2, p3, pz, pl⟩ := cells4 hg1
  have hg4 := heap_alloc_new w1 (.cells #[.int .i64 at_, .int .i64 code, .slice (some ⟨g, 0, none⟩) n c, .int .i64 next] 34)
  have hg5 := heap_alloc_new (w1.alloc (.cells #[.int .i64 at_, .int .i64 code, .slice (some ⟨g, 0, none⟩) n c, .int .i64 next] 34)) (.cells #[.int .i64 at_, .int .i64 code, .slice A za.length capA, .int .i64 next] 34)
  have hg4' := (Below.heap_alloc (w1.alloc (.cells #[.int .i64 at_, .int .i64 code, .slice (some ⟨g, 0, none⟩) n c, .int .i64 next] 34)) (.cells #[.int .i64 at_, .int .i64 code, .slice A za.length capA, .int .i64 next] 34) w1.heap.size (by simp)).trans hg4
  have ho5 := (ho1.alloc (.cells #[.int .i64 at_, .int .i64 code, .slice (some ⟨g, 0, none⟩) n c, .int .i64 next] 34)).alloc (.cells #[.int .i64 at_, .int .i64 code, .slice A za.length capA, .int .i64 next] 34)
  have hB5 := (hB1.alloc hB1.size (.cells #[.int .i64 at_, .int .i64 code, .slice (some ⟨g, 0, none⟩) n c, .int .i64 next] 34)).alloc (by have := hB1.size; simp; omega) (.cells #[.int .i64 at_, .int .i64 code, .slice A za.length capA, .int .i64 next] 34)
  have hg1' := (Below.heap_alloc _ (.cells #[.int .i64 at_, .int .i64 code, .slice A za.length capA, .int .i64 next] 34) w.heap.size (by simp; omega)).trans ((Below.heap_alloc w1 (.cells #[.int .i64 at_, .int .i64 code, .slice (some ⟨g, 0, none⟩) n c, .int .i64 next] 34) w.heap.size (by omega)).trans hg1)
  have hsz : (w1.alloc (.cells #[.int .i64 at_, .int .i64 code, .slice (some ⟨g, 0, none⟩) n c, .int .i64 next] 34)).heap.size = w1.heap.size + 1 := by simp
  rw [hsz] at hg5
  go_upto_region 5 with fail
  have hgl := own_lt ho1
  have hs0 := hB1.size
  obtain ⟨b4, hb4⟩ : ∃ b4, b4 = w1.heap.size := ⟨_, rfl⟩
  obtain ⟨b5, hb5⟩ : ∃ b5, b5 = w1.heap.size + 1 := ⟨_, rfl⟩
  have hgb4 : g < b4 := by omega
  have hgb5 : g < b5 := by omega
  have hwb4 : w.heap.size < b4 := by omega
  have h45 : b4 < b5 := by omega
  rw [← hb5, ← hb4]
  rw [← hb4] at hg4'
  rw [← hb5] at hg5
  generalize (w1.alloc (.cells #[.int .i64 at_, .int .i64 code, .slice (some ⟨g, 0, none⟩) n c, .int .i64 next] 34)).alloc (.cells #[.int .i64 at_, .int .i64 code, .slice A za.length capA, .int .i64 next] 34) = W5 at hg5 hg4' ho5 hB5 hg1' ⊢
  clear hg4 hg1 ho1 hB1 p0 p1 p2 p3 pz pl hsz hb4 hb5
  have HOG := Lib.hid (own_bytes ho5 HN.out)
  have HSR := Lib.hid (owned_ints (HN.out ▸ own_bytes ho5 HN.out))
  have hBW := hB5
  have HSTA := Lib.hid (fun W (hB : Below w.heap.size w W) (ho : W.ownsRow w.heap.size 5 1 (.slice (some ⟨g, 0, none⟩) (bs.length + 75) c) (bs.length + 75) (byteVs (bs ++ marksN 75))) => stay_any bs za g c A capA w.heap.size W ho (HI.out _ hB) (HN.out ▸ HE.out) (by have := HN.out; omega) hn)
  have hbE : Below W5.heap.size W5 (W5.alloc (.cells #[] 5)) := (Below.refl _ _).alloc (Nat.le_refl _) _
  go_wp2_with (at_builtin; refine wpList_append_own _ rfl _ _ 22 rfl W5.heap.size 5 i0 (.int .u8 0) 1 1 Tryd.underlying22 hi hz0 hz1 hz2 rfl (by decide) _ _ _ rfl (own_empty W5) ⟨g, 0, none⟩ n c (byteVs bs) rfl ?c0 ?c1 ?c2 ?c3 ?c4 ?c5 ?_)
  case c0 => rw [byteVs_length, ← HN.out] <;> omega
  case c1 => first | exact bytes_src (ints_below hbE HSR.out) | (intro j u h; rw [← addr_zero]; exact bytes_src (ints_below hbE HSR.out) j u h)
  case c2 => exact bytes_one
  case c3 => unfold maxLen; omega
  case c4 => omega
  try (case c5 => simp)
  intro v6 w6 hown6 hgrow6 _
  obtain ⟨Y, cy, rfl⟩ := owns_shape hown6
  have hB6 := bel_own hbE (own_empty W5) (Nat.le_refl _) hgrow6
  clear hgrow6 hbE
  have k5 := kept_of hB6 hg5
  have k4 := kept_of hB6 hg4'
  have k1 := kept_of hB6 hg1'
  have k5s := heap_set4_2 k5 (.slice Y n cy)
  have k4s := heap_setOther k4 (a := ⟨b5, 2, none⟩) (by dsimp only; omega) (.slice Y n cy)
  have k1s := heap_setOther k1 (a := ⟨b5, 2, none⟩) (by dsimp only; omega) (.slice Y n cy)
  have hb5W : b5 < W5.heap.size := (Array.getElem?_eq_some_iff.1 hg5).1
  have hb5w : b5 < w6.heap.size := (Array.getElem?_eq_some_iff.1 k5).1
  have oY := own_setOther hown6 (a := ⟨b5, 2, none⟩) hb5W (.slice Y n cy)
  have oG := own_keep (own_below HOG.out hB6) (heap_setKeep w6 (a := ⟨b5, 2, none⟩) (k := g) (by dsimp only; omega) (.slice Y n cy))
  have oF := own_keep (own_below ho5 hB6) (heap_setKeep w6 (a := ⟨b5, 2, none⟩) (k := g) (by dsimp only; omega) (.slice Y n cy))
  have hB7 := (hBW.trans (hB6.mono hBW.size)).setCell (p := ⟨b5, 2, none⟩) (by dsimp only; omega) (.slice Y n cy)
  obtain ⟨r0, r1, r2, r3, rz, rl⟩ := cells4 k5
  replace oY : (w6.setCell ⟨b5, 2, none⟩ (.slice Y n cy)).ownsRow W5.heap.size 5 1 (.slice Y n cy) n (byteVs bs) := by simpa using oY
  clear hown6
  go_upto_region 6 with fail
  generalize w6.setCell ⟨b5, 2, none⟩ (.slice Y n cy) = W7 at k5s k4s k1s oY oG hB7 oF ⊢
  clear r0 r1 r2 r3 rz rl k5 k4 k1 hB6 hb5w
  have hcY := owned_cap oY
  have iG := owned_ints (HN.out ▸ oG)
  have iY := owned_ints (HN.out ▸ oY)
  have HLE := Lib.hid (fun W (h : Below W7.heap.size W7 W) => leads_any ⟨at_, code, bs, next⟩ (some ⟨g, 0, none⟩) c W (ints_below h iG) HZ.out (by dsimp only; rw [← HN.out]; omega) (by dsimp only; rw [← HN.out]; omega) hx)
  have HRL := Lib.hid (fun W (h : Below W7.heap.size W7 W) => rleads_any ⟨at_, code, bs, next⟩ Y cy W (ints_below h iY) HZ.out (by dsimp only; rw [← HN.out]; omega) hx)
  have HNA := Lib.hid (fun W (h : Below W7.heap.size W7 W) => named_any ⟨at_, code, bs, next⟩ (some ⟨g, 0, none⟩) c W (ints_below h iG) HZ.out (by dsimp only; rw [← HN.out]; omega) hx)
  have HRN := Lib.hid (fun W (h : Below W7.heap.size W7 W) => rnamed_any ⟨at_, code, bs, next⟩ Y cy W (ints_below h iY) HZ.out (by dsimp only; rw [← HN.out]; omega) hx)
  have hLL := leads_len (i := ⟨at_, code, bs, next⟩) HZ.out
  generalize leadsI ⟨at_, code, bs, next⟩ = L at HLE HRL hLL
  generalize namedN ⟨at_, code, bs, next⟩ = nm at HNA HRN
  generalize namedB ⟨at_, code, bs, next⟩ = nb at HNA HRN
  unfold insV at HLE HRL HNA HRN
  dsimp only at HLE HRL HNA HRN
  rw [← HN.out] at HLE HRL HNA HRN
  clear iG iY
  have HST := Lib.hid (fun W (h : Below W7.heap.size W7 W) => HSTA.out W (hB7.trans (h.mono hB7.size)) (HN.out ▸ own_below oF h))
  rw [← HN.out] at HST
  clear oF
  obtain ⟨s0, s1, s2, s3, sz, sl⟩ := cells4 k4s
  obtain ⟨t0, t1, t2, t3, tz, tl⟩ := cells4 k5s
  obtain ⟨p0, p1, p2, p3, pz, pl⟩ := cells4 k1s
  go_upto_region 12 with (first
    | (go_at_call 28; refine (HLE.out _ (Below.refl _ _)).mono ?_; rintro e w8 ⟨v8, rfl, ho8, hb8⟩; obtain ⟨X8, c8, rfl⟩ := owns_shape ho8; obtain ⟨s0, s1, s2, s3, sz, sl⟩ := cells4 (kept_of hb8 k4s); obtain ⟨t0, t1, t2, t3, tz, tl⟩ := cells4 (kept_of hb8 k5s))
    | (go_at_call 29; refine (HRL.out _ hb8).mono ?_; rintro e w9 ⟨v9, rfl, ho9, hb9⟩; obtain ⟨X9, c9, rfl⟩ := owns_shape ho9; have h79 := hb8.trans (hb9.mono hb8.size); have I8 := Lib.hid (ints_below hb9 (owned_ints64 ho8)); have I9 := Lib.hid (owned_ints64 ho9); obtain ⟨s0, s1, s2, s3, sz, sl⟩ := cells4 (kept_of h79 k4s); obtain ⟨t0, t1, t2, t3, tz, tl⟩ := cells4 (kept_of h79 k5s))
    | (go_at_call 30; refine (HNA.out _ h79).mono ?_; rintro e w10 ⟨rfl, hb10⟩; have h710 := h79.trans (hb10.mono h79.size); replace I8 := Lib.hid (ints_below hb10 I8.out); replace I9 := Lib.hid (ints_below hb10 I9.out); obtain ⟨t0, t1, t2, t3, tz, tl⟩ := cells4 (kept_of h710 k5s))
    | (go_at_call 31; refine (HRN.out _ h710).mono ?_; rintro e w11 ⟨rfl, hb11⟩; have h711 := h710.trans (hb11.mono h710.size); replace I8 := Lib.hid (ints_below hb11 I8.out); replace I9 := Lib.hid (ints_below hb11 I9.out); obtain ⟨p0, p1, p2, p3, pz, pl⟩ := cells4 (kept_of h711 k1s))
    | (go_at_call 24; refine (HST.out _ h711).mono ?_; rintro e w12 ⟨rfl, hb12⟩; have h712 := h711.trans (hb12.mono h711.size); replace I8 := Lib.hid (ints_below hb12 I8.out); replace I9 := Lib.hid (ints_below hb12 I9.out)))
  clear s0 s1 s2 s3 sz sl t0 t1 t2 t3 tz tl p0 p1 p2 p3 pz pl HLE HRL HNA HRN
  go_wp2
  go_loopw [12] (fun vi wr => ∃ k : Nat, vi = .int .i64 k ∧ k ≤ L.length ∧ Below w12.heap.size w12 wr) (fun vi _ => L.length - (intOf vi).toNat)
  case atStart => exact ⟨0, rfl, Nat.zero_le _, Below.refl _ _⟩
  case round =>
    obtain ⟨k, rfl, hk, hBk⟩ := hrel
    by_cases hlt : k < L.length
    · obtain ⟨x, rfl, hx8⟩ := I8.out k hlt
      obtain ⟨y, rfl, hy9⟩ := I9.out k hlt
      have a8 := cell_later hBk hx8
      have a9 := cell_later hBk hy9
      generalize L.getD k 0 = z at a8 a9
      clear hx8 hy9
      have h1 : (k : Int) < (L.length : Int) := by omega
      go_wp2
      go_quiet (fail)
      go_wp2
      exact ⟨⟨k + 1, by go_num, by omega, below_drewN hBk _⟩, by simp [intOf]; omega⟩
    · have h1 : ¬ (k : Int) < (L.length : Int) := by omega
      have hB8 := h712.trans (hBk.mono h712.size)
      have u4 := kept_of hB8 k4s
      have u5 := kept_of hB8 k5s
      have u1 := kept_of hB8 k1s
      have uG := own_below oG hB8
      have uB := hB7.trans (hB8.mono hB7.size)
      clear k4s k5s k1s oG oY hB7 hg5 hg4' hg1' HOG HSR
      go_wp2
      go_loopw [13] (fun vj wx => ∃ (j : Nat) (zs : List Int), vj = .int .i64 j ∧ j ≤ n ∧ n = zs.length ∧ (∀ z ∈ zs, 0 ≤ z ∧ z < 256) ∧ wx.ownsRow w.heap.size 5 1 (.slice (some ⟨g, 0, none⟩) n c) n (byteVs zs) ∧ wx.heap[b5]? = some (.cells #[.int .i64 at_, .int .i64 code, .slice Y n cy, .int .i64 next] 34 (0, 0)) ∧ wx.heap[b4]? = some (.cells #[.int .i64 at_, .int .i64 code, .slice (some ⟨g, 0, none⟩) n c, .int .i64 next] 34 (0, 0)) ∧ wx.heap[w.heap.size]? = some (.cells #[.int .i64 at_, .int .i64 code, .slice A za.length capA, .int .i64 next] 34 (0, 0)) ∧ Below w.heap.size w wx) (fun vj _ => n - (intOf vj).toNat)
      case atStart => exact ⟨0, bs, rfl, Nat.zero_le _, HN.out, HZ.out, uG, u5, u4, u1, uB⟩
      case round =>
        clear u4 u5 u1 uG uB
        obtain ⟨j, zs, rfl, hj, hzl, hzb, hoz, hg5, hg4', hg1', hBW⟩ := hrel
        have HZL := Lib.hid hzl
        have HZZ := Lib.hid hzb
        clear hzl hzb
        by_cases hjn : j < n
        · have hv := own_cell hoz (j := j) (v := .int .u8 (zs.getD j 0)) (by have := HZL.out; unfold byteVs; rw [List.getElem?_map, List.getElem?_eq_getElem (by omega), List.getD_eq_getElem?_getD, List.getElem?_eq_getElem (by omega)]; rfl)
          obtain ⟨hv1, hv2⟩ := hv
          have hgl2 := own_lt hoz
          have HOZ := Lib.hid hoz
          generalize zs.getD j 0 = z at hv1
          have hb := xor_byte z (IntKind.u8.wrap (3 + (j : Int)))
          have hj1 : (j : Int) < (n : Int) := by omega
          clear hoz
          go_wp2
          refine ⟨⟨j + 1, zs.set j _, by go_num, by omega, by have := HZL.out; simpa using this, ?_, by rw [byteVs_set]; exact own_set HOZ.out j _, heap_setOther hg5 (by dsimp only; omega) _, heap_setOther hg4' (by dsimp only; omega) _, heap_setOther hg1' (by dsimp only; omega) _, hBW.setCell (by dsimp only; omega) _⟩, by simp [intOf]; omega⟩
          intro q hq
          rcases List.mem_or_eq_of_mem_set hq with h | h
          · exact HZZ.out q h
          · rw [h]; exact hb
        · obtain rfl : n = j := by omega
          have HOG := Lib.hid hoz
          have HSR := Lib.hid (owned_ints (HZL.out ▸ hoz))
          clear hoz
          have hj1 : ¬ (n : Int) < (n : Int) := by omega
          have hbE : Below wr.heap.size wr (wr.alloc (.cells #[] 5)) := (Below.refl _ _).alloc (Nat.le_refl _) _
          go_wp2_with (at_builtin; refine wpList_append_own _ rfl _ _ 22 rfl wr.heap.size 5 i0 (.int .u8 0) 1 1 Tryd.underlying22 hi hz0 hz1 hz2 rfl (by decide) _ _ _ rfl (own_empty wr) ⟨g, 0, none⟩ n c (byteVs zs) rfl ?c0 ?c1 ?c2 ?c3 ?c4 ?c5 ?_)
          case c0 => rw [byteVs_length, ← HZL.out] <;> omega
          case c1 => first | exact bytes_src (ints_below hbE HSR.out) | (intro j u h; rw [← addr_zero]; exact bytes_src (ints_below hbE HSR.out) j u h)
          case c2 => exact bytes_one
          case c3 => unfold maxLen; omega
          case c4 => omega
          try (case c5 => simp)
          intro v6 w6 hown6 hgrow6 _
          obtain ⟨Y, cy, rfl⟩ := owns_shape hown6
          have hB6 := bel_own hbE (own_empty wr) (Nat.le_refl _) hgrow6
          clear hgrow6 hbE
          have k5 := kept_of hB6 hg5
          have k4 := kept_of hB6 hg4'
          have k1 := kept_of hB6 hg1'
          have k5s := heap_set4_2 k5 (.slice Y n cy)
          have k4s := heap_setOther k4 (a := ⟨b5, 2, none⟩) (by dsimp only; omega) (.slice Y n cy)
          have k1s := heap_setOther k1 (a := ⟨b5, 2, none⟩) (by dsimp only; omega) (.slice Y n cy)
          have hb5W : b5 < wr.heap.size := (Array.getElem?_eq_some_iff.1 hg5).1
          have hb5w : b5 < w6.heap.size := (Array.getElem?_eq_some_iff.1 k5).1
          have oY := own_setOther hown6 (a := ⟨b5, 2, none⟩) hb5W (.slice Y n cy)
          have oG := own_keep (own_below HOG.out hB6) (heap_setKeep w6 (a := ⟨b5, 2, none⟩) (k := g) (by dsimp only; omega) (.slice Y n cy))
          have hB7 := (hBW.trans (hB6.mono hBW.size)).setCell (p := ⟨b5, 2, none⟩) (by dsimp only; omega) (.slice Y n cy)
          obtain ⟨r0, r1, r2, r3, rz, rl⟩ := cells4 k5
          replace oY : (w6.setCell ⟨b5, 2, none⟩ (.slice Y n cy)).ownsRow wr.heap.size 5 1 (.slice Y n cy) n (byteVs zs) := by simpa using oY
          clear hown6
          go_upto_region 22 with fail
          generalize w6.setCell ⟨b5, 2, none⟩ (.slice Y n cy) = W7 at k5s k4s k1s oY oG hB7 ⊢
          clear r0 r1 r2 r3 rz rl k5 k4 k1 hB6 hb5w
          have hcY := owned_cap oY
          have iG := owned_ints (HZL.out ▸ oG)
          have iY := owned_ints (HZL.out ▸ oY)
          have HLE := Lib.hid (fun W (h : Below W7.heap.size W7 W) => leads_any ⟨at_, code, zs, next⟩ (some ⟨g, 0, none⟩) c W (ints_below h iG) HZZ.out (by dsimp only; rw [← HZL.out]; omega) (by dsimp only; rw [← HZL.out]; omega) hx)
          have HRL := Lib.hid (fun W (h : Below W7.heap.size W7 W) => rleads_any ⟨at_, code, zs, next⟩ Y cy W (ints_below h iY) HZZ.out (by dsimp only; rw [← HZL.out]; omega) hx)
          have HNA := Lib.hid (fun W (h : Below W7.heap.size W7 W) => named_any ⟨at_, code, zs, next⟩ (some ⟨g, 0, none⟩) c W (ints_below h iG) HZZ.out (by dsimp only; rw [← HZL.out]; omega) hx)
          have HRN := Lib.hid (fun W (h : Below W7.heap.size W7 W) => rnamed_any ⟨at_, code, zs, next⟩ Y cy W (ints_below h iY) HZZ.out (by dsimp only; rw [← HZL.out]; omega) hx)
          have hLL := leads_len (i := ⟨at_, code, zs, next⟩) HZZ.out
          generalize leadsI ⟨at_, code, zs, next⟩ = L at HLE HRL hLL
          generalize namedN ⟨at_, code, zs, next⟩ = nm at HNA HRN
          generalize namedB ⟨at_, code, zs, next⟩ = nb at HNA HRN
          unfold insV at HLE HRL HNA HRN
          dsimp only at HLE HRL HNA HRN
          rw [← HZL.out] at HLE HRL HNA HRN
          clear iG iY
          obtain ⟨s0, s1, s2, s3, sz, sl⟩ := cells4 k4s
          obtain ⟨t0, t1, t2, t3, tz, tl⟩ := cells4 k5s
          obtain ⟨p0, p1, p2, p3, pz, pl⟩ := cells4 k1s
          go_upto_region 28 with (first
            | (go_at_call 28; refine (HLE.out _ (Below.refl _ _)).mono ?_; rintro e w8 ⟨v8, rfl, ho8, hb8⟩; obtain ⟨X8, c8, rfl⟩ := owns_shape ho8; obtain ⟨s0, s1, s2, s3, sz, sl⟩ := cells4 (kept_of hb8 k4s); obtain ⟨t0, t1, t2, t3, tz, tl⟩ := cells4 (kept_of hb8 k5s))
            | (go_at_call 29; refine (HRL.out _ hb8).mono ?_; rintro e w9 ⟨v9, rfl, ho9, hb9⟩; obtain ⟨X9, c9, rfl⟩ := owns_shape ho9; have h79 := hb8.trans (hb9.mono hb8.size); have I8 := Lib.hid (ints_below hb9 (owned_ints64 ho8)); have I9 := Lib.hid (owned_ints64 ho9); obtain ⟨s0, s1, s2, s3, sz, sl⟩ := cells4 (kept_of h79 k4s); obtain ⟨t0, t1, t2, t3, tz, tl⟩ := cells4 (kept_of h79 k5s))
            | (go_at_call 30; refine (HNA.out _ h79).mono ?_; rintro e w10 ⟨rfl, hb10⟩; have h710 := h79.trans (hb10.mono h79.size); replace I8 := Lib.hid (ints_below hb10 I8.out); replace I9 := Lib.hid (ints_below hb10 I9.out); obtain ⟨t0, t1, t2, t3, tz, tl⟩ := cells4 (kept_of h710 k5s))
            | (go_at_call 31; refine (HRN.out _ h710).mono ?_; rintro e w11 ⟨rfl, hb11⟩; have h711 := h710.trans (hb11.mono h710.size); replace I8 := Lib.hid (ints_below hb11 I8.out); replace I9 := Lib.hid (ints_below hb11 I9.out); obtain ⟨p0, p1, p2, p3, pz, pl⟩ := cells4 (kept_of h711 k1s)))
          clear s0 s1 s2 s3 sz sl t0 t1 t2 t3 tz tl p0 p1 p2 p3 pz pl HLE HRL HNA HRN
          go_wp2
          go_loopw [14] (fun vi wr => ∃ k : Nat, vi = .int .i64 k ∧ k ≤ L.length ∧ Below w11.heap.size w11 wr) (fun vi _ => L.length - (intOf vi).toNat)
          case atStart => exact ⟨0, rfl, Nat.zero_le _, Below.refl _ _⟩
          case round =>
            obtain ⟨k, rfl, hk, hBk⟩ := hrel
            by_cases hlt : k < L.length
            · obtain ⟨x, rfl, hx8⟩ := I8.out k hlt
              obtain ⟨y, rfl, hy9⟩ := I9.out k hlt
              have a8 := cell_later hBk hx8
              have a9 := cell_later hBk hy9
              generalize L.getD k 0 = z at a8 a9
              clear hx8 hy9
              have h1 : (k : Int) < (L.length : Int) := by omega
              go_wp2
              go_quiet (fail)
              go_wp2
              exact ⟨⟨k + 1, by go_num, by omega, below_drewN hBk _⟩, by simp [intOf]; omega⟩
            · have h1 : ¬ (k : Int) < (L.length : Int) := by omega
              go_wp2_with (go_at_call 17; refine (awake6 _).mono ?_; rintro e w13 ⟨rfl, hb13⟩)
              go_ret
              have hB8 := h711.trans (hBk.mono h711.size)
              have uB := hB7.trans (hB8.mono hB7.size)
              exact ⟨rfl, uB.trans (hb13.mono uB.size)⟩
end Go.Proofs.YthjnjdpiihpgeaaDoor
