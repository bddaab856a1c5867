/- With some bits turned, up to 32 side by side, bytes have another check, and a frame isn't read as it was: the law's walk. -/
import Derived.Test.YtcceiejfphokbaaCrcAwake
import Derived.Test.YtcceiejfphokbaaCrcE
import Derived.Test.YtcceiejfphokbaaRefB
import Derived.StillTailTactics
namespace Go.Proofs.Ytcceiejfphokbaa.Sh
open Go Go.RowKit

theorem bit_test (v : BitVec 32) (k : Nat) : bits .and .u32 ((v.toNat : Int) / 2 ^ k) 1 = if v.getLsbD k then 1 else 0 := by
  have hv := v.isLt
  have e : ((v.toNat : Int) / 2 ^ k) = ((v.toNat / 2 ^ k : Nat) : Int) := by simp
  have hlt : v.toNat / 2 ^ k < 4294967296 := Nat.lt_of_le_of_lt (Nat.div_le_self _ _) hv
  rw [e, show (1 : Int) = ((1 : Nat) : Int) from rfl, u32_and_nat _ _ hlt (by omega), nat_mask1]
  unfold BitVec.getLsbD
  rw [Nat.testBit_eq_decide_div_mod_eq]
  rcases Nat.mod_two_eq_zero_or_one (v.toNat / 2 ^ k) with h | h <;> rw [h] <;> rfl

theorem shl_one (m : Nat) (h : m < 8) : (2 : Int) ^ m % 256 = ((UInt8.ofNat (2 ^ m)).toNat : Int) ∧ (UInt8.ofNat (2 ^ m)).toNat = 2 ^ m := by
  have : m = 0 ∨ m = 1 ∨ m = 2 ∨ m = 3 ∨ m = 4 ∨ m = 5 ∨ m = 6 ∨ m = 7 := by omega
  rcases this with rfl | rfl | rfl | rfl | rfl | rfl | rfl | rfl <;> decide

theorem first_turned (l s : List UInt8) (hl : s.length = l.length) (h1 : 1 ≤ l.length) (h2 : l.length ≤ 1000) (hne : crcOf s ≠ crcOf l) : firstL ((frameL l).take 6 ++ s) = (4, 0) := by
  have hp2 := putL_length l.length 2
  have hp4 := putL_length (crcOf l).toNat 4
  have e6 : (frameL l).take 6 = putL l.length 2 ++ putL (crcOf l).toNat 4 := by
    unfold frameL
    rw [List.take_append_of_le_length (by simp; omega), List.take_of_length_le (by simp; omega)]
  rw [e6]
  have et : (putL l.length 2 ++ putL (crcOf l).toNat 4 ++ s).take 2 = putL l.length 2 := by
    rw [List.append_assoc, List.take_append_of_le_length (by omega), List.take_of_length_le (by omega)]
  have en : (getF ((putL l.length 2 ++ putL (crcOf l).toNat 4 ++ s).take 2)).toNat = l.length := by rw [et]; exact get_put2 _ (by omega)
  have ed : ((putL l.length 2 ++ putL (crcOf l).toNat 4 ++ s).drop 2).take 4 = putL (crcOf l).toNat 4 := by
    rw [List.append_assoc, List.drop_append_of_le_length (by omega), List.drop_of_length_le (by omega), List.nil_append, List.take_append_of_le_length (by omega), List.take_of_length_le (by omega)]
  have eb : ((putL l.length 2 ++ putL (crcOf l).toNat 4 ++ s).drop 6).take l.length = s := by
    rw [List.drop_append, List.drop_of_length_le (by simp; omega), List.nil_append]
    rw [show 6 - (putL l.length 2 ++ putL (crcOf l).toNat 4).length = 0 by simp; omega, List.drop_zero, List.take_of_length_le (by omega)]
  have hlen : (putL l.length 2 ++ putL (crcOf l).toNat 4 ++ s).length = 6 + l.length := by simp; omega
  unfold firstL
  rw [en, ed, eb, get_put, hlen, if_neg (by omega), if_neg (by omega), if_neg (by omega), if_neg (fun e => hne e.symm)]

set_option maxHeartbeats 1600000 in
theorem crcTurned_mid (w : World) {v : Value} {b : List UInt8} {at_ n : Nat} (hv : Bs w v b) (hb1 : 5 ≤ b.length) (hb2 : b.length ≤ 400) (hat : at_ < 18446744073709551616) (hn1 : n ≠ 0) (hn2 : n < 4294967296) :
    Calls Try.prog 7 #[v, .int .u64 at_, .int .u32 n] w fun e w' => e = .returned (.bool true) ∧ Only [] w w' := by
  obtain ⟨xb, xo, xc, rfl, h1, h2, h3, _⟩ := hv.form (by omega)
  have hA1 : ¬ b.length < 5 := by omega
  have hA2 : ¬ 400 < b.length := by omega
  have hA3 : ((n : Int) == 0) = false := by simp; omega
  obtain ⟨c, hc⟩ : ∃ c : BitVec 32, c.toNat = n := ⟨BitVec.ofNat 32 n, by simp; omega⟩
  have hc0 : c ≠ 0#32 := by rintro rfl; simp at hc; omega
  subst hc
  go_enter Try.func7, Try.ntmps7
  go_wp2_with fail
  refine (awake09_any w).mono ?_
  rintro e w1 ⟨rfl, ho1⟩
  have hv1 := hv.kept0 ho1
  have hs1 := ho1.size
  obtain ⟨f, hf⟩ : ∃ f, f = at_ % (8 * b.length - 31) := ⟨_, rfl⟩
  have hfl : f + 32 ≤ 8 * b.length := by
    have := Nat.mod_lt at_ (show 0 < 8 * b.length - 31 by omega)
    omega
  have hfe : (at_ : Int) % (8 * (b.length : Int) - 31) = (f : Int) := by
    rw [hf, show (8 * (b.length : Int) - 31) = ((8 * b.length - 31 : Nat) : Int) by omega]
    exact (Int.natCast_emod _ _).symm
  clear hf
  go_wp2_with (at_builtin; refine wpList_app (by rfl) _ _ 22 (by rfl) w1.heap.size 5 1 1 el_u8 (by rfl) (own_built w1 [] 5 1 0 rfl (by omega)) (by rfl) (hv1.kept0 ((Only.refl [] w1).alloc _)) (bytes_one b) (by omega) (by omega) (by simp) ?_; intro v2 w2 hown2 happ2; have hown2 := own_cast hown2 (show _ = b.length by omega) (show _ = bytes b by simp); obtain ⟨sa, sc, rfl⟩ := own_form hown2)
  have ho2 := (ho1.trans0 ((Only.refl [] w1).alloc _)).app happ2 (by intro i hi; simp [Value.ownBlock] at hi; exact .inr (by omega))
  have hs2 := ho2.size
  clear hfe hv1
  go_loopw [45] (fun i wr => ∃ (k : Nat) (ss : List UInt8), k ≤ 32 ∧ i = .int .i64 k ∧ ss.length = b.length ∧ Hid (∀ q, q < 8 * b.length → bitAt ss q = (bitAt b q ^^ (if f ≤ q ∧ q < f + k then c.getLsbD (q - f) else false))) ∧ wr.ownsRow w1.heap.size 5 1 (.slice sa b.length sc) b.length (bytes ss) ∧ Only [] w wr) (fun i _ => 32 - (intOf i).toNat)
  case atStart => exact ⟨0, b, by omega, rfl, rfl, hid (fun q _ => by rw [if_neg (by omega)]; simp), hown2, ho2⟩
  case round =>
    obtain ⟨k, ss, hk, rfl, hssl, hss, hown, ho⟩ := hrel
    have HSL := hid hssl
    have hcb := u32_bound c
    clear hssl
    by_cases hlt : k < 32
    · have htest := bit_test c k
      by_cases hbit : c.getLsbD k = true
      · rw [if_pos hbit] at htest
        obtain ⟨K, hK⟩ : ∃ K, K = f + k := ⟨_, rfl⟩
        have hKb : K < 8 * b.length := by omega
        have hKe : (f : Int) + (k : Int) = (K : Int) := by omega
        obtain ⟨j, hj⟩ : ∃ j, j = K / 8 := ⟨_, rfl⟩
        obtain ⟨m, hm⟩ : ∃ m, m = K % 8 := ⟨_, rfl⟩
        have hje : (K : Int) / 8 = (j : Int) := by omega
        have hme : (K : Int) % 8 = (m : Int) := by omega
        have hjl : j < b.length := by omega
        have hml : m < 8 := by omega
        have hjs : j < ss.length := by rw [HSL.out]; exact hjl
        obtain ⟨x, hx⟩ : ∃ x, x = ss[j] := ⟨_, rfl⟩
        have hsx : ss[j]? = some x := by rw [hx]; simp [hjs]
        obtain ⟨g, sc', he, hg1, hg2, _, _, hcells⟩ := own_at hown (by omega)
        obtain ⟨rfl, rfl⟩ : sa = some ⟨g, 0, none⟩ ∧ sc = sc' := by simpa using he
        obtain ⟨hcx, hfx⟩ := hcells j (vU8 x) (by simp [bytes, hsx])
        obtain ⟨hp1, hp2⟩ := shl_one m hml
        obtain ⟨p, hp⟩ : ∃ p, p = UInt8.ofNat (2 ^ m) := ⟨_, rfl⟩
        rw [← hp] at hp1 hp2
        obtain ⟨y, hy⟩ : ∃ y, y = x ^^^ p := ⟨_, rfl⟩
        have hxp := xor_u8 x p
        rw [← hy] at hxp
        have hstep := hid (turn_step ss b f k c HSL.out p hlt (by omega) (by rw [← hK, ← hm]; exact hp2) hbit x (by rw [← hK, ← hj]; exact hsx) hss.out)
        rw [← hK, ← hj, ← hy] at hstep
        have hbx := u8_bound x
        have hbp := u8_bound p
        have hby := u8_bound y
        clear hss hbit hK hj hm hx hsx hcells he hp hy hp2
        go_wp2
        go_roundw
        case rel =>
          refine ⟨k + 1, ss.set j y, by omega, by go_num, by rw [List.length_set]; exact HSL.out, hstep, ?_, ho.setCell (.inr (show w.heap.size ≤ g by omega)) _⟩
          have := own_set hown (i := j) hjl (vU8 y)
          rw [show (bytes ss).set j (vU8 y) = bytes (ss.set j y) by simp [bytes, List.map_set]] at this
          exact this
        case measure => simp [intOf]; omega
      · rw [if_neg hbit] at htest
        have hstay := hid (turn_stay ss b f k c (by simpa using hbit) hss.out)
        clear hss hbit
        go_wp2
        go_roundw
        case rel => exact ⟨k + 1, ss, by omega, by go_num, HSL.out, hstay, hown, ho⟩
        case measure => simp [intOf]; omega
    · obtain rfl : k = 32 := by omega
      have hne := turned b ss HSL.out f c hc0 hfl hss.out
      have hq : (((crcOf ss).toNat : Int) == ((crcOf b).toNat : Int)) = false := by
        rw [beq_eq_false_iff_ne]
        intro h
        exact hne (BitVec.eq_of_toNat_eq (by omega))
      have hbad := hid (first_turned b ss HSL.out (by omega) (by omega) hne)
      have hBs : Bs wr (.slice sa b.length sc) ss := Cs.of_own (own_cast hown HSL.out.symm rfl) (by rw [HSL.out]; omega)
      clear hss hne hown
      go_wp2_with fail
      refine (of_any _ _ _ hBs).mono ?_
      rintro e w3 ⟨rfl, hp3⟩
      have ho3 := ho.trans0 hp3
      go_wp2_with fail
      refine (of_any _ b _ (hv.kept0 ho3)).mono ?_
      rintro e w4 ⟨rfl, hp4⟩
      have ho4 := ho3.trans0 hp4
      go_wp2_with fail
      refine (frame_good _ b _ (hv.kept0 ho4) (by omega) (by omega)).mono ?_
      rintro e w5 ⟨v5, rfl, hf5, hp5⟩
      have ho5 := ho4.trans0 hp5
      have hs5 := ho5.size
      have hf5 := own_cast hf5 (frameL_length b) rfl
      obtain ⟨fg, fc, rfl, hfg1, hfg2, hfg3, hfg4, _⟩ := own_at hf5 (by omega)
      have hB5 : Bs w5 (.slice (some ⟨fg, 0, none⟩) (frameL b).length fc) (frameL b) := by
        rw [frameL_length]
        exact Cs.of_own (own_cast hf5 (frameL_length b).symm rfl) (by rw [frameL_length]; omega)
      have hsub := hB5.sub 0 6 (by rw [frameL_length]; omega)
      rw [Nat.add_zero, Nat.sub_zero, List.drop_zero] at hsub
      have h6 : ((frameL b).take 6).length = 6 := by simp [frameL_length]
      have hBs5 := (((hBs.kept0 hp3).kept0 hp4).kept0 hp5)
      have tok : True := trivial
      clear hB5
      go_wp2_with (first
        | (at_builtin; have _t := tok; refine wpList_app (by rfl) _ _ 22 (by rfl) w5.heap.size 5 1 1 el_u8 (by rfl) (own_built w5 [] 5 1 0 rfl (by omega)) (by rfl) (Cs.cast (hsub.kept0 ((Only.refl [] w5).alloc _)) h6 rfl) (bytes_one _) (by omega) (by omega) (by simp) ?_; intro v6 w6 hown6 happ6; clear tok; have hp6 := ((Only.refl [] w5).alloc _).app happ6 (by intro i hi; simp [Value.ownBlock] at hi; exact .inr (by omega)))
        | (at_builtin; refine wpList_app (by rfl) _ _ 22 (by rfl) w5.heap.size 5 1 1 el_u8 (by rfl) hown6 (by rfl) (Cs.cast (hBs5.kept0 hp6) HSL.out rfl) (bytes_one ss) (by omega) (by omega) (by have := hp6.size; omega) ?_; intro v7 w7 hown7 happ7))
      have hB7 : Bs w7 v7 ((frameL b).take 6 ++ ss) := Cs.of_own (own_cast hown7 (show _ = ((frameL b).take 6 ++ ss).length by rw [List.length_append, h6, HSL.out] <;> omega) (show _ = bytes ((frameL b).take 6 ++ ss) by simp [bytes])) (by rw [List.length_append, h6, HSL.out] <;> omega)
      have ho7 := (ho5.trans0 hp6).app happ7 (by
        intro i hi
        have := (hown6.lt i hi).1
        exact .inr (by omega))
      refine (next_any _ _ _ hB7 (by rw [List.length_append, h6, HSL.out] <;> omega)).mono ?_
      rintro e w8 ⟨r1, r2, rfl, hp8, _, hr⟩
      obtain ⟨rfl, rfl⟩ := hr (by rw [hbad.out]; simp)
      rw [hbad.out]
      clear hr
      go_wp2
      go_ret
      exact ⟨rfl, ho7.trans0 hp8⟩

theorem crcTurned_out (w : World) {v : Value} {b : List UInt8} {at_ n : Int} (hv : Bs w v b) (h : b.length < 5 ∨ (¬ b.length < 5 ∧ 400 < b.length) ∨ (¬ b.length < 5 ∧ ¬ 400 < b.length ∧ n = 0)) :
    Calls Try.prog 7 #[v, .int .u64 at_, .int .u32 n] w fun e w' => e = .returned (.bool true) ∧ Only [] w w' := by
  obtain ⟨_, xa, xc, rfl, h1, h2, h3, _⟩ := id hv
  rcases h with h | ⟨h, h'⟩ | ⟨h, h', rfl⟩
  all_goals
    go_enter Try.func7, Try.ntmps7
    go_wp2_with fail
    refine (awake09_any w).mono ?_
    rintro e w1 ⟨rfl, ho1⟩
    go_wp2_with fail
    refine (awake09_any _).mono ?_
    rintro e w2 ⟨rfl, ho2⟩
    go_wp2
    go_ret
    exact ⟨rfl, ho1.trans0 ho2⟩

theorem wf_u64 {n : Int} (h : (Lit.int .u64 n).wf = true) : 0 ≤ n ∧ n < 18446744073709551616 := by
  simp only [Lit.wf, Bool.and_eq_true, decide_eq_true_eq] at h
  have h1 : IntKind.u64.min = 0 := rfl
  have h2 : IntKind.u64.max = 18446744073709551615 := rfl
  omega
theorem wf_u32 {n : Int} (h : (Lit.int .u32 n).wf = true) : 0 ≤ n ∧ n < 4294967296 := by
  simp only [Lit.wf, Bool.and_eq_true, decide_eq_true_eq] at h
  have h1 : IntKind.u32.min = 0 := rfl
  have h2 : IntKind.u32.max = 4294967295 := rfl
  omega

theorem crcTurned_walk (w : World) {v : Value} {b : List UInt8} {at_ n : Int} (hv : Bs w v b) (hat : (Lit.int .u64 at_).wf = true) (hn : (Lit.int .u32 n).wf = true) :
    Calls Try.prog 7 #[v, .int .u64 at_, .int .u32 n] w fun e w' => e = .returned (.bool true) ∧ Only [] w w' := by
  obtain ⟨a1, a2⟩ := wf_u64 hat
  obtain ⟨n1, n2⟩ := wf_u32 hn
  by_cases h : 5 ≤ b.length ∧ b.length ≤ 400 ∧ n ≠ 0
  · obtain ⟨at', rfl⟩ := Int.eq_ofNat_of_zero_le a1
    obtain ⟨n', rfl⟩ := Int.eq_ofNat_of_zero_le n1
    exact crcTurned_mid w hv h.1 h.2.1 (by omega) (by omega) (by omega)
  · exact crcTurned_out w hv (by omega)
end Go.Proofs.Ytcceiejfphokbaa.Sh
