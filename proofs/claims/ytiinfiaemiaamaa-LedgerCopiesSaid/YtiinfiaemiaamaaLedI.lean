/- The document's ledger: money moves; turns; sums: walked. -/
import Derived.Test.YtiinfiaemiaamaaLedH
import Derived.Deep.RegionHeld3
namespace Go.Proofs.Ytiinfiaemiaamaa.Sh
open Go Go.RowKit

set_option maxRecDepth 20000 in
set_option maxHeartbeats 1600000 in
theorem rturn_any (w : World) (y b1 b2 b3 b4 T : Nat) (m : Lm) (h : RLed w y b1 b2 b3 b4 m) (hi : LInv T m) (who : Int) (nonce : Nat) (hn : nonce < 18446744073709551616) :
    Calls Try.prog 65 #[.pointer (some ⟨y, 0, none⟩), .int .i64 who, .int .u64 nonce] w (RPost w y b1 b2 b3 b4 (turnE m who nonce)) := by
  have hk := hi.few.2
  unfold turnE
  by_cases hw : m.is who
  · obtain ⟨ha, hae⟩ := is_nat hw
    rw [if_pos hw]
    obtain ⟨a, haa⟩ : ∃ a, a = who.toNat := ⟨_, rfl⟩
    rw [← haa] at ha hae ⊢
    subst hae
    clear haa hw
    have hof := hid (ris_yes w y b1 b2 b3 b4 m h hk a ha)
    obtain ⟨d1, d2⟩ := h.c2 a ha
    obtain ⟨k1, s1, s2, s3⟩ := h.s2
    have hnb := hi.non a
    have hL2 := fun hz => h.setN (x := m.n a + 1) (z := (m.n a : Int) + 1) ha hz
    have hms : Hid (({ m with n := upd m.n a (m.n a + 1) } : Lm) = m.turn a) := hid rfl
    obtain ⟨B, hB⟩ : ∃ B, B = m.n a := ⟨_, rfl⟩
    simp only [u64] at d1
    rw [← hB] at d1 hnb hL2 hms ⊢
    replace hL2 := hid (hL2 (by omega))
    clear hB hi
    by_cases hne : B ≠ nonce
    · rw [if_pos hne]
      have hbn : ((B : Int) != (nonce : Int)) = true := by rw [bne_iff_ne]; omega
      clear hne
      go_enter Try.func65, Try.ntmps65
      go_wp2_with fail
      refine hof.out.mono ?_
      rintro e w' ⟨rfl, rfl⟩
      go_wp2
      go_ret
      exact ⟨rfl, h, Only.refl _ _⟩
    · obtain rfl : B = nonce := by omega
      rw [if_neg hne]
      clear hne
      have hbb : ((B : Int) != (B : Int)) = false := by simp
      by_cases hmx : B = 18446744073709551615
      · rw [if_pos hmx]
        subst hmx
        go_enter Try.func65, Try.ntmps65
        go_wp2_with fail
        refine hof.out.mono ?_
        rintro e w' ⟨rfl, rfl⟩
        go_wp2
        go_ret
        exact ⟨rfl, h, Only.refl _ _⟩
      · rw [if_neg hmx]
        have hbx : ((B : Int) == 18446744073709551615) = false := by rw [beq_eq_false_iff_ne]; omega
        have hlt : B < 18446744073709551615 := by omega
        clear hmx
        go_enter Try.func65, Try.ntmps65
        go_wp2_with fail
        refine hof.out.mono ?_
        rintro e w' ⟨rfl, rfl⟩
        go_wp2
        go_ret
        exact ⟨rfl, by rw [← hms.out]; exact hL2.out, (Only.refl _ _).setCell (.inl (by simp)) _⟩
  · rw [if_neg hw]
    have hof := hid (ris_no w y b1 b2 b3 b4 m h hk who hw)
    clear hw hi
    go_enter Try.func65, Try.ntmps65
    go_wp2_with fail
    refine hof.out.mono ?_
    rintro e w' ⟨rfl, rfl⟩
    go_wp2
    go_ret
    exact ⟨rfl, h, Only.refl _ _⟩

set_option maxRecDepth 20000 in
set_option maxHeartbeats 3200000 in
theorem rmove_any (w : World) (y b1 b2 b3 b4 T : Nat) (m : Lm) (h : RLed w y b1 b2 b3 b4 m) (hi : LInv T m) (p q : Int) (n : Nat) (hn : n < 18446744073709551616) :
    Calls Try.prog 64 #[.pointer (some ⟨y, 0, none⟩), .int .i64 p, .int .i64 q, .int .u64 n] w (RPost w y b1 b2 b3 b4 (moveE m p q n)) := by
  have hk := hi.few.2
  unfold moveE
  by_cases hp : m.is p
  · obtain ⟨ha, hae⟩ := is_nat hp
    obtain ⟨a, haa⟩ : ∃ a, a = p.toNat := ⟨_, rfl⟩
    rw [← haa] at ha hae ⊢
    subst hae
    have hofp := hid (ris_yes w y b1 b2 b3 b4 m h hk a ha)
    by_cases hq : m.is q
    · obtain ⟨hc, hce⟩ := is_nat hq
      obtain ⟨c, hcc⟩ : ∃ c, c = q.toNat := ⟨_, rfl⟩
      rw [← hcc] at hc hce ⊢
      subst hce
      have hofq := hid (ris_yes w y b1 b2 b3 b4 m h hk c hc)
      rw [if_pos ⟨hp, hq⟩]
      obtain ⟨d1, d2⟩ := h.c1 a ha
      obtain ⟨k1, s1, s2, s3⟩ := h.s1
      obtain ⟨q1, _, _, _⟩ := hi.bounds a ha
      obtain ⟨q2, _, _, _⟩ := hi.bounds c hc
      have hcap := hi.cap
      have hsum : c ≠ a → m.b a + m.b c ≤ T := by
        intro hne
        have := sumTo_upd m.b a 0 ha
        have h2 := sumTo_le (upd m.b a 0) hc
        rw [upd_other _ _ hne] at h2
        have := hi.sum
        omega
      by_cases hlt : m.b a < n
      · rw [if_pos hlt]
        obtain ⟨B, hB⟩ : ∃ B, B = m.b a := ⟨_, rfl⟩
        simp only [u64] at d1
        rw [← hB] at d1 hlt
        clear hi hsum hB hp hq haa hcc
        go_enter Try.func64, Try.ntmps64
        go_wp2_with fail
        refine hofp.out.mono ?_
        rintro e w' ⟨rfl, rfl⟩
        go_wp2_with fail
        refine hofq.out.mono ?_
        rintro e w' ⟨rfl, rfl⟩
        go_wp2
        go_ret
        exact ⟨rfl, h, Only.refl _ _⟩
      · rw [if_neg hlt]
        have hD : upd m.b a (m.b a - n) c + n ≤ T := by
          by_cases e : c = a
          · subst e; rw [upd_same]; omega
          · rw [upd_other _ _ e]; have := hsum e; omega
        have hms : Hid (({ m with b := upd (upd m.b a (m.b a - n)) c (upd m.b a (m.b a - n) c + n) } : Lm) = m.move a c n) := hid rfl
        obtain ⟨D, hDD⟩ : ∃ D, D = upd m.b a (m.b a - n) c := ⟨_, rfl⟩
        simp only [← hDD] at hD hms
        obtain ⟨B, hB⟩ : ∃ B, B = m.b a := ⟨_, rfl⟩
        simp only [u64] at d1
        simp only [← hB] at d1 hlt hms q1 hDD
        have hle : n ≤ B := by omega
        have HB := hid hB.symm
        have HD := hid hDD.symm
        clear hi hsum hB hp hq haa hcc hDD
        go_enter Try.func64, Try.ntmps64
        go_wp2_with fail
        refine hofp.out.mono ?_
        rintro e w' ⟨rfl, rfl⟩
        go_wp2_with fail
        refine hofq.out.mono ?_
        rintro e w' ⟨rfl, rfl⟩
        go_wp2_with fail
        clear d1 d2 s1 s2 s3
        obtain ⟨e1, e2⟩ := h.c1 a ha
        obtain ⟨kk, s4, s5, s6⟩ := h.s1
        simp only [u64] at e1 s4 s5
        rw [(show m.b a = B from HB.out)] at e1
        have hx0 : IntKind.u64.wrap ((B : Int) - (n : Int)) = (B : Int) - (n : Int) := by rw [IntKind.wrap_u64]; omega
        go_still_tail 15, (by kernel_rfl)
        change wpList _ _ _ _ _ w'.drew
        clear hx0
        go_wp2_with fail
        obtain ⟨w2, hw9⟩ : ∃ w2, w2 = (w'.setCell ⟨b1, a, none⟩ (.int .u64 ((B : Int) - (n : Int)))).drew := ⟨_, rfl⟩
        have h2 := (h.setB (x := B - n) (z := (B : Int) - (n : Int)) ha (by omega)).drew
        rw [← hw9] at h2 ⊢
        have ho2 : Only [y, b1, b2, b3, b4] w' w2 := by rw [hw9]; exact ((Only.refl [y, b1, b2, b3, b4] w').setCell (.inl (by simp)) _).drew
        clear hw9 e1 e2 s4 s5 s6
        obtain ⟨e1, e2⟩ := h2.c1 c hc
        obtain ⟨kk, s4, s5, s6⟩ := h2.s1
        simp only [u64] at e1 s4 s5
        rw [(show upd m.b a (B - n) c = D from HD.out)] at e1
        have hx0 : IntKind.u64.wrap ((D : Int) + (n : Int)) = (D : Int) + (n : Int) := by rw [IntKind.wrap_u64]; omega
        go_still_tail 15, (by kernel_rfl)
        change wpList _ _ _ _ _ w2.drew
        clear hx0
        have hfin := hid (h2.drew.setB (x := D + n) (z := (D : Int) + (n : Int)) hc (by omega))
        clear h2
        go_wp2
        go_ret
        exact ⟨rfl, by rw [← hms.out]; exact hfin.out, ho2.drew.setCell (.inl (by simp)) _⟩
    · rw [if_neg (fun hh => hq hh.2)]
      have hofq := hid (ris_no w y b1 b2 b3 b4 m h hk q hq)
      clear hi hp hq haa
      go_enter Try.func64, Try.ntmps64
      go_wp2_with fail
      refine hofp.out.mono ?_
      rintro e w' ⟨rfl, rfl⟩
      go_wp2_with fail
      refine hofq.out.mono ?_
      rintro e w' ⟨rfl, rfl⟩
      go_wp2
      go_ret
      exact ⟨rfl, h, Only.refl _ _⟩
  · rw [if_neg (fun hh => hp hh.1)]
    have hofp := hid (ris_no w y b1 b2 b3 b4 m h hk p hp)
    clear hi hp
    go_enter Try.func64, Try.ntmps64
    go_wp2_with fail
    refine hofp.out.mono ?_
    rintro e w' ⟨rfl, rfl⟩
    go_wp2
    go_ret
    exact ⟨rfl, h, Only.refl _ _⟩

set_option maxRecDepth 20000 in
theorem rsum_any (w : World) (b k c : Nat) (g : Nat → Nat) (h : Arr w b k g) (h1 : k ≤ c) (h2 : c ≤ maxLen) (hk : k ≤ 6) (hS : sumTo k g ≤ 1152921504606846976) :
    Calls Try.prog 39 #[.slice (some ⟨b, 0, none⟩) k c] w fun e w' => e = .returned (u64 (sumTo k g)) ∧ w' = w := by
  have hmono : ∀ j, j < k → sumTo j g + g j ≤ sumTo k g := by
    intro j hj
    have h1 : ∀ k, j < k → sumTo (j + 1) g ≤ sumTo k g := by
      intro k
      induction k with
      | zero => intro h; omega
      | succ k ih =>
        intro h
        by_cases e : j = k
        · subst e; exact Nat.le_refl _
        · have := ih (by omega); simp only [sumTo] at this ⊢; omega
    have := h1 k hj
    simpa only [sumTo] using this
  have HM := hid hmono
  clear hmono
  go_enter Try.func39, Try.ntmps39
  go_wp2
  go_loop [3, 7] (fun n i => ∃ j : Nat, j ≤ k ∧ i = .int .i64 j ∧ ∃ S : Nat, Hid (S = sumTo j g) ∧ n = .int .u64 (S : Int)) (fun _ i => k - (intOf i).toNat)
  case atStart => exact ⟨0, Nat.zero_le _, rfl, 0, hid rfl, rfl⟩
  case round =>
    obtain ⟨j, hj, rfl, S, hSj, rfl⟩ := hrel
    by_cases hlt : j < k
    · obtain ⟨c1, c2⟩ := h j hlt
      have hb := HM.out j hlt
      obtain ⟨G, hG⟩ : ∃ G, G = g j := ⟨_, rfl⟩
      simp only [u64] at c1
      have hSG : S + G ≤ 1152921504606846976 := by have := hSj.out; omega
      have hS' : Hid (S + G = sumTo (j + 1) g) := by have := hSj.out; show _ = _; rw [sumTo]; omega
      rw [← hG] at c1
      clear hb hG hSj
      go_wp2
      go_round
      case rel => exact ⟨j + 1, by omega, by go_num, S + G, hS', by go_num⟩
      case measure => simp [intOf]; omega
    · obtain rfl : j = k := by omega
      go_wp2
      go_ret
      exact ⟨by rw [hSj.out]; rfl, rfl⟩
end Go.Proofs.Ytiinfiaemiaamaa.Sh
