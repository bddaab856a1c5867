/- The document's ledger: what was held back goes: walked. -/
import Derived.Test.YtiinfiaemiaamaaLedG
namespace Go.Proofs.Ytiinfiaemiaamaa.Sh
open Go Go.RowKit

theorem upd_upd (g : Nat → Nat) (a x y : Nat) : upd (upd g a x) a y = upd g a y := by
  funext i
  by_cases e : i = a <;> simp [upd, e]
theorem upd_self (g : Nat → Nat) (a : Nat) : upd g a (g a) = g := by
  funext i
  by_cases e : i = a <;> simp [upd, e]

set_option maxRecDepth 20000 in
set_option maxHeartbeats 3200000 in
theorem rback_tt (w : World) (y b1 b2 b3 b4 T : Nat) (m : Lm) (h : RLed w y b1 b2 b3 b4 m) (hi : LInv T m) (who : Int) (fee : Nat) (hfee : fee < 18446744073709551616) :
    Calls Try.prog 63 #[.pointer (some ⟨y, 0, none⟩), .int .i64 who, .int .u64 fee, .bool true, .bool true] w (RPost w y b1 b2 b3 b4 (backE m who fee true true)) := by
  have hk := hi.few.2
  unfold backE
  by_cases hw : m.is who
  · obtain ⟨ha, hae⟩ := is_nat hw
    rw [if_pos hw]
    obtain ⟨a, haa⟩ : ∃ a, a = who.toNat := ⟨_, rfl⟩
    rw [← haa] at ha hae ⊢
    subst hae
    have hof := hid (ris_yes w y b1 b2 b3 b4 m h hk a ha)
    obtain ⟨⟨n1, n2, n3, n4⟩, ⟨n5, n6, n7⟩, ⟨n8, n9⟩, n10⟩ := h.ne
    obtain ⟨d1, d2⟩ := h.c3 a ha
    obtain ⟨k1, s1, s2, s3⟩ := h.s3
    obtain ⟨g1, g2⟩ := h.c4 a ha
    obtain ⟨k2, r1, r2, r3⟩ := h.s4
    obtain ⟨q1, q2, q3, q4⟩ := hi.bounds a ha
    have h50 : m.d a ≠ 0 → 50 ≤ m.d a := by
      intro hd
      obtain ⟨c, hc⟩ := hi.dep a ha
      omega
    have hcap := hi.cap
    obtain ⟨B, hB⟩ : ∃ B, B = m.b a := ⟨_, rfl⟩
    obtain ⟨F, hF⟩ : ∃ F, F = m.f a := ⟨_, rfl⟩
    obtain ⟨D, hD⟩ : ∃ D, D = m.d a := ⟨_, rfl⟩
    obtain ⟨t, ht⟩ : ∃ t, t = m.t := ⟨_, rfl⟩
    simp only [u64] at d1 g1
    rw [← hB] at q1 q4
    rw [← hF] at d1 q2 q4 ⊢
    rw [← hD] at g1 q3 q4 h50 ⊢
    rw [← ht] at q4
    have HF := hid hF.symm
    have HD := hid hD.symm
    have HB := hid hB.symm
    have HT := hid ht.symm
    clear haa hw
    by_cases hbad : F < fee ∨ D = 0
    · rw [if_pos hbad]
      have hpost : Hid (RPost w y b1 b2 b3 b4 (9, m) (.returned (.int .i64 9)) w) := ⟨rfl, h, Only.refl _ _⟩
      clear hi hB hF hD ht h50
      by_cases hlt : F < fee
      · clear hbad
        go_enter Try.func63, Try.ntmps63
        go_wp2_with fail
        refine hof.out.mono ?_
        rintro e w' ⟨rfl, rfl⟩
        go_wp2
        go_ret
        exact hpost
      · have hdz : D = 0 := by omega
        subst hdz
        simp only [Int.natCast_zero] at g1
        clear hbad
        go_enter Try.func63, Try.ntmps63
        go_wp2_with fail
        refine hof.out.mono ?_
        rintro e w' ⟨rfl, rfl⟩
        go_wp2
        go_ret
        exact hpost
    · rw [if_neg hbad]
      have hle : fee ≤ F := by omega
      have hnl : ¬ F < fee := by omega
      have h50 : 50 ≤ D := h50 (by omega)
      have hdz : ((D : Int) == 0) = false := by rw [beq_eq_false_iff_ne]; omega
      clear hbad hi
      have hms : Hid (({ m with f := upd m.f a (F - fee), d := upd m.d a (D - 50), b := upd (upd m.b a (B + fee)) a (B + fee + 50) } : Lm) = m.back a fee true true) := by show _ = _; rw [hF, hD, hB]; simp [Lm.back, upd_upd]
      clear hF hD hB ht
      go_enter Try.func63, Try.ntmps63
      go_wp2_with fail
      refine hof.out.mono ?_
      rintro e w' ⟨rfl, rfl⟩
      go_wp2_with fail
      clear d1 d2 g1 g2 s1 s2 s3 r1 r2 r3 hdz
      obtain ⟨e1, e2⟩ := h.c3 a ha
      obtain ⟨kk, s4, s5, s6⟩ := h.s3
      simp only [u64] at e1 s4 s5
      rw [(show m.f a = F from HF.out)] at e1
      have hx0 : IntKind.u64.wrap ((F : Int) - (fee : Int)) = (F : Int) - (fee : Int) := by rw [IntKind.wrap_u64]; omega
      go_still_tail 15, (by kernel_rfl)
      change wpList _ _ _ _ _ w'.drew
      clear hx0
      go_wp2_with fail
      obtain ⟨w2, hw9⟩ : ∃ w2, w2 = (w'.setCell ⟨b3, a, none⟩ (.int .u64 ((F : Int) - (fee : Int)))).drew := ⟨_, rfl⟩
      have h2 := (h.setF (x := F - fee) (z := (F : Int) - (fee : Int)) ha (by omega)).drew
      rw [← hw9] at h2 ⊢
      have ho2 : Only [y, b1, b2, b3, b4] w' w2 := by rw [hw9]; exact ((Only.refl [y, b1, b2, b3, b4] w').setCell (.inl (by simp)) _).drew
      clear hw9 e1 e2 s4 s5 s6
      obtain ⟨e1, e2⟩ := h2.c4 a ha
      obtain ⟨kk, s4, s5, s6⟩ := h2.s4
      simp only [u64] at e1 s4 s5
      rw [(show m.d a = D from HD.out)] at e1
      have hx0 : IntKind.u64.wrap ((D : Int) - 50) = (D : Int) - 50 := by rw [IntKind.wrap_u64]; omega
      go_still_tail 14, (by kernel_rfl)
      change wpList _ _ _ _ _ w2.drew
      clear hx0
      go_wp2_with fail
      obtain ⟨w3, hw9⟩ : ∃ w3, w3 = (w2.setCell ⟨b4, a, none⟩ (.int .u64 ((D : Int) - 50))).drew := ⟨_, rfl⟩
      have h3 := (h2.setD (x := D - 50) (z := (D : Int) - 50) ha (by omega)).drew
      rw [← hw9] at h3 ⊢
      have ho3 : Only [y, b1, b2, b3, b4] w' w3 := by rw [hw9]; exact (ho2.setCell (.inl (by simp)) _).drew
      clear hw9 e1 e2 s4 s5 s6 h2
      obtain ⟨e1, e2⟩ := h3.c1 a ha
      obtain ⟨kk, s4, s5, s6⟩ := h3.s1
      simp only [u64] at e1 s4 s5
      rw [(show m.b a = B from HB.out)] at e1
      have hx0 : IntKind.u64.wrap ((B : Int) + (fee : Int)) = (B : Int) + (fee : Int) := by rw [IntKind.wrap_u64]; omega
      go_still_tail 15, (by kernel_rfl)
      change wpList _ _ _ _ _ w3.drew
      clear hx0
      go_wp2_with fail
      obtain ⟨w4, hw9⟩ : ∃ w4, w4 = (w3.setCell ⟨b1, a, none⟩ (.int .u64 ((B : Int) + (fee : Int)))).drew := ⟨_, rfl⟩
      have h4 := (h3.setB (x := B + fee) (z := (B : Int) + (fee : Int)) ha (by omega)).drew
      rw [← hw9] at h4 ⊢
      have ho4 : Only [y, b1, b2, b3, b4] w' w4 := by rw [hw9]; exact (ho3.setCell (.inl (by simp)) _).drew
      clear hw9 e1 e2 s4 s5 s6 h3
      obtain ⟨e1, e2⟩ := h4.c1 a ha
      obtain ⟨kk, s4, s5, s6⟩ := h4.s1
      simp only [u64] at e1 s4 s5
      simp only [upd_same, Int.natCast_add] at e1
      have hx0 : IntKind.u64.wrap ((B : Int) + (fee : Int) + 50) = (B : Int) + (fee : Int) + 50 := by rw [IntKind.wrap_u64]; omega
      go_still_tail 14, (by kernel_rfl)
      change wpList _ _ _ _ _ w4.drew
      clear hx0
      have hfin := hid (h4.drew.setB (x := B + fee + 50) (z := (B : Int) + (fee : Int) + 50) ha (by omega))
      clear h4
      go_wp2
      go_ret
      exact ⟨rfl, by rw [← hms.out]; exact hfin.out, ho4.drew.setCell (.inl (by simp)) _⟩
  · rw [if_neg hw]
    have hof := hid (ris_no w y b1 b2 b3 b4 m h hk who hw)
    have hpost : Hid (RPost w y b1 b2 b3 b4 (1, m) (.returned (.int .i64 1)) w) := ⟨rfl, h, Only.refl _ _⟩
    clear hw hi
    go_enter Try.func63, Try.ntmps63
    go_wp2_with fail
    refine hof.out.mono ?_
    rintro e w' ⟨rfl, rfl⟩
    go_wp2
    go_ret
    exact hpost

set_option maxRecDepth 20000 in
set_option maxHeartbeats 3200000 in
theorem rback_ft (w : World) (y b1 b2 b3 b4 T : Nat) (m : Lm) (h : RLed w y b1 b2 b3 b4 m) (hi : LInv T m) (who : Int) (fee : Nat) (hfee : fee < 18446744073709551616) :
    Calls Try.prog 63 #[.pointer (some ⟨y, 0, none⟩), .int .i64 who, .int .u64 fee, .bool false, .bool true] w (RPost w y b1 b2 b3 b4 (backE m who fee false true)) := by
  have hk := hi.few.2
  unfold backE
  by_cases hw : m.is who
  · obtain ⟨ha, hae⟩ := is_nat hw
    rw [if_pos hw]
    obtain ⟨a, haa⟩ : ∃ a, a = who.toNat := ⟨_, rfl⟩
    rw [← haa] at ha hae ⊢
    subst hae
    have hof := hid (ris_yes w y b1 b2 b3 b4 m h hk a ha)
    obtain ⟨⟨n1, n2, n3, n4⟩, ⟨n5, n6, n7⟩, ⟨n8, n9⟩, n10⟩ := h.ne
    obtain ⟨d1, d2⟩ := h.c3 a ha
    obtain ⟨k1, s1, s2, s3⟩ := h.s3
    obtain ⟨g1, g2⟩ := h.c4 a ha
    obtain ⟨k2, r1, r2, r3⟩ := h.s4
    obtain ⟨q1, q2, q3, q4⟩ := hi.bounds a ha
    have h50 : m.d a ≠ 0 → 50 ≤ m.d a := by
      intro hd
      obtain ⟨c, hc⟩ := hi.dep a ha
      omega
    have hcap := hi.cap
    obtain ⟨B, hB⟩ : ∃ B, B = m.b a := ⟨_, rfl⟩
    obtain ⟨F, hF⟩ : ∃ F, F = m.f a := ⟨_, rfl⟩
    obtain ⟨D, hD⟩ : ∃ D, D = m.d a := ⟨_, rfl⟩
    obtain ⟨t, ht⟩ : ∃ t, t = m.t := ⟨_, rfl⟩
    simp only [u64] at d1 g1
    rw [← hB] at q1 q4
    rw [← hF] at d1 q2 q4 ⊢
    rw [← hD] at g1 q3 q4 h50 ⊢
    rw [← ht] at q4
    have HF := hid hF.symm
    have HD := hid hD.symm
    have HB := hid hB.symm
    have HT := hid ht.symm
    clear haa hw
    by_cases hbad : F < fee ∨ D = 0
    · rw [if_pos hbad]
      have hpost : Hid (RPost w y b1 b2 b3 b4 (9, m) (.returned (.int .i64 9)) w) := ⟨rfl, h, Only.refl _ _⟩
      clear hi hB hF hD ht h50
      by_cases hlt : F < fee
      · clear hbad
        go_enter Try.func63, Try.ntmps63
        go_wp2_with fail
        refine hof.out.mono ?_
        rintro e w' ⟨rfl, rfl⟩
        go_wp2
        go_ret
        exact hpost
      · have hdz : D = 0 := by omega
        subst hdz
        simp only [Int.natCast_zero] at g1
        clear hbad
        go_enter Try.func63, Try.ntmps63
        go_wp2_with fail
        refine hof.out.mono ?_
        rintro e w' ⟨rfl, rfl⟩
        go_wp2
        go_ret
        exact hpost
    · rw [if_neg hbad]
      have hle : fee ≤ F := by omega
      have hnl : ¬ F < fee := by omega
      have h50 : 50 ≤ D := h50 (by omega)
      have hdz : ((D : Int) == 0) = false := by rw [beq_eq_false_iff_ne]; omega
      clear hbad hi
      have hms : Hid (({ m with f := upd m.f a (F - fee), d := upd m.d a (D - 50), t := t + fee, b := upd m.b a (B + 50) } : Lm) = m.back a fee false true) := by show _ = _; rw [hF, hD, hB, ht]; simp [Lm.back]
      clear hF hD hB ht
      go_enter Try.func63, Try.ntmps63
      go_wp2_with fail
      refine hof.out.mono ?_
      rintro e w' ⟨rfl, rfl⟩
      go_wp2_with fail
      clear d1 d2 g1 g2 s1 s2 s3 r1 r2 r3 hdz
      obtain ⟨e1, e2⟩ := h.c3 a ha
      obtain ⟨kk, s4, s5, s6⟩ := h.s3
      simp only [u64] at e1 s4 s5
      rw [(show m.f a = F from HF.out)] at e1
      have hx0 : IntKind.u64.wrap ((F : Int) - (fee : Int)) = (F : Int) - (fee : Int) := by rw [IntKind.wrap_u64]; omega
      go_still_tail 15, (by kernel_rfl)
      change wpList _ _ _ _ _ w'.drew
      clear hx0
      go_wp2_with fail
      obtain ⟨w2, hw9⟩ : ∃ w2, w2 = (w'.setCell ⟨b3, a, none⟩ (.int .u64 ((F : Int) - (fee : Int)))).drew := ⟨_, rfl⟩
      have h2 := (h.setF (x := F - fee) (z := (F : Int) - (fee : Int)) ha (by omega)).drew
      rw [← hw9] at h2 ⊢
      have ho2 : Only [y, b1, b2, b3, b4] w' w2 := by rw [hw9]; exact ((Only.refl [y, b1, b2, b3, b4] w').setCell (.inl (by simp)) _).drew
      clear hw9 e1 e2 s4 s5 s6
      obtain ⟨e1, e2⟩ := h2.c4 a ha
      obtain ⟨kk, s4, s5, s6⟩ := h2.s4
      simp only [u64] at e1 s4 s5
      rw [(show m.d a = D from HD.out)] at e1
      have hx0 : IntKind.u64.wrap ((D : Int) - 50) = (D : Int) - 50 := by rw [IntKind.wrap_u64]; omega
      obtain ⟨t1, t2⟩ := h2.st
      simp only [u64] at t1
      rw [show m.t = t from HT.out] at t1
      go_still_tail 14, (by kernel_rfl)
      change wpList _ _ _ _ _ w2.drew
      clear hx0
      go_wp2_with fail
      obtain ⟨w3, hw9⟩ : ∃ w3, w3 = ((w2.setCell ⟨b4, a, none⟩ (.int .u64 ((D : Int) - 50))).setCell ⟨y, 4, none⟩ (.int .u64 ((t : Int) + (fee : Int)))).drew := ⟨_, rfl⟩
      have h3 := ((h2.setD (x := D - 50) (z := (D : Int) - 50) ha (by omega)).setT (x := t + fee) (z := (t : Int) + (fee : Int)) (by omega)).drew
      rw [← hw9] at h3 ⊢
      have ho3 : Only [y, b1, b2, b3, b4] w' w3 := by rw [hw9]; exact ((ho2.setCell (.inl (by simp)) _).setCell (.inl (by simp)) _).drew
      clear hw9 e1 e2 s4 s5 s6 t1 t2 h2
      obtain ⟨e1, e2⟩ := h3.c1 a ha
      obtain ⟨kk, s4, s5, s6⟩ := h3.s1
      simp only [u64] at e1 s4 s5
      rw [(show m.b a = B from HB.out)] at e1
      have hx0 : IntKind.u64.wrap ((B : Int) + 50) = (B : Int) + 50 := by rw [IntKind.wrap_u64]; omega
      go_still_tail 14, (by kernel_rfl)
      change wpList _ _ _ _ _ w3.drew
      clear hx0
      have hfin := hid (h3.drew.setB (x := B + 50) (z := (B : Int) + 50) ha (by omega))
      clear h3
      go_wp2
      go_ret
      exact ⟨rfl, by rw [← hms.out]; exact hfin.out, ho3.drew.setCell (.inl (by simp)) _⟩
  · rw [if_neg hw]
    have hof := hid (ris_no w y b1 b2 b3 b4 m h hk who hw)
    have hpost : Hid (RPost w y b1 b2 b3 b4 (1, m) (.returned (.int .i64 1)) w) := ⟨rfl, h, Only.refl _ _⟩
    clear hw hi
    go_enter Try.func63, Try.ntmps63
    go_wp2_with fail
    refine hof.out.mono ?_
    rintro e w' ⟨rfl, rfl⟩
    go_wp2
    go_ret
    exact hpost

set_option maxRecDepth 20000 in
set_option maxHeartbeats 3200000 in
theorem rback_ff (w : World) (y b1 b2 b3 b4 T : Nat) (m : Lm) (h : RLed w y b1 b2 b3 b4 m) (hi : LInv T m) (who : Int) (fee : Nat) (hfee : fee < 18446744073709551616) :
    Calls Try.prog 63 #[.pointer (some ⟨y, 0, none⟩), .int .i64 who, .int .u64 fee, .bool false, .bool false] w (RPost w y b1 b2 b3 b4 (backE m who fee false false)) := by
  have hk := hi.few.2
  unfold backE
  by_cases hw : m.is who
  · obtain ⟨ha, hae⟩ := is_nat hw
    rw [if_pos hw]
    obtain ⟨a, haa⟩ : ∃ a, a = who.toNat := ⟨_, rfl⟩
    rw [← haa] at ha hae ⊢
    subst hae
    have hof := hid (ris_yes w y b1 b2 b3 b4 m h hk a ha)
    obtain ⟨⟨n1, n2, n3, n4⟩, ⟨n5, n6, n7⟩, ⟨n8, n9⟩, n10⟩ := h.ne
    obtain ⟨d1, d2⟩ := h.c3 a ha
    obtain ⟨k1, s1, s2, s3⟩ := h.s3
    obtain ⟨g1, g2⟩ := h.c4 a ha
    obtain ⟨k2, r1, r2, r3⟩ := h.s4
    obtain ⟨q1, q2, q3, q4⟩ := hi.bounds a ha
    have h50 : m.d a ≠ 0 → 50 ≤ m.d a := by
      intro hd
      obtain ⟨c, hc⟩ := hi.dep a ha
      omega
    have hcap := hi.cap
    obtain ⟨B, hB⟩ : ∃ B, B = m.b a := ⟨_, rfl⟩
    obtain ⟨F, hF⟩ : ∃ F, F = m.f a := ⟨_, rfl⟩
    obtain ⟨D, hD⟩ : ∃ D, D = m.d a := ⟨_, rfl⟩
    obtain ⟨t, ht⟩ : ∃ t, t = m.t := ⟨_, rfl⟩
    simp only [u64] at d1 g1
    rw [← hB] at q1 q4
    rw [← hF] at d1 q2 q4 ⊢
    rw [← hD] at g1 q3 q4 h50 ⊢
    rw [← ht] at q4
    have HF := hid hF.symm
    have HD := hid hD.symm
    have HB := hid hB.symm
    have HT := hid ht.symm
    clear haa hw
    by_cases hbad : F < fee ∨ D = 0
    · rw [if_pos hbad]
      have hpost : Hid (RPost w y b1 b2 b3 b4 (9, m) (.returned (.int .i64 9)) w) := ⟨rfl, h, Only.refl _ _⟩
      clear hi hB hF hD ht h50
      by_cases hlt : F < fee
      · clear hbad
        go_enter Try.func63, Try.ntmps63
        go_wp2_with fail
        refine hof.out.mono ?_
        rintro e w' ⟨rfl, rfl⟩
        go_wp2
        go_ret
        exact hpost
      · have hdz : D = 0 := by omega
        subst hdz
        simp only [Int.natCast_zero] at g1
        clear hbad
        go_enter Try.func63, Try.ntmps63
        go_wp2_with fail
        refine hof.out.mono ?_
        rintro e w' ⟨rfl, rfl⟩
        go_wp2
        go_ret
        exact hpost
    · rw [if_neg hbad]
      have hle : fee ≤ F := by omega
      have hnl : ¬ F < fee := by omega
      have h50 : 50 ≤ D := h50 (by omega)
      have hdz : ((D : Int) == 0) = false := by rw [beq_eq_false_iff_ne]; omega
      clear hbad hi
      have hms : Hid (({ m with f := upd m.f a (F - fee), d := upd m.d a (D - 50), t := t + fee + 50 } : Lm) = m.back a fee false false) := by show _ = _; rw [hF, hD, ht]; simp [Lm.back, upd_self]
      clear hF hD hB ht
      go_enter Try.func63, Try.ntmps63
      go_wp2_with fail
      refine hof.out.mono ?_
      rintro e w' ⟨rfl, rfl⟩
      go_wp2_with fail
      clear d1 d2 g1 g2 s1 s2 s3 r1 r2 r3 hdz
      obtain ⟨e1, e2⟩ := h.c3 a ha
      obtain ⟨kk, s4, s5, s6⟩ := h.s3
      simp only [u64] at e1 s4 s5
      rw [(show m.f a = F from HF.out)] at e1
      have hx0 : IntKind.u64.wrap ((F : Int) - (fee : Int)) = (F : Int) - (fee : Int) := by rw [IntKind.wrap_u64]; omega
      go_still_tail 15, (by kernel_rfl)
      change wpList _ _ _ _ _ w'.drew
      clear hx0
      go_wp2_with fail
      obtain ⟨w2, hw9⟩ : ∃ w2, w2 = (w'.setCell ⟨b3, a, none⟩ (.int .u64 ((F : Int) - (fee : Int)))).drew := ⟨_, rfl⟩
      have h2 := (h.setF (x := F - fee) (z := (F : Int) - (fee : Int)) ha (by omega)).drew
      rw [← hw9] at h2 ⊢
      have ho2 : Only [y, b1, b2, b3, b4] w' w2 := by rw [hw9]; exact ((Only.refl [y, b1, b2, b3, b4] w').setCell (.inl (by simp)) _).drew
      clear hw9 e1 e2 s4 s5 s6
      obtain ⟨e1, e2⟩ := h2.c4 a ha
      obtain ⟨kk, s4, s5, s6⟩ := h2.s4
      simp only [u64] at e1 s4 s5
      rw [(show m.d a = D from HD.out)] at e1
      have hx0 : IntKind.u64.wrap ((D : Int) - 50) = (D : Int) - 50 := by rw [IntKind.wrap_u64]; omega
      obtain ⟨t1, t2⟩ := h2.st
      simp only [u64] at t1
      rw [show m.t = t from HT.out] at t1
      go_still_tail 14, (by kernel_rfl)
      change wpList _ _ _ _ _ w2.drew
      clear hx0
      have hfin := hid (((h2.drew.setD (x := D - 50) (z := (D : Int) - 50) ha (by omega)).setT (x := t + fee) (z := (t : Int) + (fee : Int)) (by omega)).setT (x := t + fee + 50) (z := (t : Int) + (fee : Int) + 50) (by omega))
      clear h2
      go_wp2
      go_ret
      exact ⟨rfl, by rw [← hms.out]; exact hfin.out, ((ho2.drew.setCell (.inl (by simp)) _).setCell (.inl (by simp)) _).setCell (.inl (by simp)) _⟩
  · rw [if_neg hw]
    have hof := hid (ris_no w y b1 b2 b3 b4 m h hk who hw)
    have hpost : Hid (RPost w y b1 b2 b3 b4 (1, m) (.returned (.int .i64 1)) w) := ⟨rfl, h, Only.refl _ _⟩
    clear hw hi
    go_enter Try.func63, Try.ntmps63
    go_wp2_with fail
    refine hof.out.mono ?_
    rintro e w' ⟨rfl, rfl⟩
    go_wp2
    go_ret
    exact hpost

end Go.Proofs.Ytiinfiaemiaamaa.Sh
