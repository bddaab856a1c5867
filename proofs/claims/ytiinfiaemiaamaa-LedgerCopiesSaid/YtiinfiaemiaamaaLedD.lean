/- The program's ledger: pay, slash, move, turn: walked. -/
import Derived.Test.YtiinfiaemiaamaaLedC
namespace Go.Proofs.Ytiinfiaemiaamaa.Sh
open Go Go.RowKit

set_option maxRecDepth 20000 in
set_option maxHeartbeats 1600000 in
theorem pay_any (w : World) (x ab mb T : Nat) (m : Lm) (h : Led w x ab mb m) (hi : LInv T m) (who : Int) (fee : Nat) (hfee : fee < 18446744073709551616) :
    Calls Try.prog 22 #[.pointer (some ⟨x, 0, none⟩), .int .i64 who, .int .u64 fee] w (HoldPost w x ab mb m (backE m who fee false true)) := by
  have hk := hi.few.2
  unfold backE
  by_cases hw : m.is who
  · obtain ⟨ha, hae⟩ := is_nat hw
    rw [if_pos hw]
    obtain ⟨a, haa⟩ : ∃ a, a = who.toNat := ⟨_, rfl⟩
    rw [← haa] at ha hae ⊢
    subst hae
    clear haa hw
    by_cases hbad : m.f a < fee ∨ m.d a = 0
    · rw [if_pos hbad]
      have hb := hid (back_few w x ab mb T m h hi a ha fee hfee hbad)
      clear hbad hi
      go_enter Try.func22, Try.ntmps22
      go_wp2_with fail
      refine hb.out.mono ?_
      rintro e w' ⟨rfl, hL, ho⟩
      go_wp2
      go_ret
      exact ⟨rfl, hL, ho⟩
    · rw [if_neg hbad]
      have hf : fee ≤ m.f a := by omega
      have hd : m.d a ≠ 0 := by omega
      have hb := hid (back_ok w x ab mb T m h hi a ha fee hf hd)
      obtain ⟨q1, q2, q3, q4⟩ := hi.bounds a ha
      have hcap := hi.cap
      have hms : Hid (({ m with f := upd m.f a (m.f a - fee), d := upd m.d a (m.d a - 50), t := m.t + fee, b := upd m.b a (m.b a + 50) } : Lm) = m.back a fee false true) := by show _ = _; simp [Lm.back]
      clear hbad hd hi
      go_enter Try.func22, Try.ntmps22
      go_wp2_with fail
      refine hb.out.mono ?_
      rintro e w' ⟨rfl, hL, ho⟩
      have hL1 := hL.setT (y := m.t + fee) (z := (m.t : Int) + (fee : Int)) (by omega)
      have hL2 := hid (hL1.setB (y := m.b a + 50) (z := (m.b a : Int) + 50) ha (by omega))
      obtain ⟨b1, b2⟩ := hL1.cb a ha
      obtain ⟨t1, t2⟩ := hL.tr
      obtain ⟨B, hB⟩ : ∃ B, B = m.b a := ⟨_, rfl⟩
      obtain ⟨t, ht⟩ : ∃ t, t = m.t := ⟨_, rfl⟩
      simp only [u64] at b1 t1
      rw [← hB] at b1 q1 q4 hL2 hms
      rw [← ht] at b1 b2 q4 hL2 hms t1
      clear hL hL1 hB ht
      go_wp2
      go_ret
      exact ⟨rfl, by rw [← hms.out]; exact hL2.out, (ho.setCell (.inl (by simp)) _).setCell (.inl (by simp)) _⟩
  · rw [if_neg hw]
    have hb := hid (back_no w x ab mb m h hk who fee hw)
    clear hw hi
    go_enter Try.func22, Try.ntmps22
    go_wp2_with fail
    refine hb.out.mono ?_
    rintro e w' ⟨rfl, rfl⟩
    go_wp2
    go_ret
    exact ⟨rfl, h, Only.refl _ _⟩

set_option maxRecDepth 20000 in
set_option maxHeartbeats 1600000 in
theorem slash_any (w : World) (x ab mb T : Nat) (m : Lm) (h : Led w x ab mb m) (hi : LInv T m) (who : Int) (fee : Nat) (hfee : fee < 18446744073709551616) :
    Calls Try.prog 23 #[.pointer (some ⟨x, 0, none⟩), .int .i64 who, .int .u64 fee] w (HoldPost w x ab mb m (backE m who fee false false)) := by
  have hk := hi.few.2
  unfold backE
  by_cases hw : m.is who
  · obtain ⟨ha, hae⟩ := is_nat hw
    rw [if_pos hw]
    obtain ⟨a, haa⟩ : ∃ a, a = who.toNat := ⟨_, rfl⟩
    rw [← haa] at ha hae ⊢
    subst hae
    clear haa hw
    by_cases hbad : m.f a < fee ∨ m.d a = 0
    · rw [if_pos hbad]
      have hb := hid (back_few w x ab mb T m h hi a ha fee hfee hbad)
      clear hbad hi
      go_enter Try.func23, Try.ntmps23
      go_wp2_with fail
      refine hb.out.mono ?_
      rintro e w' ⟨rfl, hL, ho⟩
      go_wp2
      go_ret
      exact ⟨rfl, hL, ho⟩
    · rw [if_neg hbad]
      have hf : fee ≤ m.f a := by omega
      have hd : m.d a ≠ 0 := by omega
      have hb := hid (back_ok w x ab mb T m h hi a ha fee hf hd)
      obtain ⟨q1, q2, q3, q4⟩ := hi.bounds a ha
      have hcap := hi.cap
      have hupd : upd m.b a (m.b a) = m.b := by
        funext i
        by_cases e : i = a
        · subst e; exact upd_same _ _ _
        · exact upd_other _ _ e
      have hms : Hid (({ m with f := upd m.f a (m.f a - fee), d := upd m.d a (m.d a - 50), t := m.t + fee + 50 } : Lm) = m.back a fee false false) := by show _ = _; simp [Lm.back, hupd]
      clear hbad hd hi hupd
      go_enter Try.func23, Try.ntmps23
      go_wp2_with fail
      refine hb.out.mono ?_
      rintro e w' ⟨rfl, hL, ho⟩
      have hL1 := hid (hL.setT (y := m.t + fee + 50) (z := (m.t : Int) + ((fee : Int) + 50)) (by omega))
      obtain ⟨t1, t2⟩ := hL.tr
      obtain ⟨t, ht⟩ : ∃ t, t = m.t := ⟨_, rfl⟩
      simp only [u64] at t1
      rw [← ht] at q4 hL1 hms t1
      clear hL ht
      go_wp2
      go_ret
      exact ⟨rfl, by rw [← hms.out]; exact hL1.out, ho.setCell (.inl (by simp)) _⟩
  · rw [if_neg hw]
    have hb := hid (back_no w x ab mb m h hk who fee hw)
    clear hw hi
    go_enter Try.func23, Try.ntmps23
    go_wp2_with fail
    refine hb.out.mono ?_
    rintro e w' ⟨rfl, rfl⟩
    go_wp2
    go_ret
    exact ⟨rfl, h, Only.refl _ _⟩

theorem eql_ptr_nil (a : Addr) (w : World) : (binOp .eql 79 (.pointer (some a)) (.pointer none)).run Try.prog w = .ok (.bool false) w := by
  simp [go_sem]

set_option maxRecDepth 20000 in
set_option maxHeartbeats 1600000 in
theorem turn_any (w : World) (x ab mb T : Nat) (m : Lm) (h : Led w x ab mb m) (hi : LInv T m) (who : Int) (nonce : Nat) (hn : nonce < 18446744073709551616) :
    Calls Try.prog 25 #[.pointer (some ⟨x, 0, none⟩), .int .i64 who, .int .u64 nonce] w (HoldPost w x ab mb m (turnE m who nonce)) := by
  have hk := hi.few.2
  unfold turnE
  by_cases hw : m.is who
  · obtain ⟨ha, hae⟩ := is_nat hw
    rw [if_pos hw]
    obtain ⟨a, haa⟩ : ∃ a, a = who.toNat := ⟨_, rfl⟩
    rw [← haa] at ha hae ⊢
    subst hae
    clear haa hw
    have hof := hid (of_in w x ab mb m h hk a ha)
    obtain ⟨b1, b2⟩ := h.cn a ha
    have hnb := hi.non a
    have hL2 := fun hz => h.setN (y := m.n a + 1) (z := (m.n a : Int) + 1) ha hz
    have hms : Hid (({ m with n := upd m.n a (m.n a + 1) } : Lm) = m.turn a) := hid rfl
    obtain ⟨B, hB⟩ : ∃ B, B = m.n a := ⟨_, rfl⟩
    simp only [u64] at b1
    rw [← hB] at b1 hnb hL2 hms ⊢
    replace hL2 := hid (hL2 (by omega))
    clear hB hi
    by_cases hne : B ≠ nonce
    · rw [if_pos hne]
      have hbn : ((B : Int) != (nonce : Int)) = true := by rw [bne_iff_ne]; omega
      clear hne
      go_enter Try.func25, Try.ntmps25
      go_wp2_with fail
      refine hof.out.mono ?_
      rintro e w' ⟨rfl, rfl⟩
      go_wp2
      go_ret
      exact ⟨rfl, h, Only.refl _ _⟩
    · obtain rfl : B = nonce := by omega
      rw [if_neg hne]
      clear hne
      by_cases hmx : B = 18446744073709551615
      · rw [if_pos hmx]
        subst hmx
        go_enter Try.func25, Try.ntmps25
        go_wp2_with fail
        refine hof.out.mono ?_
        rintro e w' ⟨rfl, rfl⟩
        go_wp2
        go_ret
        exact ⟨rfl, h, Only.refl _ _⟩
      · rw [if_neg hmx]
        have hbx : ((B : Int) == 18446744073709551615) = false := by rw [beq_eq_false_iff_ne]; omega
        have hlt : B < 18446744073709551615 := by omega
        have hbb : ((B : Int) != (B : Int)) = false := by simp
        clear hmx
        go_enter Try.func25, Try.ntmps25
        go_wp2_with fail
        refine hof.out.mono ?_
        rintro e w' ⟨rfl, rfl⟩
        go_wp2
        go_ret
        exact ⟨rfl, by rw [← hms.out]; exact hL2.out, (Only.refl _ _).setCell (.inl (by simp)) _⟩
  · rw [if_neg hw]
    have hof := hid (of_out w x ab mb m h hk who hw)
    clear hw hi
    go_enter Try.func25, Try.ntmps25
    go_wp2_with fail
    refine hof.out.mono ?_
    rintro e w' ⟨rfl, rfl⟩
    go_wp2
    go_ret
    exact ⟨rfl, h, Only.refl _ _⟩

set_option maxRecDepth 20000 in
set_option maxHeartbeats 1600000 in
theorem move_any (w : World) (x ab mb T : Nat) (m : Lm) (h : Led w x ab mb m) (hi : LInv T m) (p q : Int) (n : Nat) (hn : n < 18446744073709551616) :
    Calls Try.prog 42 #[.pointer (some ⟨x, 0, none⟩), .int .i64 p, .int .i64 q, .int .u64 n] w (HoldPost w x ab mb m (moveE m p q n)) := by
  have hk := hi.few.2
  unfold moveE
  by_cases hp : m.is p
  · obtain ⟨ha, hae⟩ := is_nat hp
    obtain ⟨a, haa⟩ : ∃ a, a = p.toNat := ⟨_, rfl⟩
    rw [← haa] at ha hae ⊢
    subst hae
    have hofp := hid (of_in w x ab mb m h hk a ha)
    by_cases hq : m.is q
    · obtain ⟨hc, hce⟩ := is_nat hq
      obtain ⟨c, hcc⟩ : ∃ c, c = q.toNat := ⟨_, rfl⟩
      rw [← hcc] at hc hce ⊢
      subst hce
      have hofq := hid (of_in w x ab mb m h hk c hc)
      rw [if_pos ⟨hp, hq⟩]
      obtain ⟨b1, b2⟩ := h.cb a ha
      obtain ⟨q1, _, _, _⟩ := hi.bounds a ha
      obtain ⟨q2, _, _, _⟩ := hi.bounds c hc
      have hcap := hi.cap
      have hsum : c ≠ a → m.b a + m.b c ≤ T := by
        intro hne
        have := sumTo_upd m.b a 0 ha
        have h2 := sumTo_le (upd m.b a 0) hc
        rw [upd_other _ _ hne] at h2
        have := hi.sum
        omega
      by_cases hlt : m.b a < n
      · rw [if_pos hlt]
        obtain ⟨B, hB⟩ : ∃ B, B = m.b a := ⟨_, rfl⟩
        simp only [u64] at b1
        rw [← hB] at b1 hlt
        clear hi hsum hB hp hq haa hcc
        go_enter Try.func42, Try.ntmps42
        go_wp2_with fail
        refine hofp.out.mono ?_
        rintro e w' ⟨rfl, rfl⟩
        go_wp2_with fail
        refine hofq.out.mono ?_
        rintro e w' ⟨rfl, rfl⟩
        go_wp2
        go_ret
        exact ⟨rfl, h, Only.refl _ _⟩
      · rw [if_neg hlt]
        have hL1 := h.setB (y := m.b a - n) (z := (m.b a : Int) - (n : Int)) ha (by omega)
        obtain ⟨e1, e2⟩ := hL1.cb c hc
        simp only [u64] at e1 b1
        have hD : upd m.b a (m.b a - n) c + n ≤ T := by
          by_cases e : c = a
          · subst e; rw [upd_same]; omega
          · rw [upd_other _ _ e]; have := hsum e; omega
        have hL2 := hid (hL1.setB (y := upd m.b a (m.b a - n) c + n) (z := ((upd m.b a (m.b a - n) c : Nat) : Int) + (n : Int)) hc (by omega))
        have hms : Hid (({ m with b := upd (upd m.b a (m.b a - n)) c (upd m.b a (m.b a - n) c + n) } : Lm) = m.move a c n) := hid rfl
        obtain ⟨D, hDD⟩ : ∃ D, D = upd m.b a (m.b a - n) c := ⟨_, rfl⟩
        simp only [← hDD] at e1 e2 hD hL2 hms
        obtain ⟨B, hB⟩ : ∃ B, B = m.b a := ⟨_, rfl⟩
        simp only [← hB] at b1 hlt e1 e2 hL2 hms q1
        have hle : n ≤ B := by omega
        clear hi hsum hB hp hq haa hcc hDD hL1
        go_enter Try.func42, Try.ntmps42
        go_wp2_with fail
        refine hofp.out.mono ?_
        rintro e w' ⟨rfl, rfl⟩
        go_wp2_with fail
        refine hofq.out.mono ?_
        rintro e w' ⟨rfl, rfl⟩
        go_wp2
        go_ret
        exact ⟨rfl, by rw [← hms.out]; exact hL2.out, ((Only.refl _ _).setCell (.inl (by simp)) _).setCell (.inl (by simp)) _⟩
    · rw [if_neg (fun hh => hq hh.2)]
      have hofq := hid (of_out w x ab mb m h hk q hq)
      clear hi hp hq haa
      go_enter Try.func42, Try.ntmps42
      go_wp2_with fail
      refine hofp.out.mono ?_
      rintro e w' ⟨rfl, rfl⟩
      go_wp2_with fail
      refine hofq.out.mono ?_
      rintro e w' ⟨rfl, rfl⟩
      go_wp2
      go_ret
      exact ⟨rfl, h, Only.refl _ _⟩
  · rw [if_neg (fun hh => hp hh.1)]
    have hofp := hid (of_out w x ab mb m h hk p hp)
    by_cases hq : m.is q
    · obtain ⟨hc, hce⟩ := is_nat hq
      obtain ⟨c, hcc⟩ : ∃ c, c = q.toNat := ⟨_, rfl⟩
      rw [← hcc] at hc hce
      subst hce
      have hofq := hid (of_in w x ab mb m h hk c hc)
      clear hi hp hq hcc
      go_enter Try.func42, Try.ntmps42
      go_wp2_with fail
      refine hofp.out.mono ?_
      rintro e w' ⟨rfl, rfl⟩
      go_wp2_with fail
      refine hofq.out.mono ?_
      rintro e w' ⟨rfl, rfl⟩
      go_wp2
      go_ret
      exact ⟨rfl, h, Only.refl _ _⟩
    · have hofq := hid (of_out w x ab mb m h hk q hq)
      clear hi hp hq
      go_enter Try.func42, Try.ntmps42
      go_wp2_with fail
      refine hofp.out.mono ?_
      rintro e w' ⟨rfl, rfl⟩
      go_wp2_with fail
      refine hofq.out.mono ?_
      rintro e w' ⟨rfl, rfl⟩
      go_wp2
      go_ret
      exact ⟨rfl, h, Only.refl _ _⟩
end Go.Proofs.Ytiinfiaemiaamaa.Sh
