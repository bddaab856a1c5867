/- The program's ledger: what was held back goes; money moves; turns: walked. -/
import Derived.Test.YtiinfiaemiaamaaLedB
namespace Go.Proofs.Ytiinfiaemiaamaa.Sh
open Go Go.RowKit

theorem back_no (w : World) (x ab mb : Nat) (m : Lm) (h : Led w x ab mb m) (hk : m.k ≤ 6) (who : Int) (fee : Nat) (hw : ¬ m.is who) :
    Calls Try.prog 48 #[.pointer (some ⟨x, 0, none⟩), .int .i64 who, .int .u64 fee] w fun e w' => e = .returned (.tuple #[.pointer none, .int .i64 1]) ∧ w' = w := by
  have hof := hid (of_out w x ab mb m h hk who hw)
  clear hw
  go_enter Try.func48, Try.ntmps48
  go_wp2_with fail
  refine hof.out.mono ?_
  rintro e w' ⟨rfl, rfl⟩
  go_wp2
  go_ret2
  exact ⟨rfl, rfl⟩

set_option maxRecDepth 20000 in
set_option maxHeartbeats 1600000 in
theorem back_few (w : World) (x ab mb T : Nat) (m : Lm) (h : Led w x ab mb m) (hi : LInv T m) (a : Nat) (ha : a < m.k) (fee : Nat) (hfee : fee < 18446744073709551616) (hbad : m.f a < fee ∨ m.d a = 0) :
    Calls Try.prog 48 #[.pointer (some ⟨x, 0, none⟩), .int .i64 (a : Int), .int .u64 fee] w fun e w' => e = .returned (.tuple #[.pointer none, .int .i64 9]) ∧ Led w' x ab mb m ∧ Only [x, ab, mb] w w' := by
  have hk := hi.few.2
  have hof := hid (of_in w x ab mb m h hk a ha)
  have hmp := h.mp
  have hlk := h.held.look ha hk
  obtain ⟨_, q2, q3, _⟩ := hi.bounds a ha
  have hcap := hi.cap
  obtain ⟨F, hF⟩ : ∃ F, F = m.f a := ⟨_, rfl⟩
  obtain ⟨D, hD⟩ : ∃ D, D = m.d a := ⟨_, rfl⟩
  simp only [← hF, ← hD, u64] at hlk
  rw [← hF] at q2 hbad
  rw [← hD] at q3 hbad
  have hL2 := h.kept0 ((Only.refl [] w).alloc (Obj.cells #[.int .u64 (F : Int), .int .u64 (D : Int)] 82))
  have hO2 : Only [x, ab, mb] w (w.alloc (Obj.cells #[.int .u64 (F : Int), .int .u64 (D : Int)] 82)) := (Only.refl _ _).alloc _
  replace hL2 := hid hL2
  clear hi hF hD
  by_cases hlt : F < fee
  · clear hbad
    go_enter Try.func48, Try.ntmps48
    go_wp2_with fail
    refine hof.out.mono ?_
    rintro e w' ⟨rfl, rfl⟩
    go_wp2_with (at_lookup; refine wpList_look rfl _ _ _ _ rfl rfl rfl hlk ?_)
    go_ret2
    exact ⟨rfl, hL2.out, hO2⟩
  · obtain rfl : D = 0 := by omega
    simp only [Int.natCast_zero] at hlk hL2 hO2
    clear hbad
    go_enter Try.func48, Try.ntmps48
    go_wp2_with fail
    refine hof.out.mono ?_
    rintro e w' ⟨rfl, rfl⟩
    go_wp2_with (at_lookup; refine wpList_look rfl _ _ _ _ rfl rfl rfl hlk ?_)
    go_ret2
    exact ⟨rfl, hL2.out, hO2⟩

set_option maxRecDepth 20000 in
set_option maxHeartbeats 1600000 in
theorem back_ok (w : World) (x ab mb T : Nat) (m : Lm) (h : Led w x ab mb m) (hi : LInv T m) (a : Nat) (ha : a < m.k) (fee : Nat) (hf : fee ≤ m.f a) (hd : m.d a ≠ 0) :
    Calls Try.prog 48 #[.pointer (some ⟨x, 0, none⟩), .int .i64 (a : Int), .int .u64 fee] w fun e w' => e = .returned (.tuple #[.pointer (some ⟨ab, a * 2, none⟩), .int .i64 0]) ∧ Led w' x ab mb { m with f := upd m.f a (m.f a - fee), d := upd m.d a (m.d a - 50) } ∧ Only [x, ab, mb] w w' := by
  have hk := hi.few.2
  have hof := hid (of_in w x ab mb m h hk a ha)
  have hmp := h.mp
  have hlk := h.held.look ha hk
  obtain ⟨_, q2, q3, _⟩ := hi.bounds a ha
  have hcap := hi.cap
  have h50 : 50 ≤ m.d a := by
    obtain ⟨c, hc⟩ := hi.dep a ha
    omega
  obtain ⟨F, hF⟩ : ∃ F, F = m.f a := ⟨_, rfl⟩
  obtain ⟨D, hD⟩ : ∃ D, D = m.d a := ⟨_, rfl⟩
  simp only [← hF, ← hD, u64] at hlk
  rw [← hF] at q2 hf ⊢
  rw [← hD] at q3 h50 ⊢
  have hnf : ¬ F < fee := by omega
  have hnd : ¬ D < 50 := by omega
  clear hi hF hD hd
  go_enter Try.func48, Try.ntmps48
  go_wp2_with fail
  refine hof.out.mono ?_
  rintro e w' ⟨rfl, rfl⟩
  go_wp2_with (at_lookup; refine wpList_look rfl _ _ _ _ rfl rfl rfl hlk ?_)
  obtain ⟨w2, hw2⟩ : ∃ w2, w2 = w'.alloc (Obj.cells #[.int .u64 (F : Int), .int .u64 (D : Int)] 82) := ⟨_, rfl⟩
  have ho2 : Only [] w' w2 := by rw [hw2]; exact (Only.refl [] w').alloc _
  have hL2 := h.kept0 ho2
  have c0 : w2.cell? ⟨w'.heap.size, 0, none⟩ = some (.int .u64 (F : Int)) := by rw [hw2]; simp [go_sem]
  have c1 : w2.cell? ⟨w'.heap.size, 1, none⟩ = some (.int .u64 (D : Int)) := by rw [hw2]; simp [go_sem]
  have hmp2 := hL2.mp
  rw [← hw2]
  clear hw2
  have hwF : IntKind.u64.wrap ((F : Int) - (fee : Int)) = (F : Int) - (fee : Int) := by rw [IntKind.wrap_u64]; omega
  have hwD : IntKind.u64.wrap ((D : Int) - 50) = (D : Int) - 50 := by rw [IntKind.wrap_u64]; omega
  go_still_tail 13, (by kernel_rfl)
  change wpList _ _ _ _ _ w2.drew
  obtain ⟨w3, hr, hL3, ho3, hs3⟩ := hL2.drew.put (y := F - fee) (z := D - 50) ha hk
  simp only [u64, show ((F - fee : Nat) : Int) = (F : Int) - (fee : Int) by omega, show ((D - 50 : Nat) : Int) = (D : Int) - 50 by omega] at hr
  refine wpList_put rfl _ _ _ rfl rfl rfl rfl ⟨w3, hr, ?_⟩
  clear hr hwF hwD
  go_wp2
  go_ret2
  exact ⟨rfl, hL3, ho2.drew.trans ho3 (by simp) (by simp)⟩

set_option maxRecDepth 20000 in
set_option maxHeartbeats 1600000 in
theorem free_any (w : World) (x ab mb T : Nat) (m : Lm) (h : Led w x ab mb m) (hi : LInv T m) (who : Int) (fee : Nat) (hfee : fee < 18446744073709551616) :
    Calls Try.prog 21 #[.pointer (some ⟨x, 0, none⟩), .int .i64 who, .int .u64 fee] w (HoldPost w x ab mb m (backE m who fee true true)) := by
  have hk := hi.few.2
  unfold backE
  by_cases hw : m.is who
  · obtain ⟨ha, hae⟩ := is_nat hw
    rw [if_pos hw]
    obtain ⟨a, haa⟩ : ∃ a, a = who.toNat := ⟨_, rfl⟩
    rw [← haa] at ha hae ⊢
    subst hae
    clear haa hw
    by_cases hbad : m.f a < fee ∨ m.d a = 0
    · rw [if_pos hbad]
      have hb := hid (back_few w x ab mb T m h hi a ha fee hfee hbad)
      clear hbad hi
      go_enter Try.func21, Try.ntmps21
      go_wp2_with fail
      refine hb.out.mono ?_
      rintro e w' ⟨rfl, hL, ho⟩
      go_wp2
      go_ret
      exact ⟨rfl, hL, ho⟩
    · rw [if_neg hbad]
      have hf : fee ≤ m.f a := by omega
      have hd : m.d a ≠ 0 := by omega
      have hb := hid (back_ok w x ab mb T m h hi a ha fee hf hd)
      obtain ⟨q1, q2, q3, q4⟩ := hi.bounds a ha
      have hcap := hi.cap
      have hms : Hid (({ m with f := upd m.f a (m.f a - fee), d := upd m.d a (m.d a - 50), b := upd m.b a (m.b a + fee + 50) } : Lm) = m.back a fee true true) := by show _ = _; simp [Lm.back]
      clear hbad hd hi
      go_enter Try.func21, Try.ntmps21
      go_wp2_with fail
      refine hb.out.mono ?_
      rintro e w' ⟨rfl, hL, ho⟩
      have hL2 := hid (hL.setB (y := m.b a + fee + 50) (z := (m.b a : Int) + ((fee : Int) + 50)) ha (by omega))
      obtain ⟨b1, b2⟩ := hL.cb a ha
      obtain ⟨B, hB⟩ : ∃ B, B = m.b a := ⟨_, rfl⟩
      simp only [u64] at b1
      rw [← hB] at b1 q1 q4 hL2 hms
      clear hL hB
      go_wp2
      go_ret
      exact ⟨rfl, by rw [← hms.out]; exact hL2.out, ho.setCell (.inl (by simp)) _⟩
  · rw [if_neg hw]
    have hb := hid (back_no w x ab mb m h hk who fee hw)
    clear hw hi
    go_enter Try.func21, Try.ntmps21
    go_wp2_with fail
    refine hb.out.mono ?_
    rintro e w' ⟨rfl, rfl⟩
    go_wp2
    go_ret
    exact ⟨rfl, h, Only.refl _ _⟩
end Go.Proofs.Ytiinfiaemiaamaa.Sh
