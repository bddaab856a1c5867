/- The program's ledger: fees, deposits, the treasury, the total: walked. -/
import Derived.Test.YtiinfiaemiaamaaLedE
namespace Go.Proofs.Ytiinfiaemiaamaa.Sh
open Go Go.RowKit

set_option maxRecDepth 20000 in
theorem fees_any (w : World) (x ab mb T : Nat) (m : Lm) (h : Led w x ab mb m) (hi : LInv T m) :
    Calls Try.prog 19 #[.pointer (some ⟨x, 0, none⟩)] w fun e w' => e = .returned (u64 (sumTo m.k m.f)) ∧ Only [] w w' := by
  have ha := hid (all_any w x ab mb T m h hi)
  have hfl : ∀ (a b : Value) (w : World), (Instr.field 82 (.agg #[a, b]) 0).run Try.prog w = .ok a w := fun a b w => by kernel_rfl
  clear hi
  go_enter Try.func19, Try.ntmps19
  go_wp2_with fail
  refine ha.out.mono ?_
  rintro e w' ⟨rfl, ho⟩
  go_wp2
  go_ret
  exact ⟨rfl, ho⟩
set_option maxRecDepth 20000 in
theorem deposits_any (w : World) (x ab mb T : Nat) (m : Lm) (h : Led w x ab mb m) (hi : LInv T m) :
    Calls Try.prog 20 #[.pointer (some ⟨x, 0, none⟩)] w fun e w' => e = .returned (u64 (sumTo m.k m.d)) ∧ Only [] w w' := by
  have ha := hid (all_any w x ab mb T m h hi)
  have hfl : ∀ (a b : Value) (w : World), (Instr.field 82 (.agg #[a, b]) 1).run Try.prog w = .ok b w := fun a b w => by kernel_rfl
  clear hi
  go_enter Try.func20, Try.ntmps20
  go_wp2_with fail
  refine ha.out.mono ?_
  rintro e w' ⟨rfl, ho⟩
  go_wp2
  go_ret
  exact ⟨rfl, ho⟩
theorem treasury_any (w : World) (x ab mb : Nat) (m : Lm) (h : Led w x ab mb m) :
    Calls Try.prog 24 #[.pointer (some ⟨x, 0, none⟩)] w fun e w' => e = .returned (u64 m.t) ∧ w' = w := by
  obtain ⟨t1, t2⟩ := h.tr
  go_enter Try.func24, Try.ntmps24
  go_wp2
  go_ret
  exact ⟨rfl, rfl⟩

set_option maxRecDepth 20000 in
set_option maxHeartbeats 1600000 in
theorem total_any (w : World) (x ab mb T : Nat) (m : Lm) (h : Led w x ab mb m) (hi : LInv T m) :
    Calls Try.prog 40 #[.pointer (some ⟨x, 0, none⟩)] w fun e w' => e = .returned (u64 T) ∧ Only [] w w' := by
  have hfe := hid (fun w' (h' : Led w' x ab mb m) => fees_any w' x ab mb T m h' hi)
  have hde := hid (fun w' (h' : Led w' x ab mb m) => deposits_any w' x ab mb T m h' hi)
  have htr := hid (fun w' (h' : Led w' x ab mb m) => treasury_any w' x ab mb m h')
  have hsum := hi.sum
  have hcap := hi.cap
  have hk6 := hi.few.2
  obtain ⟨F, hF⟩ : ∃ F, F = sumTo m.k m.f := ⟨_, rfl⟩
  obtain ⟨D, hD⟩ : ∃ D, D = sumTo m.k m.d := ⟨_, rfl⟩
  obtain ⟨t, ht⟩ : ∃ t, t = m.t := ⟨_, rfl⟩
  rw [← hF] at hfe hsum
  rw [← hD] at hde hsum
  rw [← ht] at htr hsum
  have hle : ∀ j, j < m.k → F + D + t + (sumTo j m.b + m.b j) ≤ T := by
    intro j hj
    have h1 : ∀ k, j < k → sumTo (j + 1) m.b ≤ sumTo k m.b := by
      intro k
      induction k with
      | zero => intro h; omega
      | succ k ih =>
        intro h
        by_cases e : j = k
        · subst e; exact Nat.le_refl _
        · have := ih (by omega); simp only [sumTo] at this ⊢; omega
    have := h1 m.k hj
    simp only [sumTo] at this
    omega
  have HLE := hid hle
  have HS := hid (show F + D + t + sumTo m.k m.b = T by omega)
  have hb3 : F + D + t ≤ T := by omega
  clear hi hF hD ht hle hsum
  go_enter Try.func40, Try.ntmps40
  go_wp2_with fail
  refine (hfe.out _ h).mono ?_
  rintro e w1 ⟨rfl, ho1⟩
  have h1 := h.kept0 ho1
  go_wp2_with fail
  refine (hde.out _ h1).mono ?_
  rintro e w2 ⟨rfl, ho2⟩
  have h2 := h1.kept0 ho2
  go_wp2_with fail
  refine (htr.out _ h2).mono ?_
  rintro e w' ⟨rfl, rfl⟩
  have how2 := ho1.trans0 ho2
  obtain ⟨cap, a1, a2, a3⟩ := h2.acc
  go_wp2_with fail
  go_loopw [3, 21] (fun n i wr => ∃ k : Nat, k ≤ m.k ∧ i = .int .i64 k ∧ ∃ S : Nat, Hid (S = F + D + t + sumTo k m.b) ∧ n = .int .u64 (S : Int) ∧ Only [] w wr) (fun _ i _ => m.k - (intOf i).toNat)
  case atStart => exact ⟨0, Nat.zero_le _, rfl, F + D + t, hid rfl, by go_num, how2⟩
  case round =>
    obtain ⟨k, hk, rfl, S, hS, rfl, ho⟩ := hrel
    have hLr := h.kept0 ho
    by_cases hlt : k < m.k
    · obtain ⟨b1, b2⟩ := hLr.cb k hlt
      obtain ⟨n1, n2⟩ := hLr.cn k hlt
      have hb := HLE.out k hlt
      obtain ⟨B, hB⟩ : ∃ B, B = m.b k := ⟨_, rfl⟩
      obtain ⟨N, hN⟩ : ∃ N, N = m.n k := ⟨_, rfl⟩
      simp only [u64] at b1 n1
      have hSB : S + B ≤ T := by have := hS.out; rw [hB]; omega
      have hS' : Hid (S + B = F + D + t + sumTo (k + 1) m.b) := by have := hS.out; show _ = _; rw [hB, sumTo]; omega
      rw [← hB] at b1
      rw [← hN] at n1
      clear hb hB hN hS
      go_wp2_with fail
      go_roundw
      case rel => exact ⟨k + 1, by omega, by go_num, S + B, hS', by go_num, ho.alloc _⟩
      case measure => simp [intOf]; omega
    · obtain rfl : k = m.k := by omega
      have hST : Hid (S = T) := by have := hS.out; have := HS.out; show _ = _; omega
      go_wp2
      go_ret
      exact ⟨by rw [hST.out]; rfl, ho⟩
end Go.Proofs.Ytiinfiaemiaamaa.Sh
