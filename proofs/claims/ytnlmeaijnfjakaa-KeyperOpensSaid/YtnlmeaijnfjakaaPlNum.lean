/- Numbers and texts: what was laid is read; what is read was laid so; what is cut is too short: plain. -/
import Derived.Test.YtnlmeaijnfjakaaCodecJ
namespace Go.Proofs.Ytnlmeaijnfjakaa.Sh
set_option linter.unusedSimpArgs false
set_option linter.unusedVariables false
open Go Go.RowKit

theorem numF_numB (r : List UInt8) : ∀ (m n i acc : Nat), n ≤ m → (0 < i → 0 < n) → n * 128 ^ i < 18446744073709551616 → numF i acc (numB n ++ r) = (0, acc + n * 128 ^ i, r) := by
  intro m
  induction m with
  | zero =>
    intro n i acc hn hi hlt
    obtain rfl : n = 0 := by omega
    have : i = 0 := by
      rcases Nat.eq_zero_or_pos i with h | h
      · exact h
      · have := hi h; omega
    subst this
    rw [numB, if_pos (by omega)]
    simp [numF]
  | succ m ih =>
    intro n i acc hn hi hlt
    by_cases h9 : 9 ≤ i
    · have hp : 128 ^ 9 ≤ 128 ^ i := Nat.pow_le_pow_right (by omega) h9
      have hn1 : n ≤ 1 := by
        rcases Nat.lt_or_ge n 2 with h | h
        · omega
        · have : 2 * 128 ^ i ≤ n * 128 ^ i := Nat.mul_le_mul_right _ h
          have e9 : (128 : Nat) ^ 9 = 9223372036854775808 := by decide
          omega
      have hn0 := hi (by omega)
      obtain rfl : n = 1 := by omega
      rw [numB, if_pos (by omega)]
      have : i ≤ 9 := by
        rcases Nat.lt_or_ge 9 i with h | h
        · have : 128 ^ 10 ≤ 128 ^ i := Nat.pow_le_pow_right (by omega) h
          have e10 : (128 : Nat) ^ 10 = 1180591620717411303424 := by decide
          omega
        · exact h
      obtain rfl : i = 9 := by omega
      simp [numF]
    · by_cases h128 : n < 128
      · have hb : (UInt8.ofNat n).toNat = n := by rw [UInt8.toNat_ofNat']; omega
        rw [numB, if_pos h128, List.singleton_append, numF, hb, if_neg (by omega), if_pos h128]
      · have hb : (UInt8.ofNat (n % 128 + 128)).toNat = n % 128 + 128 := by rw [UInt8.toNat_ofNat']; omega
        rw [numB, if_neg h128, List.cons_append, numF, hb, if_neg (by omega), if_neg (by omega)]
        have hps : 128 ^ (i + 1) = 128 ^ i * 128 := Nat.pow_succ 128 i
        have hle : n / 128 * 128 ^ (i + 1) ≤ n * 128 ^ i := by
          rw [hps, ← Nat.mul_assoc, Nat.mul_right_comm]
          exact Nat.mul_le_mul_right _ (by omega)
        rw [ih (n / 128) (i + 1) _ (by omega) (by omega) (by omega)]
        congr 2
        rw [show (n % 128 + 128) % 128 = n % 128 by omega, hps, ← Nat.mul_assoc, Nat.mul_right_comm, Nat.add_assoc, ← Nat.add_mul]
        congr 2
        omega

theorem numL_numB (most n : Nat) (r : List UInt8) (hm : n ≤ most) (hn : n < 18446744073709551616) : numL most (numB n ++ r) = (0, n, r) := by
  have h := numF_numB r n n 0 0 (Nat.le_refl _) (by omega) (by omega)
  simp only [Nat.pow_zero, Nat.mul_one, Nat.zero_add] at h
  unfold numL
  rw [h, if_neg (by simp only; omega)]

theorem numF_inv (l : List UInt8) : ∀ (i acc : Nat), (numF i acc l).1 = 0 → ∃ n, (numF i acc l).2.1 = acc + n * 128 ^ i ∧ l = numB n ++ (numF i acc l).2.2 ∧ (0 < i → 0 < n) := by
  induction l with
  | nil => intro i acc h; simp [numF] at h
  | cons b r ih =>
    intro i acc h
    have hb := UInt8.toNat_lt b
    rw [numF] at h ⊢
    by_cases hbad : (i = 9 ∧ 1 < b.toNat) ∨ (0 < i ∧ b.toNat = 0)
    · rw [if_pos hbad] at h; cases h
    · rw [if_neg hbad] at h ⊢
      by_cases h128 : b.toNat < 128
      · rw [if_pos h128] at h ⊢
        refine ⟨b.toNat, rfl, ?_, by omega⟩
        rw [numB, if_pos h128, UInt8.ofNat_toNat]
        rfl
      · rw [if_neg h128] at h ⊢
        obtain ⟨n, h1, h2, h3⟩ := ih _ _ h
        have h3 := h3 (by omega)
        refine ⟨b.toNat % 128 + 128 * n, ?_, ?_, by omega⟩
        · rw [h1, Nat.add_mul, Nat.pow_succ, Nat.add_assoc]
          congr 2
          rw [Nat.mul_comm (128 ^ i) 128, ← Nat.mul_assoc, Nat.mul_comm n 128]
        · rw [numB, if_neg (by omega), show (b.toNat % 128 + 128 * n) % 128 + 128 = b.toNat by omega, show (b.toNat % 128 + 128 * n) / 128 = n by omega, UInt8.ofNat_toNat]
          exact congrArg (b :: ·) h2

theorem numL_inv (most : Nat) (l : List UInt8) (h : (numL most l).1 = 0) : l = numB (numL most l).2.1 ++ (numL most l).2.2 := by
  unfold numL at h ⊢
  split at h
  · cases h
  · rename_i hn
    rw [if_neg hn]
    obtain ⟨n, h1, h2, _⟩ := numF_inv l 0 0 h
    rw [h1]
    simpa using h2

theorem numF_cut : ∀ (m n i acc k : Nat), n ≤ m → (0 < i → 0 < n) → n * 128 ^ i < 18446744073709551616 → k < (numB n).length → (numF i acc ((numB n).take k)).1 = 2 := by
  intro m
  induction m with
  | zero =>
    intro n i acc k hn hi hlt hk
    obtain rfl : n = 0 := by omega
    rw [numB, if_pos (by omega)] at hk
    simp at hk
    subst hk
    rfl
  | succ m ih =>
    intro n i acc k hn hi hlt hk
    cases k with
    | zero => rfl
    | succ k =>
      by_cases h128 : n < 128
      · rw [numB, if_pos h128] at hk
        simp at hk
      · have hb : (UInt8.ofNat (n % 128 + 128)).toNat = n % 128 + 128 := by rw [UInt8.toNat_ofNat']; omega
        have h9 : i ≠ 9 := by
          rintro rfl
          have : 128 * 128 ^ 9 ≤ n * 128 ^ 9 := Nat.mul_le_mul_right _ (by omega)
          have e9 : (128 : Nat) ^ 9 = 9223372036854775808 := by decide
          omega
        rw [numB, if_neg h128] at hk ⊢
        rw [List.take_succ_cons, numF, hb, if_neg (by omega), if_neg (by omega)]
        have hps : 128 ^ (i + 1) = 128 ^ i * 128 := Nat.pow_succ 128 i
        have hle : n / 128 * 128 ^ (i + 1) ≤ n * 128 ^ i := by
          rw [hps, ← Nat.mul_assoc, Nat.mul_right_comm]
          exact Nat.mul_le_mul_right _ (by omega)
        exact ih (n / 128) (i + 1) _ k (by omega) (by omega) (by omega) (by simpa using hk)

theorem numL_cut (most n k : Nat) (hn : n < 18446744073709551616) (hk : k < (numB n).length) : (numL most ((numB n).take k)).1 = 2 := by
  have h := numF_cut n n 0 0 k (Nat.le_refl _) (by omega) (by omega) hk
  unfold numL
  rw [if_neg (by rw [h]; simp)]
  exact h

/-- A text, laid. -/
def textB (s : List UInt8) : List UInt8 := numB s.length ++ s

theorem textL_textB (most : Nat) (s r : List UInt8) (hm : s.length ≤ most) (hn : s.length < 18446744073709551616) : textL most (textB s ++ r) = (0, s, r) := by
  have h := numL_numB most s.length (s ++ r) hm hn
  unfold textL textB
  rw [List.append_assoc, h]
  simp

theorem textL_inv (most : Nat) (l : List UInt8) (h : (textL most l).1 = 0) : l = textB (textL most l).2.1 ++ (textL most l).2.2 := by
  unfold textL at h ⊢
  split at h
  · rename_i h1; exact absurd h h1
  · rename_i h1
    rw [if_neg h1]
    simp only [ne_eq, Decidable.not_not] at h1
    have hi := numL_inv most l h1
    split at h
    · cases h
    · rename_i h2
      rw [if_neg h2]
      unfold textB
      simp only [List.append_assoc, List.take_append_drop, List.length_take]
      rw [Nat.min_eq_left (by omega)]
      exact hi

theorem textL_cut (most k : Nat) (s : List UInt8) (hm : s.length ≤ most) (hn : s.length < 18446744073709551616) (hk : k < (textB s).length) : (textL most ((textB s).take k)).1 = 2 := by
  unfold textB at hk ⊢
  by_cases h : k < (numB s.length).length
  · rw [List.take_append_of_le_length (by omega)]
    have := numL_cut most s.length k hn h
    unfold textL
    rw [if_pos (by rw [this]; simp)]
    exact this
  · rw [List.take_append, List.take_of_length_le (show (numB s.length).length ≤ k by omega)]
    have h2 := numL_numB most s.length (s.take (k - (numB s.length).length)) hm hn
    unfold textL
    rw [h2]
    rw [if_neg (by simp), if_pos]
    simp at hk ⊢
    omega
end Go.Proofs.Ytnlmeaijnfjakaa.Sh
