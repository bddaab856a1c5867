/- Rates as floats: the words of a quotient. -/
import Derived.Test.YtejilfhoeljhkaaTrA
namespace Go.Proofs.Ytejilfhoeljhkaa.Sh
open Ieee

/-- What a significand of so many digits is. -/
def sig (n : Nat) : Nat := n * 2 ^ (52 - n.log2)

theorem log2_bounds {n k : Nat} (h1 : 0 < n) (h2 : n < 2 ^ (k + 1)) : n.log2 ≤ k ∧ 2 ^ n.log2 ≤ n ∧ n < 2 ^ (n.log2 + 1) :=
  ⟨by have := (Nat.log2_lt (by omega)).2 h2; omega, Nat.log2_self_le (by omega), Nat.lt_log2_self⟩

theorem sig_bounds {n : Nat} (h1 : 0 < n) (h2 : n < 2 ^ 53) : 2 ^ 52 ≤ sig n ∧ sig n < 2 ^ 53 := by
  obtain ⟨a, b, c⟩ := log2_bounds (k := 52) h1 h2
  unfold sig
  constructor
  · calc 2 ^ 52 = 2 ^ n.log2 * 2 ^ (52 - n.log2) := by rw [← Nat.pow_add]; congr 1; omega
      _ ≤ _ := Nat.mul_le_mul_right _ b
  · calc n * 2 ^ (52 - n.log2) < 2 ^ (n.log2 + 1) * 2 ^ (52 - n.log2) := Nat.mul_lt_mul_of_pos_right c (Nat.two_pow_pos _)
      _ = 2 ^ 53 := by rw [← Nat.pow_add]; congr 1; omega

theorem log2_of {n k : Nat} (h1 : 2 ^ k ≤ n) (h2 : n < 2 ^ (k + 1)) : n.log2 = k := by
  have h0 : 0 < n := Nat.lt_of_lt_of_le (Nat.two_pow_pos k) h1
  have a := (Nat.log2_lt (by omega)).2 h2
  have b := (Nat.le_log2 (by omega)).2 h1
  omega

theorem word_eq {rung : Nat} : Ieee.double.word false rung = rung := by simp [Format.word]

theorem cut_zero (n : Nat) : Toward.even.cut false n 0 = n := by
  simp [Toward.cut, Nat.mod_one]

theorem cut_rne (n k : Nat) (hk : k ≤ n.log2 + 2) : Toward.even.cut false n k = rne n (2 ^ k) := by
  have h : (1 <<< min k (n.log2 + 2)) = 2 ^ k := by rw [Nat.min_eq_left hk, Nat.shiftLeft_eq, Nat.one_mul]
  unfold Toward.cut rne
  simp only [h]
  congr 1
  by_cases h1 : 2 ^ k < 2 * (n % 2 ^ k)
  · simp [h1]
  · by_cases h2 : 2 ^ k = 2 * (n % 2 ^ k) ∧ n / 2 ^ k % 2 = 1
    · simp [h1, ← h2.1, h2.2]
    · simp only [h1, decide_false, Bool.false_or, false_or, h2, if_false]
      cases hx : (2 ^ k == 2 * (n % 2 ^ k) && n / 2 ^ k % 2 == 1) with
      | true => exact absurd (by simpa [Bool.and_eq_true, beq_iff_eq] using hx) h2
      | false => rfl

theorem hlp : Ieee.double.leastPlace = -1074 := by decide
theorem hfb : Ieee.double.fractionBits = 52 := rfl
theorem hbi : Ieee.double.binade = 2 ^ 52 := rfl
theorem hin : Ieee.double.infRung = 2047 * 2 ^ 52 := by decide
theorem near_eq (m : Nat) (p : Int) (hm : m ≠ 0) (last : Int) (hl : max (p + (m.log2 : Int) - (52 : Nat)) (-1074) = last) (x y z : Nat) (hx : (p - last).toNat = x) (hy : (last - p).toNat = y) (hz : (last - -1074).toNat = z) (T : Nat) (hT : 2 ^ 52 = T) :
    Ieee.double.nearest false m p = min (z * T + Toward.even.cut false (m <<< x) y) (2047 * T) := by
  unfold Format.nearest
  rw [if_neg hm, hlp, hfb, hbi, hin, hT]
  simp only [hl, hx, hy, hz]
  exact word_eq

/-- The word of a whole number. -/
theorem fl_word {n : Nat} (h1 : 0 < n) (h2 : n < 2 ^ 53) : Ieee.double.nearest false n 0 = (n.log2 + 1022) * 2 ^ 52 + sig n := by
  obtain ⟨a, b, c⟩ := log2_bounds (k := 52) h1 h2
  obtain ⟨s1, s2⟩ := sig_bounds h1 h2
  obtain ⟨T, hT⟩ : ∃ T, 2 ^ 52 = T := ⟨_, rfl⟩
  rw [near_eq n 0 (by omega) ((n.log2 : Int) - 52) (by omega) (52 - n.log2) 0 (n.log2 + 1022) (by omega) (by omega) (by omega) T hT, cut_zero, Nat.shiftLeft_eq, hT]
  have h3 : (n.log2 + 1022) * T ≤ 1074 * T := Nat.mul_le_mul_right _ (by omega)
  have h4 : sig n < 2 * T := by omega
  unfold sig at h4 ⊢
  exact Nat.min_eq_left (by omega)

/-- What a word reads as. -/
theorem read_word {r : Nat} (h : r < 2047 * 2 ^ 52) : Ieee.double.read r = if r < 2 ^ 52 then .number false r (-1074) else .number false (2 ^ 52 + r % 2 ^ 52) (-1074 + (r / 2 ^ 52 - 1 : Nat)) := by
  have hsw : Ieee.double.signWeight = 2 ^ 63 := rfl
  unfold Format.read
  rw [hlp, hbi, hin, hsw]
  have e1 : r / 2 ^ 63 = 0 := by omega
  have e2 : r % 2 ^ 63 = r := by omega
  simp only [e1, e2]
  by_cases h1 : r < 2 ^ 52
  · rw [if_pos h1, if_pos h1]; rfl
  · rw [if_neg h1, if_neg h1, if_pos h]; rfl

theorem fl_read {n : Nat} (h1 : 0 < n) (h2 : n < 2 ^ 53) : Ieee.double.read (Ieee.double.nearest false n 0) = .number false (sig n) ((n.log2 : Int) - 52) := by
  obtain ⟨a, b, c⟩ := log2_bounds (k := 52) h1 h2
  obtain ⟨s1, s2⟩ := sig_bounds h1 h2
  rw [fl_word h1 h2, read_word (by omega), if_neg (by omega)]
  congr 1 <;> omega

theorem nearest_zero (p : Int) : Ieee.double.nearest false 0 p = 0 := by simp [Format.nearest, Format.word]

/-- The digits of a quotient. -/
def mag (a i : Nat) : Nat := 2 * (sig a * 2 ^ 54 / sig i) + (if sig a * 2 ^ 54 % sig i = 0 then 0 else 1)

theorem quot_eq {a i : Nat} (ha : 0 < a) (ha2 : a < 2 ^ 53) (hi : 0 < i) (hi2 : i < 2 ^ 53) :
    Ieee.double.div (Ieee.double.nearest false a 0) (Ieee.double.nearest false i 0) = some (Ieee.double.nearest false (mag a i) ((a.log2 : Int) - i.log2 - 55)) := by
  obtain ⟨s1, s2⟩ := sig_bounds ha ha2
  obtain ⟨t1, t2⟩ := sig_bounds hi hi2
  have l1 : (sig a).log2 = 52 := log2_of s1 s2
  have l2 : (sig i).log2 = 52 := log2_of t1 t2
  have hne : sig i ≠ 0 := by omega
  unfold Format.div
  rw [fl_read ha ha2, fl_read hi hi2, hfb]
  simp only [Datum.quotient, hne, if_false, l1, l2, Option.map_some, Format.write, Nat.shiftLeft_eq]
  have e : ((a.log2 : Int) - 52 - ((i.log2 : Int) - 52) - ((52 + 2 + 52 - 52 : Nat) : Int) - 1) = (a.log2 : Int) - i.log2 - 55 := by omega
  rw [e]
  have m : 2 * (sig a * 2 ^ (52 + 2 + 52 - 52) / sig i) + (sig a * 2 ^ (52 + 2 + 52 - 52) % sig i != 0).toNat = mag a i := by
    unfold mag
    congr 1
    by_cases h : sig a * 2 ^ 54 % sig i = 0
    · rw [if_pos h]; simp only [Nat.reduceAdd, Nat.reduceSub, h]; rfl
    · rw [if_neg h]; simp only [Nat.reduceAdd, Nat.reduceSub, bne, beq_eq_false_iff_ne.2 h]; rfl
  rw [m]
  rfl

theorem mag_bounds {a i : Nat} (ha : 0 < a) (ha2 : a < 2 ^ 53) (hi : 0 < i) (hi2 : i < 2 ^ 53) : 2 ^ 54 ≤ mag a i ∧ mag a i < 2 ^ 56 := by
  obtain ⟨s1, s2⟩ := sig_bounds ha ha2
  obtain ⟨t1, t2⟩ := sig_bounds hi hi2
  have q1 : 2 ^ 53 ≤ sig a * 2 ^ 54 / sig i := by
    rw [Nat.le_div_iff_mul_le (by omega)]; omega
  have q2 : sig a * 2 ^ 54 / sig i < 2 ^ 55 := by
    rw [Nat.div_lt_iff_lt_mul (by omega)]; omega
  unfold mag
  split <;> omega

/-- The word of a rate, by the power of two that brings the quotient to 53 digits. -/
theorem rate_word {a i : Nat} (ha : 0 < a) (ha2 : a < 2 ^ 32) (hi : 0 < i) (hi2 : i < 2 ^ 9) :
    ∃ k, k ≤ 1000 ∧ 2 ^ 52 * i ≤ a * 2 ^ k ∧ a * 2 ^ k < 2 ^ 53 * i ∧
      Ieee.double.div (Ieee.double.nearest false a 0) (Ieee.double.nearest false i 0) = some ((1074 - k) * 2 ^ 52 + rne (a * 2 ^ k) i) := by
  have ha3 : a < 2 ^ 53 := by omega
  have hi3 : i < 2 ^ 53 := by omega
  obtain ⟨a1, _, _⟩ := log2_bounds (k := 31) ha ha2
  obtain ⟨b1, _, _⟩ := log2_bounds (k := 8) hi hi2
  obtain ⟨t1, t2⟩ := sig_bounds hi hi3
  obtain ⟨m1, m2⟩ := mag_bounds ha ha3 hi hi3
  rw [quot_eq ha ha3 hi hi3]
  obtain ⟨s, hs, g1, g2⟩ : ∃ s, (s = 54 ∨ s = 55) ∧ 2 ^ s ≤ mag a i ∧ mag a i < 2 ^ (s + 1) := by
    by_cases h : mag a i < 2 ^ 55
    · exact ⟨54, .inl rfl, m1, h⟩
    · exact ⟨55, .inr rfl, by omega, m2⟩
  have hs2 : 54 ≤ s ∧ s ≤ 55 := by omega
  have hl : (mag a i).log2 = s := log2_of g1 g2
  obtain ⟨k, hk⟩ : ∃ k, k + s + a.log2 = 107 + i.log2 := ⟨107 + i.log2 - s - a.log2, by omega⟩
  -- the common factor
  obtain ⟨c, hc⟩ : ∃ c, c = 2 ^ (s - i.log2) := ⟨_, rfl⟩
  have hc0 : 0 < c := by rw [hc]; exact Nat.two_pow_pos _
  have f1 : 2 * (sig a * 2 ^ 54) = a * 2 ^ k * c := by
    unfold sig
    have : 2 * (a * 2 ^ (52 - a.log2) * 2 ^ 54) = a * (2 ^ (52 - a.log2) * 2 ^ 54 * 2) := by ac_rfl
    have p : 2 ^ (52 - a.log2) * 2 ^ 54 * 2 = 2 ^ k * c := by
      rw [hc, ← Nat.pow_add, ← Nat.pow_succ, ← Nat.pow_add]
      congr 1
      omega
    rw [this, p, Nat.mul_assoc]
  have f2 : sig i * 2 ^ (s - 52) = i * c := by
    unfold sig
    rw [hc, Nat.mul_assoc, ← Nat.pow_add]
    congr 2
    omega
  have f3 : 2 ^ s * sig i = 2 ^ 52 * i * c := by
    have : 2 ^ 52 * i * c = 2 ^ 52 * (i * c) := Nat.mul_assoc _ _ _
    rw [this, ← f2]
    have h : 2 ^ s = 2 ^ 52 * 2 ^ (s - 52) := by rw [← Nat.pow_add]; congr 1; omega
    rw [h]
    ac_rfl
  have hsi : 0 < sig i := by omega
  have e := Nat.div_add_mod (sig a * 2 ^ 54) (sig i)
  have r := Nat.mod_lt (sig a * 2 ^ 54) hsi
  -- the quotient's bounds
  have hev : 2 ^ s = 2 * 2 ^ (s - 1) := by rw [← Nat.pow_succ']; congr 1; omega
  have hev2 : 2 ^ (s + 1) = 2 * 2 ^ s := Nat.pow_succ'
  have lo : 2 ^ (s - 1) ≤ sig a * 2 ^ 54 / sig i := by
    unfold mag at g1
    split at g1 <;> omega
  have up : sig a * 2 ^ 54 / sig i + 1 ≤ 2 ^ s := by
    unfold mag at g2
    split at g2 <;> omega
  have lo2 : 2 ^ s * sig i ≤ 2 * (sig a * 2 ^ 54) := by
    have h := Nat.mul_le_mul_left (sig i) lo
    have h2 : 2 ^ s * sig i = 2 * (sig i * 2 ^ (s - 1)) := by rw [hev]; ac_rfl
    omega
  have up2 : 2 * (sig a * 2 ^ 54) < 2 * (2 ^ s * sig i) := by
    have h := Nat.mul_le_mul_left (sig i) up
    rw [Nat.mul_add, Nat.mul_one] at h
    have h2 : sig i * 2 ^ s = 2 ^ s * sig i := Nat.mul_comm _ _
    omega
  refine ⟨k, by omega, ?_, ?_, ?_⟩
  · rw [f1, f3] at lo2
    exact Nat.le_of_mul_le_mul_right lo2 hc0
  · rw [f1, f3] at up2
    have h : 2 * (2 ^ 52 * i * c) = 2 ^ 53 * i * c := by
      rw [show (2 : Nat) ^ 53 = 2 * 2 ^ 52 from rfl]; ac_rfl
    rw [h] at up2
    exact Nat.lt_of_mul_lt_mul_right up2
  · congr 1
    have hcut : Toward.even.cut false (mag a i) (s - 52) = rne (a * 2 ^ k) i := by
      rw [cut_rne _ _ (by omega)]
      unfold mag
      rw [rne_sticky _ _ _ hsi (by omega), f1, f2, rne_scale _ _ _ hi hc0]
    have hrle : rne (a * 2 ^ k) i ≤ 2 ^ 53 := by
      rw [← hcut, cut_rne _ _ (by omega)]
      have := rne_le (mag a i) (2 ^ (s - 52))
      have hd : mag a i / 2 ^ (s - 52) < 2 ^ 53 := by
        rw [Nat.div_lt_iff_lt_mul (Nat.two_pow_pos _), ← Nat.pow_add]
        have : 53 + (s - 52) = s + 1 := by omega
        rw [this]; exact g2
      omega
    obtain ⟨T, hT⟩ : ∃ T, 2 ^ 52 = T := ⟨_, rfl⟩
    rw [near_eq (mag a i) _ (by omega) ((a.log2 : Int) - i.log2 - 107 + s) (by rw [hl]; omega) 0 (s - 52) (1074 - k) (by omega) (by omega) (by omega) T hT, Nat.shiftLeft_zero, hcut, hT]
    have h3 : (1074 - k) * T ≤ 1074 * T := Nat.mul_le_mul_right _ (by omega)
    have h4 : rne (a * 2 ^ k) i ≤ 2 * T := by omega
    exact Nat.min_eq_left (by omega)
end Go.Proofs.Ytejilfhoeljhkaa.Sh
