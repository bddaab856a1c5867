/- Rates as floats: the plain law. The word of a / i, rounded, is monotone in the ratio. -/
import Derived.Laws.FloatArith
namespace Go.Proofs.Ytejilfhoeljhkaa.Sh
open Ieee

/-- n / d rounded to the nearest, ties to even. -/
def rne (n d : Nat) : Nat := n / d + (if d < 2 * (n % d) ∨ (d = 2 * (n % d) ∧ n / d % 2 = 1) then 1 else 0)

theorem rne_le (n d : Nat) : rne n d ≤ n / d + 1 := by unfold rne; split <;> omega
theorem le_rne (n d : Nat) : n / d ≤ rne n d := by unfold rne; omega

theorem rne_mono {n d n' d' : Nat} (hd : 0 < d) (hd' : 0 < d') (h : n * d' ≤ n' * d) : rne n d ≤ rne n' d' := by
  have e := Nat.div_add_mod n d
  have e' := Nat.div_add_mod n' d'
  have r := Nat.mod_lt n hd
  have r' := Nat.mod_lt n' hd'
  have hq : n / d ≤ n' / d' := by
    rw [Nat.le_div_iff_mul_le hd']
    have h1 : n / d * d ≤ n := Nat.div_mul_le_self n d
    have h2 : n / d * d' * d ≤ n' * d := by
      calc n / d * d' * d = n / d * d * d' := by ac_rfl
        _ ≤ n * d' := Nat.mul_le_mul_right _ h1
        _ ≤ n' * d := h
    exact Nat.le_of_mul_le_mul_right h2 hd
  rcases Nat.lt_or_ge (n / d) (n' / d') with h1 | h1
  · have := rne_le n d
    have := le_rne n' d'
    omega
  · have hqe : n / d = n' / d' := by omega
    -- the rests
    have hr : n % d * d' ≤ n' % d' * d := by
      have a1 : n * d' = n / d * d * d' + n % d * d' := by rw [← Nat.add_mul, Nat.mul_comm (n / d) d, e]
      have a2 : n' * d = n / d * d * d' + n' % d' * d := by
        rw [hqe]
        have : n' / d' * d * d' = n' / d' * d' * d := by ac_rfl
        rw [this, ← Nat.add_mul, Nat.mul_comm (n' / d') d', e']
      omega
    unfold rne
    rw [← hqe]
    by_cases hup : d < 2 * (n % d) ∨ (d = 2 * (n % d) ∧ n / d % 2 = 1)
    · have hup' : d' < 2 * (n' % d') ∨ (d' = 2 * (n' % d') ∧ n / d % 2 = 1) := by
        rcases hup with hup | ⟨hup, ho⟩
        · left
          have b1 : d * d' < 2 * (n % d) * d' := Nat.mul_lt_mul_of_pos_right hup hd'
          have b2 : 2 * (n % d) * d' ≤ 2 * (n' % d') * d := by
            rw [Nat.mul_assoc, Nat.mul_assoc]; omega
          have b3 : d' * d < 2 * (n' % d') * d := by rw [Nat.mul_comm d' d]; omega
          exact Nat.lt_of_mul_lt_mul_right b3
        · have b2 : 2 * (n % d) * d' ≤ 2 * (n' % d') * d := by
            rw [Nat.mul_assoc, Nat.mul_assoc]; omega
          have b3 : d' * d ≤ 2 * (n' % d') * d := by rw [Nat.mul_comm d' d, hup]; rw [← hup]; rw [← hup] at b2; exact b2
          have := Nat.le_of_mul_le_mul_right b3 hd
          omega
      rw [if_pos hup, if_pos hup']
      omega
    · rw [if_neg hup]
      split <;> omega

theorem rne_scale (n d c : Nat) (hd : 0 < d) (hc : 0 < c) : rne (n * c) (d * c) = rne n d := by
  have hdc : 0 < d * c := Nat.mul_pos hd hc
  have h1 : n * c * d = n * (d * c) := by ac_rfl
  exact Nat.le_antisymm (rne_mono hdc hd (Nat.le_of_eq h1)) (rne_mono hd hdc (Nat.le_of_eq h1.symm))

/-- A digit that tells whether anything is left over serves as well as what is left over. -/
theorem rne_sticky (D n k : Nat) (hn : 0 < n) (hk : 2 ≤ k) : rne (2 * (D / n) + (if D % n = 0 then 0 else 1)) (2 ^ k) = rne (2 * D) (n * 2 ^ k) := by
  obtain ⟨k', rfl⟩ : ∃ k', k = k' + 2 := ⟨k - 2, by omega⟩
  obtain ⟨h, hh⟩ : ∃ h, h = 2 ^ k' := ⟨_, rfl⟩
  have hpos : 0 < h := by rw [hh]; exact Nat.two_pow_pos _
  have hg : 2 ^ (k' + 2) = 4 * h := by rw [Nat.pow_add, hh]; omega
  rw [hg]
  have e := Nat.div_add_mod D n
  have r := Nat.mod_lt D hn
  obtain ⟨Q, hQ⟩ : ∃ Q, Q = D / n := ⟨_, rfl⟩
  obtain ⟨R, hR⟩ : ∃ R, R = D % n := ⟨_, rfl⟩
  rw [← hQ, ← hR] at e
  rw [← hR] at r
  rw [← hQ, ← hR]
  -- 2 Q = 4 h A + 2 C
  obtain ⟨A, hA⟩ : ∃ A, A = Q / (2 * h) := ⟨_, rfl⟩
  obtain ⟨C, hC⟩ : ∃ C, C = Q % (2 * h) := ⟨_, rfl⟩
  have eQ : 2 * h * A + C = Q := by rw [hA, hC]; exact Nat.div_add_mod _ _
  have hC2 : C < 2 * h := by rw [hC]; exact Nat.mod_lt _ (by omega)
  obtain ⟨t, ht⟩ : ∃ t, t = if R = 0 then 0 else 1 := ⟨_, rfl⟩
  rw [← ht]
  have ht1 : t ≤ 1 := by rw [ht]; split <;> omega
  have hmag : 2 * Q + t = 4 * h * A + (2 * C + t) := by
    have x : 4 * h * A = 2 * (2 * h * A) := by rw [show 4 * h = 2 * (2 * h) by omega]; ac_rfl
    rw [x, ← eQ]; omega
  have hB : 2 * C + t < 4 * h := by omega
  have d1 : (2 * Q + t) / (4 * h) = A := by
    rw [hmag, Nat.mul_add_div (by omega), Nat.div_eq_of_lt hB]; rfl
  have m1 : (2 * Q + t) % (4 * h) = 2 * C + t := by
    rw [hmag, Nat.mul_add_mod, Nat.mod_eq_of_lt hB]
  have hDD : 2 * D = n * (4 * h) * A + (n * (2 * C) + 2 * R) := by
    rw [← e, ← eQ]
    have x1 : n * (2 * h * A + C) = n * (2 * h * A) + n * C := Nat.mul_add _ _ _
    have x2 : n * (4 * h) * A = 2 * (n * (2 * h * A)) := by
      rw [show 4 * h = 2 * (2 * h) by omega]; ac_rfl
    have x3 : n * (2 * C) = 2 * (n * C) := by ac_rfl
    rw [x1, x2, x3]; omega
  have hnC : n * (2 * C) = 2 * (n * C) := by ac_rfl
  have hn4 : n * (4 * h) = 4 * (n * h) := by ac_rfl
  -- n C against n h
  have hle : C + 1 ≤ 2 * h := hC2
  have hC4 : n * C + n ≤ 2 * (n * h) := by
    have : n * (C + 1) ≤ n * (2 * h) := Nat.mul_le_mul_left _ hle
    rw [Nat.mul_add, Nat.mul_one] at this
    have y : n * (2 * h) = 2 * (n * h) := by ac_rfl
    omega
  have hB2 : n * (2 * C) + 2 * R < n * (4 * h) := by omega
  have d2 : 2 * D / (n * (4 * h)) = A := by
    rw [hDD, Nat.mul_add_div (by omega), Nat.div_eq_of_lt hB2]; rfl
  have m2 : 2 * D % (n * (4 * h)) = n * (2 * C) + 2 * R := by
    rw [hDD, Nat.mul_add_mod, Nat.mod_eq_of_lt hB2]
  unfold rne
  rw [d1, m1, d2, m2]
  congr 1
  rcases Nat.lt_trichotomy C h with c | c | c
  · -- below the half
    have c1 : n * (C + 1) ≤ n * h := Nat.mul_le_mul_left _ c
    rw [Nat.mul_add, Nat.mul_one] at c1
    rw [if_neg (by omega), if_neg (by omega)]
  · subst c
    by_cases hR0 : R = 0
    · have ht0 : t = 0 := by rw [ht, if_pos hR0]
      subst ht0
      subst hR0
      have p : ∀ q r : Prop, (q ↔ r) → ∀ [Decidable q] [Decidable r], (if q then 1 else 0) = (if r then 1 else (0 : Nat)) := by
        intro q r hqr _ _
        by_cases hq : q
        · rw [if_pos hq, if_pos (hqr.1 hq)]
        · rw [if_neg hq, if_neg (fun hr => hq (hqr.2 hr))]
      apply p
      constructor <;> (intro h'; omega)
    · have ht0 : t = 1 := by rw [ht, if_neg hR0]
      rw [if_pos (by omega), if_pos (by omega)]
  · have c1 : n * (h + 1) ≤ n * C := Nat.mul_le_mul_left _ c
    rw [Nat.mul_add, Nat.mul_one] at c1
    rw [if_pos (by omega), if_pos (by omega)]
end Go.Proofs.Ytejilfhoeljhkaa.Sh
