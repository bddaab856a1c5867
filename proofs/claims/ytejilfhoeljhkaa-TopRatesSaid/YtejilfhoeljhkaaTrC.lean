/- Rates as floats: their order, and the plain law. -/
import Derived.Test.YtejilfhoeljhkaaTrB
namespace Go.Proofs.Ytejilfhoeljhkaa.Sh
open Ieee

theorem compare_cast (a b : Nat) : compare (a : Int) (b : Int) = compare a b := by
  simp only [compare, compareOfLessAndEq, Int.ofNat_lt, Int.natCast_inj]

theorem compare_scale (a b c : Nat) (hc : 0 < c) : compare (a * c) (b * c) = compare a b := by
  have h1 : (a * c < b * c) ↔ (a < b) := Nat.mul_lt_mul_right hc
  have h2 : (a * c = b * c) ↔ (a = b) := ⟨fun h => Nat.eq_of_mul_eq_mul_right hc h, fun h => by rw [h]⟩
  simp only [compare, compareOfLessAndEq, h1, h2]

theorem number_order (m n x y : Nat) : (Datum.number false m (-1074 + (x : Int))).order (.number false n (-1074 + (y : Int))) = some (compare (m * 2 ^ x) (n * 2 ^ y)) := by
  have e : ∀ u v : Nat, signed false u v = ((u * 2 ^ v : Nat) : Int) := by
    intro u v
    unfold signed
    rw [Nat.shiftLeft_eq]
    simp
  unfold Datum.order
  simp only [e, compare_cast]
  congr 1
  have e1 : (-1074 + (x : Int) - min (-1074 + (x : Int)) (-1074 + (y : Int))).toNat = x - min x y := by omega
  have e2 : (-1074 + (y : Int) - min (-1074 + (x : Int)) (-1074 + (y : Int))).toNat = y - min x y := by omega
  rw [e1, e2, ← compare_scale _ _ (2 ^ min x y) (Nat.two_pow_pos _), Nat.mul_assoc, Nat.mul_assoc, ← Nat.pow_add, ← Nat.pow_add, Nat.sub_add_cancel (Nat.min_le_left _ _), Nat.sub_add_cancel (Nat.min_le_right _ _)]

/-- What a word is worth. -/
def worth (r : Nat) : Nat := if r < 2 ^ 52 then r else (2 ^ 52 + r % 2 ^ 52) * 2 ^ (r / 2 ^ 52 - 1)

theorem order_words {r s : Nat} (hr : r < 2047 * 2 ^ 52) (hs : s < 2047 * 2 ^ 52) : Ieee.double.order r s = some (compare (worth r) (worth s)) := by
  unfold Format.order
  rw [read_word hr, read_word hs]
  unfold worth
  have z : (-1074 : Int) = -1074 + ((0 : Nat) : Int) := by omega
  split <;> split
  · rw [z]; rw [number_order]; simp
  · rw [show (-1074 : Int) = -1074 + ((0 : Nat) : Int) by omega, show (-1074 + ((0 : Nat) : Int)) + ((s / 2 ^ 52 - 1 : Nat) : Int) = -1074 + ((s / 2 ^ 52 - 1 : Nat) : Int) by omega, number_order]; simp
  · rw [show (-1074 : Int) = -1074 + ((0 : Nat) : Int) by omega, show (-1074 + ((0 : Nat) : Int)) + ((r / 2 ^ 52 - 1 : Nat) : Int) = -1074 + ((r / 2 ^ 52 - 1 : Nat) : Int) by omega, number_order]; simp
  · rw [number_order]

theorem worth_mono {r s : Nat} (h : r ≤ s) : worth r ≤ worth s := by
  unfold worth
  have hp : ∀ n, 0 < 2 ^ n := Nat.two_pow_pos
  split <;> split
  · exact h
  · rename_i h1 h2
    have := Nat.mul_le_mul_left (2 ^ 52 + s % 2 ^ 52) (hp (s / 2 ^ 52 - 1))
    rw [Nat.mul_one] at this
    omega
  · omega
  · rename_i h1 h2
    rcases Nat.lt_or_ge (r / 2 ^ 52) (s / 2 ^ 52) with c | c
    · calc (2 ^ 52 + r % 2 ^ 52) * 2 ^ (r / 2 ^ 52 - 1) ≤ (2 ^ 52 * 2) * 2 ^ (r / 2 ^ 52 - 1) := Nat.mul_le_mul_right _ (by omega)
        _ = 2 ^ 52 * 2 ^ (r / 2 ^ 52) := by
          rw [Nat.mul_assoc, ← Nat.pow_succ']
          congr 2
          omega
        _ ≤ 2 ^ 52 * 2 ^ (s / 2 ^ 52 - 1) := Nat.mul_le_mul_left _ (Nat.pow_le_pow_right (by omega) (by omega))
        _ ≤ _ := Nat.mul_le_mul_right _ (by omega)
    · have e : r / 2 ^ 52 = s / 2 ^ 52 := by omega
      rw [e]
      exact Nat.mul_le_mul_right _ (by omega)

theorem compare_self (a : Nat) : compare a a = .eq := by simp [compare, compareOfLessAndEq]
theorem compare_le {a b : Nat} (h : a ≤ b) : compare a b = .lt ∨ compare a b = .eq := by
  rcases Nat.lt_or_ge a b with c | c
  · left; simp [compare, compareOfLessAndEq, c]
  · right; rw [show b = a by omega]; exact compare_self a
theorem compare_ge {a b : Nat} (h : a ≤ b) : compare b a = .gt ∨ compare b a = .eq := by
  rcases Nat.lt_or_ge a b with c | c
  · left
    have h1 : ¬ b < a := by omega
    have h2 : ¬ b = a := by omega
    simp [compare, compareOfLessAndEq, h1, h2]
  · right; rw [show b = a by omega]; exact compare_self a

/-- The word of a rate. -/
theorem rate_ok {a i : Nat} (ha : a < 2 ^ 32) (hi : 0 < i) (hi2 : i < 2 ^ 9) : ∃ p, Ieee.double.div (Ieee.double.nearest false a 0) (Ieee.double.nearest false i 0) = some p ∧ p < 2047 * 2 ^ 52 := by
  by_cases h0 : a = 0
  · subst h0
    refine ⟨0, ?_, by omega⟩
    obtain ⟨t1, t2⟩ := sig_bounds hi (by omega)
    have hne : sig i ≠ 0 := by omega
    unfold Format.div
    rw [nearest_zero, fl_read hi (by omega), read_word (by omega), if_pos (by omega)]
    simp only [Datum.quotient, hne, if_false, Option.map_some, Format.write, Nat.zero_shiftLeft, Nat.zero_div, Nat.zero_mod, Nat.mul_zero, Nat.zero_add]
    exact congrArg some (nearest_zero _)
  · obtain ⟨k, hk, lo, up, e⟩ := rate_word (a := a) (i := i) (by omega) ha hi hi2
    refine ⟨_, e, ?_⟩
    have h1 := rne_le (a * 2 ^ k) i
    have h2 : a * 2 ^ k / i < 2 ^ 53 := by rw [Nat.div_lt_iff_lt_mul hi]; exact up
    have h3 : (1074 - k) * 2 ^ 52 ≤ 1074 * 2 ^ 52 := Nat.mul_le_mul_right _ (by omega)
    omega

theorem rate_mono {a b i j p q : Nat} (ha : a < 2 ^ 32) (hb : b < 2 ^ 32) (hi : 0 < i) (hi2 : i < 2 ^ 9) (hj : 0 < j) (hj2 : j < 2 ^ 9)
    (hp : Ieee.double.div (Ieee.double.nearest false a 0) (Ieee.double.nearest false i 0) = some p) (hq : Ieee.double.div (Ieee.double.nearest false b 0) (Ieee.double.nearest false j 0) = some q)
    (h : a * j ≤ b * i) : p ≤ q := by
  by_cases h0 : a = 0
  · subst h0
    obtain ⟨t1, t2⟩ := sig_bounds hi (by omega)
    have hne : sig i ≠ 0 := by omega
    have e : Ieee.double.div (Ieee.double.nearest false 0 0) (Ieee.double.nearest false i 0) = some 0 := by
      unfold Format.div
      rw [nearest_zero, fl_read hi (by omega), read_word (by omega), if_pos (by omega)]
      simp only [Datum.quotient, hne, if_false, Option.map_some, Format.write, Nat.zero_shiftLeft, Nat.zero_div, Nat.zero_mod, Nat.mul_zero, Nat.zero_add]
      exact congrArg some (nearest_zero _)
    rw [e] at hp
    have : 0 = p := Option.some.inj hp
    omega
  · have ha0 : 0 < a := by omega
    have hb0 : 0 < b := by
      rcases Nat.eq_zero_or_pos b with c | c
      · subst c
        have := Nat.mul_pos ha0 hj
        omega
      · exact c
    obtain ⟨k, hk, lo, up, e⟩ := rate_word ha0 ha hi hi2
    obtain ⟨l, hl, lo', up', e'⟩ := rate_word hb0 hb hj hj2
    rw [e] at hp
    rw [e'] at hq
    obtain rfl := Option.some.inj hp
    obtain rfl := Option.some.inj hq
    have hij : 0 < i * j := Nat.mul_pos hi hj
    have r1 : rne (a * 2 ^ k) i ≤ 2 ^ 53 := by
      have h1 := rne_le (a * 2 ^ k) i
      have h2 : a * 2 ^ k / i < 2 ^ 53 := by rw [Nat.div_lt_iff_lt_mul hi]; exact up
      omega
    have r2 : 2 ^ 52 ≤ rne (b * 2 ^ l) j := by
      have h1 := le_rne (b * 2 ^ l) j
      have h2 : 2 ^ 52 ≤ b * 2 ^ l / j := by rw [Nat.le_div_iff_mul_le hj]; exact lo'
      omega
    rcases Nat.lt_trichotomy k l with c | c | c
    · exfalso
      -- a j 2^l ≥ 2^53 i j > b i 2^l
      have c1 : 2 ^ 53 * (i * j) ≤ a * j * 2 ^ l := by
        have x1 : 2 ^ 52 * i * (2 * j) ≤ a * 2 ^ k * (2 * j) := Nat.mul_le_mul_right _ lo
        have x2 : 2 ^ 53 * (i * j) = 2 ^ 52 * i * (2 * j) := by rw [show (2 : Nat) ^ 53 = 2 ^ 52 * 2 from rfl]; ac_rfl
        have x3 : a * 2 ^ k * (2 * j) = a * j * 2 ^ (k + 1) := by rw [Nat.pow_succ]; ac_rfl
        have x4 : a * j * 2 ^ (k + 1) ≤ a * j * 2 ^ l := Nat.mul_le_mul_left _ (Nat.pow_le_pow_right (by omega) c)
        omega
      have c2 : b * i * 2 ^ l < 2 ^ 53 * (i * j) := by
        have x1 : b * 2 ^ l * i < 2 ^ 53 * j * i := Nat.mul_lt_mul_of_pos_right up' hi
        have x2 : b * i * 2 ^ l = b * 2 ^ l * i := by ac_rfl
        have x3 : 2 ^ 53 * (i * j) = 2 ^ 53 * j * i := by ac_rfl
        omega
      have c3 : a * j * 2 ^ l ≤ b * i * 2 ^ l := Nat.mul_le_mul_right _ h
      omega
    · subst c
      have : rne (a * 2 ^ k) i ≤ rne (b * 2 ^ k) j := by
        apply rne_mono hi hj
        have x1 : a * 2 ^ k * j = a * j * 2 ^ k := by ac_rfl
        have x2 : b * 2 ^ k * i = b * i * 2 ^ k := by ac_rfl
        rw [x1, x2]
        exact Nat.mul_le_mul_right _ h
      omega
    · have x1 : (1074 - k + 1) * 2 ^ 52 ≤ (1074 - l) * 2 ^ 52 := Nat.mul_le_mul_right _ (by omega)
      rw [Nat.add_mul, Nat.one_mul] at x1
      omega

/-- The plain law of the order. -/
theorem order_self {p : Nat} (hp : p < 2047 * 2 ^ 52) : Ieee.double.order p p = some .eq := by rw [order_words hp hp, compare_self]
theorem order_le {p q : Nat} (hp : p < 2047 * 2 ^ 52) (hq : q < 2047 * 2 ^ 52) (h : p ≤ q) : Ieee.double.order p q = some .lt ∨ Ieee.double.order p q = some .eq := by
  rw [order_words hp hq]; exact (compare_le (worth_mono h)).imp (congrArg some) (congrArg some)
theorem order_ge {p q : Nat} (hp : p < 2047 * 2 ^ 52) (hq : q < 2047 * 2 ^ 52) (h : p ≤ q) : Ieee.double.order q p = some .gt ∨ Ieee.double.order q p = some .eq := by
  rw [order_words hq hp]; exact (compare_ge (worth_mono h)).imp (congrArg some) (congrArg some)
end Go.Proofs.Ytejilfhoeljhkaa.Sh
