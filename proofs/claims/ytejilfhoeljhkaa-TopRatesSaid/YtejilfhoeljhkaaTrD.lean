/- TopRates: the small functions of integers. -/
import Derived.Test.YtejilfhoeljhkaaProg
import Derived.Test.YtejilfhoeljhkaaKeep
import Derived.IntWalk
import Derived.Laws.Bits64b
import Derived.Laws.FloatArith
namespace Go.Proofs.Ytejilfhoeljhkaa.Sh
open Go Go.RowKit

theorem within_yes (w : World) (n l m : Int) (h1 : l ≤ n) (h2 : n ≤ m) :
    Calls Try.prog 16 #[.int .i64 n, .int .i64 l, .int .i64 m] w fun e w' => e = .returned (.bool true) ∧ w' = w := by
  go_enter Try.func16, Try.ntmps16
  go_wp2
  go_ret
  exact ⟨rfl, rfl⟩

theorem coins_12 (w : World) : Calls Try.prog 17 #[.int .i64 1, .int .i64 2] w fun e w' => e = .returned (.int .i64 1) ∧ w' = w := by
  go_enter Try.func17, Try.ntmps17
  go_wp2_with fail
  refine (within_yes _ _ _ _ (by omega) (by omega)).mono ?_
  rintro e w' ⟨rfl, rfl⟩
  go_wp2_with fail
  refine (within_yes _ _ _ _ (by omega) (by omega)).mono ?_
  rintro e w' ⟨rfl, rfl⟩
  go_wp2
  go_ret
  exact ⟨rfl, rfl⟩

theorem add_any (w : World) (x y : UInt8) : Calls Try.prog 25 #[vU8 x, vU8 y] w fun e w' => (∃ z : UInt8, e = .returned (vU8 z)) ∧ w' = w := by
  have hx := u8_bound x
  have hy := u8_bound y
  go_enter Try.func25, Try.ntmps25
  go_wp2
  go_ret
  exact ⟨⟨x ^^^ y, by rw [xor_u8]; rfl⟩, rfl⟩

theorem isNaN64_any (w : World) (x : Int) : Calls Try.prog 26 #[.int .u64 x] w fun e w' => e = .returned (.bool false) ∧ w' = w := by
  go_enter Try.func26, Try.ntmps26
  go_wp2
  go_ret
  exact ⟨rfl, rfl⟩

/-- How two numbers compare. -/
def sgn (a b : Nat) : Int := if a < b then -1 else if b < a then 1 else 0

theorem cmp64_any (w : World) (x y : Nat) : Calls Try.prog 21 #[.int .u64 x, .int .u64 y] w fun e w' => e = .returned (.int .i64 (sgn x y)) ∧ w' = w := by
  go_enter Try.func21, Try.ntmps21
  go_wp2_with fail
  refine (isNaN64_any _ _).mono ?_
  rintro e w' ⟨rfl, rfl⟩
  go_wp2_with fail
  refine (isNaN64_any _ _).mono ?_
  rintro e w' ⟨rfl, rfl⟩
  by_cases h1 : x < y
  · go_wp2
    go_ret
    exact ⟨by simp [sgn, h1], rfl⟩
  · by_cases h2 : y < x
    · go_wp2
      go_ret
      exact ⟨by simp [sgn, h1, h2], rfl⟩
    · go_wp2
      go_ret
      exact ⟨by simp [sgn, h1, h2], rfl⟩

theorem held_any (w : World) (n : Nat) (h1 : 1 ≤ n) (h2 : n ≤ 4096) : Calls Try.prog 13 #[.int .i64 n] w fun e w' => e = .returned (.int .u64 n) ∧ w' = w := by
  go_enter Try.func13, Try.ntmps13
  by_cases h3 : n = 1
  · subst h3
    go_wp2
    go_ret
    exact ⟨rfl, rfl⟩
  · go_wp2
    go_ret
    exact ⟨rfl, rfl⟩

theorem mask_u64 (m : Nat) (h : m < 4294967296) : bits .and .u64 (m : Int) 4294967295 = (m : Int) := by
  rw [show (4294967295 : Int) = ((4294967295 : Nat) : Int) from rfl, bits_and_u64_nat _ _ (by omega) (by omega)]
  have : m &&& 4294967295 = m % 2 ^ 32 := Nat.and_two_pow_sub_one_eq_mod m 32
  omega

theorem mul64_any (w : World) (x y : Nat) (hx : x < 4294967296) (hy : y ≤ 4096) : Calls Try.prog 20 #[.int .u64 x, .int .u64 y] w fun e w' => e = .returned (.tuple #[.int .u64 0, .int .u64 ((x * y : Nat) : Int)]) ∧ w' = w := by
  have h1 := mask_u64 x hx
  have h2 := mask_u64 y (by omega)
  have h3 : (x : Int) / 4294967296 = 0 := by omega
  have h4 : (y : Int) / 4294967296 = 0 := by omega
  obtain ⟨z, hz⟩ : ∃ z, z = x * y := ⟨_, rfl⟩
  have hz1 : z ≤ 4294967296 * 4096 := by rw [hz]; exact Nat.mul_le_mul (by omega) hy
  have h5 : IntKind.u64.wrap ((x : Int) * (y : Int)) = (z : Int) := by
    rw [← Int.natCast_mul, ← hz, IntKind.wrap_u64]; omega
  obtain ⟨m, hm⟩ : ∃ m, m = z / 4294967296 := ⟨_, rfl⟩
  have h6 : (z : Int) / 4294967296 = (m : Int) := by omega
  have h7 := mask_u64 m (by omega)
  have h8 : (m : Int) / 4294967296 = 0 := by omega
  have h9 : IntKind.u64.wrap (m : Int) = (m : Int) := by rw [IntKind.wrap_u64]; omega
  have h0 : IntKind.u64.wrap 0 = 0 := by rfl
  rw [← hz]
  clear hz hm
  go_enter Try.func20, Try.ntmps20
  go_wp2
  go_ret2
  exact ⟨rfl, rfl⟩

theorem times_any (w : World) (x y : Nat) (hx : x < 4294967296) (hy : y ≤ 4096) : Calls Try.prog 12 #[.int .u64 x, .int .u64 y] w fun e w' => e = .returned (.agg #[.int .u64 0, .int .u64 ((x * y : Nat) : Int)]) ∧ Only [] w w' := by
  obtain ⟨z, hz⟩ : ∃ z : Nat, z = x * y := ⟨_, rfl⟩
  have hm := fun W => mul64_any W x y hx hy
  rw [← hz] at hm ⊢
  replace hm := hid hm
  clear hz
  go_enter Try.func12, Try.ntmps12
  go_wp2_with fail
  refine (hm.out _).mono ?_
  rintro e w' ⟨rfl, rfl⟩
  go_wp2
  exact bodyPost_ret (v := .agg #[.int .u64 0, .int .u64 z]) (by simp [results, Try.results12, go_sem]) rfl ⟨rfl, (Only.refl [] w).alloc _⟩

theorem pcompare_any (w : World) (x y : Nat) : Calls Try.prog 14 #[.agg #[.int .u64 0, .int .u64 x], .agg #[.int .u64 0, .int .u64 y]] w fun e w' => e = .returned (.int .i64 (sgn x y)) ∧ Only [] w w' := by
  have hc0 := hid (fun W => cmp64_any W 0 0)
  go_enter Try.func14, Try.ntmps14
  go_wp2_with fail
  refine (hc0.out _).mono ?_
  rintro e w' ⟨rfl, rfl⟩
  have s0 : sgn 0 0 = 0 := rfl
  go_wp2_with fail
  refine (cmp64_any _ _ _).mono ?_
  rintro e w' ⟨rfl, rfl⟩
  go_wp2
  go_ret
  exact ⟨rfl, ((Only.refl [] w).alloc _).alloc _⟩

theorem rank_any (w : World) (a i b j : Nat) (ha : a < 4294967296) (hb : b < 4294967296) (hi : 1 ≤ i) (hi2 : i ≤ 4096) (hj : 1 ≤ j) (hj2 : j ≤ 4096) :
    Calls Try.prog 5 #[.int .u64 a, .int .i64 i, .int .u64 b, .int .i64 j] w fun e w' => e = .returned (.int .i64 (sgn (a * j) (b * i))) ∧ Only [] w w' := by
  go_enter Try.func5, Try.ntmps5
  go_wp2_with fail
  refine (held_any _ _ hj hj2).mono ?_
  rintro e w' ⟨rfl, rfl⟩
  go_wp2_with fail
  refine (times_any _ _ _ ha hj2).mono ?_
  rintro e w2 ⟨rfl, o2⟩
  go_wp2_with fail
  refine (held_any _ _ hi hi2).mono ?_
  rintro e w' ⟨rfl, rfl⟩
  go_wp2_with fail
  refine (times_any _ _ _ hb hi2).mono ?_
  rintro e w3 ⟨rfl, o3⟩
  go_wp2_with fail
  refine (pcompare_any _ _ _).mono ?_
  rintro e w4 ⟨rfl, o4⟩
  go_wp2
  go_ret
  exact ⟨rfl, (o2.trans0 o3).trans0 o4⟩
end Go.Proofs.Ytejilfhoeljhkaa.Sh
