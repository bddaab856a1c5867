/- The reference's checksum, walked. -/
import Derived.Test.YtnlmeaijnfjakaaCrcC
import Derived.Deep.RegionHeld3
namespace Go.Proofs.Ytnlmeaijnfjakaa.Sh
set_option linter.unusedSimpArgs false
set_option linter.unusedVariables false
open Go Go.RowKit

set_option maxHeartbeats 400000 in
theorem power_any (k : Nat) (w : World) (hk : k ≤ 31) :
    Calls Try.prog 75 #[.int .i64 k] w fun e w' => (∃ p : Nat, e = .returned (.int .u32 p) ∧ Hid (p = 2 ^ k) ∧ 1 ≤ p ∧ p ≤ 2147483648) ∧ w = w' := by
  go_enter Try.func75, Try.ntmps75
  go_wp2
  go_loop [3, 4] (fun n i => ∃ (j p : Nat), j ≤ k ∧ i = .int .i64 j ∧ n = .int .u32 p ∧ Hid (p = 2 ^ j)) (fun _ i => k - (intOf i).toNat)
  case atStart => exact ⟨0, 1, Nat.zero_le _, rfl, rfl, rfl⟩
  case round =>
    obtain ⟨j, p, hj, rfl, rfl, hp⟩ := hrel
    by_cases hlt : j < k
    · have hb : p ≤ 1073741824 := by
        rw [hp.out]
        exact Nat.pow_le_pow_right (n := 2) (j := 30) (by omega) (by omega)
      go_wp2
      go_round
      case rel => exact ⟨j + 1, p * 2, by omega, by go_num, by go_num, by rw [hp.out]; exact hid (by rw [Nat.pow_succ])⟩
      case measure => simp [intOf]; omega
    · obtain rfl : j = k := by omega
      have hb : p ≤ 2147483648 := by
        rw [hp.out]
        exact Nat.pow_le_pow_right (n := 2) (j := 31) (by omega) (by omega)
      have hb1 : 1 ≤ p := by rw [hp.out]; exact Nat.pos_of_ne_zero (by simp)
      go_wp2
      go_ret
      exact ⟨⟨p, rfl, hp, hb1, hb⟩, rfl⟩

theorem bit_of (x : UInt8) (k : Nat) : x.toNat / 2 ^ k % 2 = if x.toBitVec.getLsbD k then 1 else 0 := by
  unfold BitVec.getLsbD
  rw [Nat.testBit_eq_decide_div_mod_eq, UInt8.toNat_toBitVec]
  rcases Nat.mod_two_eq_zero_or_one (x.toNat / 2 ^ k) with h | h <;> rw [h] <;> rfl

theorem ref_same (c : BitVec 32) (x : UInt8) (k : Nat) (h : x.toNat / 2 ^ k % 2 = c.toNat % 2) : ((refStep c (x.toBitVec.getLsbD k)).toNat : Int) = (c.toNat : Int) / 2 := by
  have hc : c.toNat % 2 = if c.getLsbD 0 then 1 else 0 := by
    unfold BitVec.getLsbD
    rw [Nat.testBit_zero]
    rcases Nat.mod_two_eq_zero_or_one c.toNat with h | h <;> rw [h] <;> rfl
  rw [bit_of, hc] at h
  have key : ∀ p q : Bool, ((if p then 1 else 0 : Nat) = if q then 1 else 0) → p = q := by decide
  have e := key _ _ h
  unfold refStep
  rw [e]
  simp only [bne_self_eq_false, Bool.false_eq_true, if_false, BitVec.xor_zero]
  rw [BitVec.toNat_ushiftRight, Nat.shiftRight_eq_div_pow]
  omega

theorem ref_other (c : BitVec 32) (x : UInt8) (k : Nat) (h : x.toNat / 2 ^ k % 2 ≠ c.toNat % 2) : ((refStep c (x.toBitVec.getLsbD k)).toNat : Int) = bits .xor .u32 ((c.toNat : Int) / 2) 3988292384 := by
  have hl := c.isLt
  have hc : c.toNat % 2 = if c.getLsbD 0 then 1 else 0 := by
    unfold BitVec.getLsbD
    rw [Nat.testBit_zero]
    rcases Nat.mod_two_eq_zero_or_one c.toNat with h | h <;> rw [h] <;> rfl
  rw [bit_of, hc] at h
  have key : ∀ p q : Bool, ¬ ((if p then 1 else 0 : Nat) = if q then 1 else 0) → (p != q) = true := by decide
  have e := key _ _ h
  unfold refStep
  rw [e, if_pos rfl]
  rw [show ((c.toNat : Int) / 2) = ((c.toNat / 2 : Nat) : Int) by omega, show (3988292384 : Int) = ((3988292384 : Nat) : Int) from rfl, u32_xor_nat _ _ (by omega) (by omega)]
  rw [BitVec.toNat_xor, BitVec.toNat_ushiftRight, Nat.shiftRight_eq_div_pow]
  rfl

theorem ref_test (c : BitVec 32) (x : UInt8) (p : Nat) (b : Bool) (h : (((x.toNat : Int) / (p : Int)).tmod 2 != (c.toNat : Int) % 2) = b) : (x.toNat / p % 2 ≠ c.toNat % 2) ↔ b = true := by
  subst h
  rw [Int.tmod_eq_emod_of_nonneg (Int.ediv_nonneg (by omega) (by omega)), bne_iff_ne]
  rw [show ((x.toNat : Int) / (p : Int)) = ((x.toNat / p : Nat) : Int) from rfl]
  omega

theorem ref_way (c : BitVec 32) (x : UInt8) (k p : Nat) (hp : Hid (p = 2 ^ k)) (h : (((x.toNat : Int) / (p : Int)).tmod 2 != (c.toNat : Int) % 2) = true) : Value.int .u32 (bits .xor .u32 ((c.toNat : Int) / 2) 3988292384) = vU32 (refStep c (x.toBitVec.getLsbD k)) := by
  have := (ref_test c x p _ h).2 rfl
  rw [hp.out] at this
  rw [← ref_other c x k this]

theorem ref_way' (c : BitVec 32) (x : UInt8) (k p : Nat) (hp : Hid (p = 2 ^ k)) (h : (((x.toNat : Int) / (p : Int)).tmod 2 != (c.toNat : Int) % 2) = false) : Value.int .u32 ((c.toNat : Int) / 2) = vU32 (refStep c (x.toBitVec.getLsbD k)) := by
  have := mt (ref_test c x p _ h).1 (by simp)
  rw [hp.out] at this
  rw [← ref_same c x k (by omega)]

theorem sub_not (c : BitVec 32) : (4294967295 - (c.toNat : Int)) = ((~~~ c).toNat : Int) := by
  have := c.isLt
  rw [BitVec.toNat_not]
  omega

set_option maxHeartbeats 800000 in
theorem refOf_any (v : Value) (l : List UInt8) (w : World) (hB : Bs w v l) :
    Calls Try.prog 42 #[v] w fun e w' => e = .returned (vU32 (crcOf l)) ∧ Only [] w w' := by
  obtain ⟨_, a, cap, rfl, h1, h2, h3, h4⟩ := id hB
  go_enter Try.func42, Try.ntmps42
  go_wp2
  go_loopw [3, 10] (fun c i wr => ∃ k : Nat, k ≤ l.length ∧ i = .int .i64 k ∧ c = vU32 (crcRaw (~~~ 0#32) (l.take k)) ∧ Only [] w wr) (fun _ i _ => l.length - (intOf i).toNat)
  case atStart => exact ⟨0, Nat.zero_le _, rfl, rfl, Only.refl _ _⟩
  case round =>
    obtain ⟨k, hk, rfl, rfl, ho⟩ := hrel
    by_cases hlt : k < l.length
    · rcases h4 with h4 | ⟨b, o, rfl, h4⟩
      · exact absurd h4 (by intro h5; simp [bytes] at h5; simp [h5] at hlt)
      have hck := h4 k _ (bytes_get hlt)
      have hck2 := hid hck
      have hb := u8_bound l[k]
      obtain ⟨x, hx⟩ : ∃ x, x = l[k] := ⟨_, rfl⟩
      rw [← hx] at hck2 hb
      have HX := hid hx
      have hkk : (0 : Int) ≤ (k : Int) := by omega
      have hkl : (k : Int) < (l.length : Int) := by omega
      clear h4 hck hx
      obtain ⟨wo, rfl⟩ : ∃ wo : World, wo = wr := ⟨_, rfl⟩
      obtain ⟨c, hc⟩ : ∃ c, c = crcRaw (~~~ 0#32) (l.take k) := ⟨_, rfl⟩
      rw [← hc]
      have HC := hid hc
      clear hc
      go_wp2
      go_loopw [3, 5] (fun s j wr => ∃ n : Nat, n ≤ 8 ∧ j = .int .i64 n ∧ s = vU32 (refBits x n c) ∧ Only [] w wr) (fun _ j _ => 8 - (intOf j).toNat)
      case atStart => exact ⟨0, Nat.zero_le _, rfl, rfl, ho⟩
      case round =>
        obtain ⟨n, hn, rfl, rfl, ho'⟩ := hrel
        have hcb := u32_bound (refBits x n c)
        by_cases hnl : n < 8
        · have hld := ho'.cell hck2.out (by simp)
          go_wp2_with fail
          go_region_held3 (fun w' => w'.cell? ⟨b, o + k, none⟩ = some (vU8 x)) (first | exact hld | assumption) (first | (go_at_call 75; refine (power_any n _ (by omega)).mono ?_; rintro e w' ⟨⟨p, rfl, hp, hp1, hp2⟩, rfl⟩; have hp0 : ¬ p = 0 := by omega))
          go_wp2
          · go_roundw
            case rel => exact ⟨n + 1, by omega, by go_num, ref_way _ _ _ _ hp (by assumption), ho'.drew⟩
            case measure => simp [intOf]; omega
          · go_roundw
            case rel => exact ⟨n + 1, by omega, by go_num, ref_way' _ _ _ _ hp (by assumption), ho'.drew⟩
            case measure => simp [intOf]; omega
        · obtain rfl : n = 8 := by omega
          rw [refByte_eq, HC.out, HX.out, ← crcRaw_snoc _ l k hlt]
          clear HC HX
          go_wp2
          go_roundw
          case rel => exact ⟨k + 1, by omega, by go_num, rfl, ho'⟩
          case measure => simp [intOf]; omega
    · obtain rfl : k = l.length := by omega
      rw [List.take_length]
      have hcb := u32_bound (crcRaw (~~~ 0#32) l)
      go_wp2
      go_ret
      exact ⟨by rw [show (4294967295#32) = ~~~ 0#32 by decide, sub_not]; rfl, ho⟩
end Go.Proofs.Ytnlmeaijnfjakaa.Sh
