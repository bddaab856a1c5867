/- The checksum's table, walked. -/
import Derived.Test.YtnlmeaijnfjakaaCrcA
namespace Go.Proofs.Ytnlmeaijnfjakaa.Sh
set_option linter.unusedSimpArgs false
set_option linter.unusedVariables false
open Go Go.RowKit

def tabCells (k : Nat) : List Value := (List.range 256).map fun i => if i < k then vU32 (tab (BitVec.ofNat 32 i)) else .int .u32 0

theorem bit_eq (c : BitVec 32) : bits .xor .u32 ((c.toNat : Int) / 2) (3988292384 * bits .and .u32 (c.toNat : Int) 1 % 4294967296) = ((crcBit c).toNat : Int) := by
  have h1 := c.isLt
  have e1 : bits .and .u32 (c.toNat : Int) 1 = ((c.toNat % 2 : Nat) : Int) := by
    rw [show (1 : Int) = ((1 : Nat) : Int) from rfl, u32_and_nat _ _ (by omega) (by omega), nat_mask1]
  rw [e1]
  have e2 : (3988292384 * ((c.toNat % 2 : Nat) : Int) % 4294967296) = ((3988292384 * (c.toNat % 2) : Nat) : Int) := by omega
  have e3 : ((c.toNat : Int) / 2) = ((c.toNat / 2 : Nat) : Int) := by omega
  rw [e2, e3, u32_xor_nat _ _ (by omega) (by omega)]
  congr 1
  unfold crcBit
  rw [BitVec.toNat_xor, BitVec.toNat_ushiftRight, Nat.shiftRight_eq_div_pow]
  congr 1
  have hl : c.getLsbD 0 = decide (c.toNat % 2 = 1) := by
    simp [BitVec.getLsbD, Nat.testBit_zero]
  rw [hl]
  rcases Nat.mod_two_eq_zero_or_one c.toNat with h | h <;> rw [h] <;> rfl

theorem tabCells_set (k : Nat) (h : k < 256) : (tabCells k).set k (vU32 (tab (BitVec.ofNat 32 k))) = tabCells (k + 1) := by
  apply List.ext_getElem?
  intro i
  rw [List.getElem?_set]
  unfold tabCells
  by_cases hi : i < 256
  · by_cases he : k = i
    · subst he; simp [h]
    · simp [he, hi]
      by_cases h1 : i < k
      · rw [if_pos h1, if_pos (by omega)]
      · rw [if_neg h1, if_neg (by omega)]
  · simp [hi]; omega

theorem tab_zv (w : World) : (zeroValue 148).run Try.prog w = .ok (.agg (tabCells 0).toArray) w := by kernel_rfl

theorem tabCells_at (k : Nat) (h : k < 256) : (tabCells k).toArray[k]? = some (.int .u32 0) := by
  simp [tabCells, h]

theorem tabCells_setA (k : Nat) (h : k < 256) : (tabCells k).toArray.setIfInBounds k (vU32 (tab (BitVec.ofNat 32 k))) = (tabCells (k + 1)).toArray := by
  rw [← tabCells_set k h]; simp

set_option maxRecDepth 100000 in
set_option maxHeartbeats 400000 in
theorem tables_any (w : World) :
    Calls Try.prog 100 #[] w fun e w' => e = .returned (.pointer (some ⟨w.heap.size, 0, none⟩)) ∧ w' = w.alloc (.cells (tabCells 256).toArray 148) := by
  have hz := tab_zv
  go_enter Try.func100, Try.ntmps100
  go_wp2
  clear hz
  go_loopw [7] (fun i wr => ∃ k : Nat, ∃ C : Array Value, k ≤ 256 ∧ i = .int .i64 k ∧ Hid (C = (tabCells k).toArray) ∧ wr = w.alloc (.cells C 148)) (fun i _ => 256 - (intOf i).toNat)
  case atStart => exact ⟨0, _, Nat.zero_le _, rfl, hid (by kernel_rfl), rfl⟩
  case round =>
    obtain ⟨k, C, hk, rfl, hC, rfl⟩ := hrel
    by_cases hlt : k < 256
    · have hCk : C[k]? = some (.int .u32 0) := by rw [hC.out]; exact tabCells_at k hlt
      go_wp2
      go_loop [3, 12] (fun c j => ∃ n : Nat, n ≤ 8 ∧ j = .int .i64 n ∧ c = vU32 (crcBits n (BitVec.ofNat 32 k))) (fun _ j => 8 - (intOf j).toNat)
      case atStart =>
        exact ⟨0, Nat.zero_le _, rfl, by simp [crcBits]; omega⟩
      case round =>
        obtain ⟨n, hn, rfl, rfl⟩ := hrel
        have hcb := u32_bound (crcBits n (BitVec.ofNat 32 k))
        by_cases hnl : n < 8
        · go_wp2
          go_round
          case rel => exact ⟨n + 1, by omega, by go_num, by rw [crcBits_succ, bit_eq]⟩
          case measure => simp [intOf]; omega
        · obtain rfl : n = 8 := by omega
          go_wp2
          go_roundw
          case rel => exact ⟨k + 1, _, by omega, by go_num, by rw [hC.out]; exact tabCells_setA k hlt, rfl⟩
          case measure => simp [intOf]; omega
    · obtain rfl : k = 256 := by omega
      go_wp2
      go_ret
      exact ⟨rfl, by rw [hC.out]⟩

/-! More, Of -/
theorem tabCells_get (i : Nat) (h : i < 256) : (tabCells 256)[i]? = some (vU32 (tab (BitVec.ofNat 32 i))) := by
  simp [tabCells, h]

theorem table_any (w : World) :
    Calls Try.prog 100 #[] w fun e w' => ∃ b, e = .returned (.pointer (some ⟨b, 0, none⟩)) ∧ Hid (∀ i : Nat, i < 256 → w'.cell? ⟨b, i, none⟩ = some (vU32 (tab (BitVec.ofNat 32 i)))) ∧ Only [] w w' := by
  refine (tables_any w).mono ?_
  rintro e w' ⟨rfl, rfl⟩
  refine ⟨w.heap.size, rfl, ?_, (Only.refl [] w).alloc _⟩
  intro i hi
  rw [World.cell?_alloc_new, List.getElem?_toArray]
  exact tabCells_get i hi

theorem crcRaw_snoc (c : BitVec 32) (l : List UInt8) (k : Nat) (h : k < l.length) : crcRaw c (l.take (k + 1)) = crcByte (crcRaw c (l.take k)) l[k] := by
  rw [List.take_succ_eq_append_getElem h, crcRaw_append]; rfl

theorem not_u32 (c : BitVec 32) : bits .xor .u32 4294967295 (c.toNat : Int) = ((~~~ c).toNat : Int) := by
  have h1 := c.isLt
  rw [show (4294967295 : Int) = ((4294967295 : Nat) : Int) from rfl, u32_xor_nat _ _ (by omega) (by omega)]
  congr 1

def place (c : BitVec 32) (x : UInt8) : Nat := ((c ^^^ x.toBitVec.setWidth 32) &&& 0xff#32).toNat
theorem place_lt (c : BitVec 32) (x : UInt8) : place c x < 256 := by
  unfold place
  rw [BitVec.toNat_and]
  exact Nat.lt_of_le_of_lt Nat.and_le_right (by decide)
theorem place_eq (c : BitVec 32) (x : UInt8) : bits .xor .u8 ((c.toNat : Int) % 256) (x.toNat : Int) = (place c x : Int) := by
  have h1 := c.isLt
  have h2 := UInt8.toNat_lt x
  rw [show ((c.toNat : Int) % 256) = ((c.toNat % 256 : Nat) : Int) by omega, u8_xor_nat _ _ (by omega) (by omega)]
  congr 1
  unfold place
  rw [BitVec.toNat_and, BitVec.toNat_xor, BitVec.toNat_setWidth, UInt8.toNat_toBitVec]
  rw [show (0xff#32).toNat = 2 ^ 8 - 1 by decide, Nat.and_two_pow_sub_one_eq_mod, Nat.xor_mod_two_pow]
  rw [Nat.mod_eq_of_lt (show x.toNat < 2 ^ 32 by omega), Nat.mod_eq_of_lt (show x.toNat < 2 ^ 8 by omega)]

theorem step_eq (c : BitVec 32) (x : UInt8) : bits .xor .u32 ((tab (BitVec.ofNat 32 (place c x))).toNat : Int) ((c.toNat : Int) / 256) = ((crcByte c x).toNat : Int) := by
  have h1 := c.isLt
  have h2 := (tab (BitVec.ofNat 32 (place c x))).isLt
  rw [show ((c.toNat : Int) / 256) = ((c.toNat / 256 : Nat) : Int) by omega, u32_xor_nat _ _ (by omega) (by omega)]
  congr 1
  rw [crcByte_tab, BitVec.toNat_xor, BitVec.toNat_ushiftRight, Nat.shiftRight_eq_div_pow]
  unfold place
  rw [BitVec.ofNat_toNat, BitVec.setWidth_eq]

set_option maxHeartbeats 400000 in
theorem more_any (v : Value) (l : List UInt8) (c : BitVec 32) (w : World) (hB : Bs w v l) :
    Calls Try.prog 99 #[vU32 c, v] w fun e w' => e = .returned (vU32 (~~~ crcRaw (~~~ c) l)) ∧ Only [] w w' := by
  obtain ⟨hl0, a, cap, rfl, h1, h2, h3, h4⟩ := id hB
  have hcb := u32_bound c
  have hsg : IntKind.u32.signed = false := rfl
  have hmx : IntKind.u32.max = 4294967295 := by decide
  go_enter Try.func99, Try.ntmps99
  go_wp2_with (go_at_call 100; refine (table_any _).mono ?_; rintro e w1 ⟨tb, rfl, ht, ho⟩)
  clear h4
  have h5 := (Cs.kept0 hB ho).2
  obtain ⟨a', cap', he, _, _, _, h4⟩ := h5
  obtain ⟨rfl, rfl⟩ : a = a' ∧ cap = cap' := by simp at he; exact he
  clear he
  go_loop [6, 14] (fun s i => ∃ k : Nat, k ≤ l.length ∧ i = .int .i64 k ∧ s = vU32 (crcRaw (~~~ c) (l.take k))) (fun _ i => l.length - (intOf i).toNat)
  case atStart => exact ⟨0, Nat.zero_le _, rfl, by rw [not_u32]; rfl⟩
  case round =>
    obtain ⟨k, hk, rfl, rfl⟩ := hrel
    by_cases hlt : k < l.length
    · rcases h4 with h4 | ⟨b, o, rfl, h4⟩
      · exact absurd h4 (by intro h5; simp [bytes] at h5; simp [h5] at hlt)
      have hck := h4 k _ (bytes_get hlt)
      have hb := u8_bound l[k]
      have hcb := u32_bound (crcRaw (~~~ c) (l.take k))
      have hp := place_eq (crcRaw (~~~ c) (l.take k)) l[k]
      have hpl := place_lt (crcRaw (~~~ c) (l.take k)) l[k]
      have ht' := ht.out _ hpl
      clear h4
      go_wp2
      go_round
      case rel => exact ⟨k + 1, by omega, by go_num, by rw [step_eq, crcRaw_snoc _ l k hlt]⟩
      case measure => simp [intOf]; omega
    · obtain rfl : k = l.length := by omega
      rw [List.take_length]
      go_wp2
      go_ret
      exact ⟨by rw [not_u32]; rfl, ho⟩

theorem of_any (v : Value) (l : List UInt8) (w : World) (h : Bs w v l) :
    Calls Try.prog 97 #[v] w fun e w' => e = .returned (vU32 (crcOf l)) ∧ Only [] w w' := by
  go_enter Try.func97, Try.ntmps97
  go_wp2_with (go_at_call 99; refine (more_any _ l 0#32 _ h).mono ?_; rintro e w1 ⟨rfl, ho⟩)
  go_ret
  exact ⟨rfl, ho⟩
end Go.Proofs.Ytnlmeaijnfjakaa.Sh
