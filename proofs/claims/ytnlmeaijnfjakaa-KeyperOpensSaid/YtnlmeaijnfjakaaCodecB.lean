/- The codec's numbers, read: walked. -/
import Derived.Test.YtnlmeaijnfjakaaCodecA
import Derived.Laws.BitsAllLaws
import Derived.Laws.Bits64
namespace Go.Proofs.Ytnlmeaijnfjakaa.Sh
set_option linter.unusedSimpArgs false
set_option linter.unusedVariables false
open Go Go.RowKit

/-- A number's bytes, read from place i on: the error (0: none), the number, what is left. -/
def numF : Nat → Nat → List UInt8 → Nat × Nat × List UInt8
  | _, _, [] => (2, 0, [])
  | i, acc, b :: r => if (i = 9 ∧ 1 < b.toNat) ∨ (0 < i ∧ b.toNat = 0) then (14, 0, r) else if b.toNat < 128 then (0, acc + b.toNat * 128 ^ i, r) else numF (i + 1) (acc + b.toNat % 128 * 128 ^ i) r
def numL (most : Nat) (l : List UInt8) : Nat × Nat × List UInt8 := if (numF 0 0 l).1 = 0 ∧ most < (numF 0 0 l).2.1 then (10, 0, (numF 0 0 l).2.2) else numF 0 0 l

def NumPost (rb fb most : Nat) (l : List UInt8) (w : World) (e : Ending) (w' : World) : Prop :=
  Only [rb] w w' ∧ (∃ l', Rd w' rb fb l') ∧ ((numL most l).1 = 0 ∧ e = .returned (.int .u64 ((numL most l).2.1 : Int)) ∧ Rd w' rb fb (numL most l).2.2 ∨ (numL most l).1 ≠ 0 ∧ e = .panicked (ownEnd rb (numL most l).1))

theorem pow_seven (k : Nat) : 128 ^ k = 2 ^ (7 * k) := by rw [Nat.pow_mul]

/-- A byte's place in a number. -/
theorem num_step (k acc m : Nat) (hk : k ≤ 9) (hacc : acc < 128 ^ k) (hm : m < 128) (h9 : k = 9 → m ≤ 1) :
    m * 128 ^ k < 18446744073709551616 ∧ acc + m * 128 ^ k < 18446744073709551616 ∧ acc + m * 128 ^ k < 128 ^ (k + 1) ∧ acc ||| (m * 128 ^ k) = acc + m * 128 ^ k := by
  have hor : acc ||| (m * 128 ^ k) = acc + m * 128 ^ k := by
    rw [pow_seven] at hacc ⊢
    rw [Nat.or_comm, ← Nat.shiftLeft_eq, ← Nat.shiftLeft_add_eq_or_of_lt hacc, Nat.add_comm]
  have hp : 128 ^ (k + 1) = 128 * 128 ^ k := by rw [Nat.pow_succ, Nat.mul_comm]
  have hmul : m * 128 ^ k ≤ 127 * 128 ^ k := Nat.mul_le_mul_right _ (by omega)
  rw [hp]
  by_cases hk9 : k = 9
  · subst hk9
    have := h9 rfl
    have hml : m * 128 ^ 9 ≤ 1 * 128 ^ 9 := Nat.mul_le_mul_right _ this
    refine ⟨?_, ?_, by omega, hor⟩ <;> omega
  · have hle : 128 ^ k ≤ 128 ^ 8 := Nat.pow_le_pow_right (by omega) (by omega)
    refine ⟨?_, ?_, by omega, hor⟩ <;> omega

set_option maxRecDepth 20000 in
set_option maxHeartbeats 3200000 in
theorem number_any (rb fb most : Nat) (l : List UInt8) (w : World) (h : Rd w rb fb l) (hm : most < 18446744073709551616) :
    Calls Try.prog 64 #[.pointer (some ⟨rb, 0, none⟩), .int .u64 most] w (NumPost rb fb most l w) := by
  have hon := h.on
  go_enter Try.func64, Try.ntmps64
  go_wp2_with fail
  go_loopw [5, 6] (fun n i wr => ∃ k acc : Nat, k ≤ 9 ∧ k ≤ l.length ∧ i = .int .i64 k ∧ n = .int .u64 acc ∧ acc < 128 ^ k ∧ Hid (numF 0 0 l = numF k acc (l.drop k)) ∧ Rd wr rb fb (l.drop k) ∧ Only [rb] w wr) (fun _ i _ => 10 - (intOf i).toNat)
  case atStart => exact ⟨0, 0, by omega, by omega, rfl, rfl, by omega, rfl, h, Only.refl _ _⟩
  case round =>
    obtain ⟨k, acc, hk, hkl, rfl, rfl, hacc, hF, hr, ho⟩ := hrel
    by_cases hlt : k < l.length
    · have hde := List.drop_eq_getElem_cons hlt
      obtain ⟨b, hb⟩ : ∃ b, b = l[k] := ⟨_, rfl⟩
      rw [← hb] at hde
      rw [hde] at hF hr
      clear hb hde
      go_wp2_with fail
      refine (take_ok rb fb 1 _ _ hr (by simp)).mono ?_
      rintro e w1 ⟨v1, rfl, hB1, hr1, hp1⟩
      obtain ⟨vb, vo, vc, rfl, _, _, _, hat⟩ := hB1.form (by simp)
      have hld := hat 0 (vU8 b) (by simp [bytes])
      simp only [Nat.add_zero] at hld
      simp only [List.drop_succ_cons, List.drop_zero] at hr1
      have ho1 : Only [rb] w w1 := ho.trans hp1 (by simp) (by simp)
      have hbb := u8_bound b
      have hon1 := hr1.on
      obtain ⟨m, hmm⟩ : ∃ m, m = b.toNat % 128 := ⟨_, rfl⟩
      have hme : (b.toNat : Int) % 128 = (m : Int) := by omega
      have hse : (7 : Int) * (k : Int) = ((7 * k : Nat) : Int) := by omega
      by_cases hbad : (k = 9 ∧ 1 < b.toNat) ∨ (0 < k ∧ b.toNat = 0)
      · have hfin : Hid (numL most l = (14, 0, l.drop (k + 1))) := by
          show numL most l = _
          unfold numL
          rw [hF.out, numF, if_pos hbad]
          simp
        have hpost : NumPost rb fb most l w (.panicked (ownEnd rb 14)) w1 := ⟨ho1, ⟨_, hr1⟩, .inr ⟨by rw [hfin.out]; simp, by rw [hfin.out]⟩⟩
        have hpost := hid hpost
        clear hat hacc hmm hF hfin hm
        rcases hbad with ⟨rfl, hb1⟩ | ⟨hk0, hb0⟩
        · go_wp2_with fail
          refine (fail_any rb fb 14 _ _ hr1 (by omega)).mono ?_
          rintro e w2 ⟨rfl, rfl⟩
          exact ⟨rfl, hpost⟩
        · have hb0' : ((b.toNat : Int) == 0) = true := by rw [beq_iff_eq]; omega
          have hb1 : ¬ 1 < b.toNat := by omega
          by_cases hk9 : k = 9
          · subst hk9
            go_wp2_with fail
            refine (fail_any rb fb 14 _ _ hr1 (by omega)).mono ?_
            rintro e w2 ⟨rfl, rfl⟩
            exact ⟨rfl, hpost⟩
          · have hk9' : ((k : Int) == 9) = false := by rw [beq_eq_false_iff_ne]; omega
            clear hk9
            go_wp2_with fail
            refine (fail_any rb fb 14 _ _ hr1 (by omega)).mono ?_
            rintro e w2 ⟨rfl, rfl⟩
            exact ⟨rfl, hpost⟩
      · have hst := num_step k acc m hk hacc (by omega) (fun h9 => by omega)
        obtain ⟨y, hy⟩ : ∃ y, y = m * 128 ^ k := ⟨_, rfl⟩
        obtain ⟨x, hx⟩ : ∃ x, x = acc + y := ⟨_, rfl⟩
        have hgo := hid (show 128 ≤ b.toNat → numF 0 0 l = numF (k + 1) x (l.drop (k + 1)) by
          intro h128
          rw [hF.out, numF, if_neg hbad, if_neg (by omega), hx, hy, hmm])
        have hlast := hid (show b.toNat < 128 → numF 0 0 l = (0, x, l.drop (k + 1)) by
          intro h128
          rw [hF.out, numF, if_neg hbad, if_pos h128, hx, hy, hmm, Nat.mod_eq_of_lt h128])
        rw [← hy] at hst
        have hwrap : IntKind.u64.wrap ((m : Int) * 2 ^ (7 * k)) = (y : Int) := by
          rw [IntKind.wrap_u64]
          have : (m : Int) * 2 ^ (7 * k) = (y : Int) := by
            rw [hy, pow_seven]
            push_cast
            rfl
          rw [this]
          omega
        have hor : bits .or .u64 (acc : Int) (y : Int) = (x : Int) := by
          rw [u64_or_nat _ _ (by omega) (by omega), hst.2.2.2, hx]
        have hs7 : 7 * k < 64 := by omega
        obtain ⟨s, hs⟩ : ∃ s, s = 7 * k := ⟨_, rfl⟩
        rw [← hs] at hse hwrap hs7
        have hxb : x < 18446744073709551616 := by omega
        have HX := hid (show x < 128 ^ (k + 1) by rw [hx]; exact hst.2.2.1)
        have hle8 : 128 ≤ b.toNat → k + 1 ≤ 9 := by omega
        have hcase : (¬ 0 < k ∧ ((k : Int) == 9) = false) ∨ (0 < k ∧ ((k : Int) == 9) = false ∧ ((b.toNat : Int) == 0) = false) ∨ (0 < k ∧ ((k : Int) == 9) = true ∧ ¬ 1 < b.toNat ∧ ((b.toNat : Int) == 0) = false) := by
          simp only [beq_eq_false_iff_ne, beq_iff_eq, ne_eq]
          omega
        clear hat hacc hmm hF hst hbad hs hy hx
        rcases hcase with ⟨hk0, hk9⟩ | ⟨hk0, hk9, hb0⟩ | ⟨hk0, hk9, hb1, hb0⟩
        all_goals
          by_cases h128 : b.toNat < 128
          · by_cases hover : most < x
            · have hpost : Hid (NumPost rb fb most l w (.panicked (ownEnd rb 10)) w1) := ⟨ho1, ⟨_, hr1⟩, .inr (by
                unfold numL
                rw [hlast.out h128, if_pos ⟨rfl, hover⟩]
                exact ⟨by simp, rfl⟩)⟩
              clear hgo hlast HX hle8
              go_wp2_with fail
              refine (fail_any rb fb 10 _ _ hr1 (by omega)).mono ?_
              rintro e w2 ⟨rfl, rfl⟩
              exact ⟨rfl, hpost⟩
            · have hpost : Hid (NumPost rb fb most l w (.returned (.int .u64 (x : Int))) w1) := ⟨ho1, ⟨_, hr1⟩, .inl (by
                unfold numL
                rw [hlast.out h128, if_neg (by simp only; omega)]
                exact ⟨rfl, rfl, hr1⟩)⟩
              clear hgo hlast HX hle8
              go_wp2
              go_ret
              exact hpost
          · have h9 := hle8 (by omega)
            have hgo := hid (hgo.out (by omega))
            clear hlast hle8
            first
              | (exfalso; omega)
              | (go_wp2
                 go_roundw
                 case rel => exact ⟨k + 1, x, h9, by omega, by go_num, rfl, HX, hgo, hr1, ho1⟩
                 case measure => simp [intOf]; omega)
    · obtain rfl : k = l.length := by omega
      rw [List.drop_length] at hF hr
      have hpost : Hid (NumPost rb fb most l w (.panicked (ownEnd rb 2)) wr) := ⟨ho, ⟨_, hr⟩, .inr (by
        unfold numL
        rw [hF.out, numF, if_neg (by simp)]
        exact ⟨by simp, rfl⟩)⟩
      go_wp2_with fail
      refine (take_short rb fb 1 [] _ hr (by simp) (by omega)).mono ?_
      rintro e w1 ⟨rfl, rfl⟩
      exact ⟨rfl, hpost⟩
end Go.Proofs.Ytnlmeaijnfjakaa.Sh
