/- The codec's way to write, walked; what is awake. -/
import Derived.Test.YtnlmeaijnfjakaaCodecD
import Derived.Test.YtnlmeaijnfjakaaCodecB
import Derived.Test.YtnlmeaijnfjakaaSame
namespace Go.Proofs.Ytnlmeaijnfjakaa.Sh
set_option linter.unusedSimpArgs false
set_option linter.unusedVariables false
open Go Go.RowKit

/-- A number's bytes. -/
def numB (n : Nat) : List UInt8 := if n < 128 then [UInt8.ofNat n] else UInt8.ofNat (n % 128 + 128) :: numB (n / 128)
termination_by n
decreasing_by omega

theorem numB_length (k : Nat) : ∀ n, n < 128 ^ k → 0 < k → (numB n).length ≤ k := by
  induction k with
  | zero => intro n _ h; omega
  | succ k ih =>
    intro n hn _
    rw [numB]
    split
    · simp
    · rename_i h
      by_cases hk : k = 0
      · subst hk; omega
      · rw [List.length_cons]
        have := ih (n / 128) (by rw [Nat.pow_succ] at hn; omega) (by omega)
        omega

theorem or_128 : ∀ x < 256, x ||| 128 = x % 128 + 128 := by decide +kernel
theorem byte_more (m : Nat) : Value.int .u8 (bits .or .u8 ((m : Int) % 256) 128) = vU8 (UInt8.ofNat (m % 128 + 128)) := by
  rw [show ((m : Int) % 256) = ((m % 256 : Nat) : Int) by omega, show (128 : Int) = ((128 : Nat) : Int) from rfl, u8_or_nat _ _ (by omega) (by omega), or_128 _ (by omega)]
  congr 2
  rw [UInt8.toNat_ofNat']
  omega
theorem byte_last (m : Nat) (h : m < 128) : Value.int .u8 (m : Int) = vU8 (UInt8.ofNat m) := by
  congr 2
  rw [UInt8.toNat_ofNat']
  omega

set_option maxRecDepth 20000 in
set_option maxHeartbeats 1600000 in
theorem putNum_any (v : Value) (xs : List UInt8) (n B : Nat) (w : World) (hown : w.ownsRow B 5 1 v xs.length (bytes xs)) (hx : xs.length ≤ 1000000) (hn : n < 18446744073709551616) (hB : B ≤ w.heap.size) :
    Calls Try.prog 38 #[v, .int .u64 n] w fun e w' => ∃ v', e = .returned v' ∧ w'.ownsRow B 5 1 v' (xs ++ numB n).length (bytes (xs ++ numB n)) ∧ App w w' v v' := by
  obtain ⟨a, c, rfl⟩ := own_form hown
  go_enter Try.func38, Try.ntmps38
  go_wp2_with fail
  go_loopw [0, 1] (fun b i wr => ∃ (k m : Nat) (ys : List UInt8), k ≤ 9 ∧ i = .int .u64 m ∧ m < 128 ^ (10 - k) ∧ m < 18446744073709551616 ∧ ys.length = xs.length + k ∧ Hid (xs ++ numB n = ys ++ numB m) ∧ wr.ownsRow B 5 1 b ys.length (bytes ys) ∧ App w wr (.slice a xs.length c) b ∧ w.heap.size ≤ wr.heap.size) (fun _ i _ => (intOf i).toNat)
  case atStart => exact ⟨0, n, xs, by omega, rfl, by omega, hn, rfl, rfl, hown, App.refl _ _, Nat.le_refl _⟩
  case round =>
    obtain ⟨k, m, ys, hk, rfl, hm, hm64, hyl, hF, ho, happ, hsz⟩ := hrel
    obtain ⟨b, cb, rfl⟩ := own_form ho
    by_cases h128 : m < 128
    · have hpost := hid (show numB m = [UInt8.ofNat m] by rw [numB, if_pos h128])
      have hby := hid (byte_last m h128)
      clear hm
      go_wp2_with (at_builtin; refine wpList_app1 (by rfl) _ _ 27 (by rfl) B 5 1 1 el_u8 (by rfl) ho [_] (by rfl) rfl (one1 rfl) (by omega) (by omega) (by omega) ?_; intro v2 w2 hown2 happ2)
      go_ret
      refine ⟨_, rfl, own_cast hown2 ?_ ?_, happ.trans happ2⟩
      · rw [hF.out, hpost.out]; simp
      · rw [hF.out, hpost.out, hby.out]; simp [bytes]
    · have hnb := hid (show numB m = UInt8.ofNat (m % 128 + 128) :: numB (m / 128) by rw [numB, if_neg h128])
      have hby := hid (byte_more m)
      have hk9 : k < 9 := by
        rcases Nat.lt_or_ge k 9 with h | h
        · exact h
        · obtain rfl : k = 9 := by omega
          simp at hm; omega
      have HM := hid (show m / 128 < 128 ^ (10 - (k + 1)) by
        rw [show 10 - k = (10 - (k + 1)) + 1 by omega, Nat.pow_succ] at hm
        omega)
      have hs2 := hsz
      clear hm
      go_wp2_with (at_builtin; refine wpList_app1 (by rfl) _ _ 27 (by rfl) B 5 1 1 el_u8 (by rfl) ho [_] (by rfl) rfl (one1 rfl) (by omega) (by omega) (by omega) ?_; intro v2 w2 hown2 happ2)
      go_roundw
      case rel =>
        refine ⟨k + 1, m / 128, ys ++ [UInt8.ofNat (m % 128 + 128)], by omega, by rw [Int.natCast_ediv]; rfl, HM, by omega, by simp; omega, hid (by rw [hF.out, hnb.out]; simp), own_cast hown2 (by simp) (by rw [hby.out]; simp [bytes]), happ.trans happ2, Nat.le_trans hsz happ2.grown.size⟩
      case measure => simp [intOf]; omega
end Go.Proofs.Ytnlmeaijnfjakaa.Sh
