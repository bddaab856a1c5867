/- The checksum's functions, walked: tables, More, Of, put, get. -/
import Derived.Test.YtnlmeaijnfjakaaProg
import Derived.Test.YtnlmeaijnfjakaaBase
import Derived.Test.YtnlmeaijnfjakaaPlCrc
namespace Go.Proofs.Ytnlmeaijnfjakaa.Sh
set_option linter.unusedSimpArgs false
set_option linter.unusedVariables false
open Go Go.RowKit

def getF (l : List UInt8) : BitVec 32 := l.foldl (fun c x => (c <<< 8) ||| x.toBitVec.setWidth 32) 0#32

theorem or_shl8 (c : BitVec 32) (x : UInt8) : bits .or .u32 ((c.toNat : Int) * 256 % 4294967296) (x.toNat : Int) = (((c <<< 8) ||| x.toBitVec.setWidth 32).toNat : Int) := by
  have h1 := c.isLt
  have h2 := UInt8.toNat_lt x
  have e : ((c.toNat : Int) * 256 % 4294967296) = ((c.toNat * 256 % 4294967296 : Nat) : Int) := by omega
  rw [e, u32_or_nat _ _ (by omega) (by omega), BitVec.toNat_or, BitVec.toNat_shiftLeft, BitVec.toNat_setWidth, Nat.shiftLeft_eq]
  have e2 : x.toBitVec.toNat % 2 ^ 32 = x.toNat := by
    rw [UInt8.toNat_toBitVec]; omega
  rw [e2]

theorem getF_snoc (l : List UInt8) (k : Nat) (h : k < l.length) : getF (l.take (k + 1)) = (getF (l.take k) <<< 8) ||| l[k].toBitVec.setWidth 32 := by
  unfold getF
  rw [List.take_succ_eq_append_getElem h, List.foldl_append]
  rfl

set_option maxHeartbeats 400000 in
theorem get_any (v : Value) (l : List UInt8) (w : World) (h : Bs w v l) :
    Calls Try.prog 96 #[v] w fun e w' => e = .returned (vU32 (getF l)) ∧ w = w' := by
  obtain ⟨_, a, cap, rfl, h1, h2, h3, h4⟩ := h
  go_enter Try.func96, Try.ntmps96
  go_wp2
  go_loop [3, 8] (fun n i => ∃ k : Nat, k ≤ l.length ∧ i = .int .i64 k ∧ n = vU32 (getF (l.take k))) (fun _ i => l.length - (intOf i).toNat)
  case atStart => exact ⟨0, Nat.zero_le _, rfl, rfl⟩
  case round =>
    obtain ⟨k, hk, rfl, rfl⟩ := hrel
    by_cases hlt : k < l.length
    · rcases h4 with h4 | ⟨b, o, rfl, h4⟩
      · exact absurd h4 (by intro h5; simp [bytes] at h5; simp [h5] at hlt)
      have hck := h4 k _ (bytes_get hlt)
      have hb := u8_bound l[k]
      have hcb := u32_bound (getF (l.take k))
      clear h4
      go_wp2
      go_round
      case rel => exact ⟨k + 1, by omega, by go_num, by rw [or_shl8, getF_snoc l k hlt]⟩
      case measure => simp [intOf]; omega
    · obtain rfl : k = l.length := by omega
      rw [List.take_length]
      go_wp2
      go_ret
      exact ⟨rfl, rfl⟩

end Go.Proofs.Ytnlmeaijnfjakaa.Sh
