/- awake of layer 9, walked. -/
import Derived.Test.YtcceiejfphokbaaCrcD
import Derived.Lib.SlBytesConst
namespace Go.Proofs.Ytcceiejfphokbaa.Sh
open Go Go.RowKit

theorem crc_seven : crcOf [49, 50, 51, 52, 53, 54, 55, 56, 57] = 0xcbf43926#32 := by decide +kernel

set_option maxHeartbeats 800000 in
theorem awake09_any (w : World) :
    Calls Try.prog 15 #[] w fun e w' => e = .returned (.bool true) ∧ Only [] w w' := by
  have kc := fun (w : World) (C : Array Value) (n c : Nat) => Lib.run_convert_bytes_const (P := Try.prog) w 22 5 C n c Try.underlying22 Try.underlying5
  go_enter Try.func15, Try.ntmps15
  go_wp2_with fail
  refine (frame_good _ [7] _ ?_ (by simp) (by simp)).mono ?_
  · exact cs_built w [.int .u8 7] 5 1 1 (0, 0) rfl (by omega)
  rintro e w1 ⟨v1, rfl, hf1, ho1⟩
  have hf1 := own_cast hf1 (show _ = 7 by rw [frameL_length]; rfl) rfl
  obtain ⟨a1, c1, rfl⟩ := own_form hf1
  go_wp2_with fail
  refine (of_any _ [49, 50, 51, 52, 53, 54, 55, 56, 57] _ ?_).mono ?_
  · exact cs_built w1 [.int .u8 49, .int .u8 50, .int .u8 51, .int .u8 52, .int .u8 53, .int .u8 54, .int .u8 55, .int .u8 56, .int .u8 57] 5 1 9 (9, 10) rfl (by omega)
  rintro e w2 ⟨rfl, ho2⟩
  rw [crc_seven]
  go_wp2
  go_ret
  exact ⟨rfl, (((Only.refl [] w).alloc _).trans0 ho1).trans0 (((Only.refl [] w1).alloc _).trans0 ho2)⟩
end Go.Proofs.Ytcceiejfphokbaa.Sh
