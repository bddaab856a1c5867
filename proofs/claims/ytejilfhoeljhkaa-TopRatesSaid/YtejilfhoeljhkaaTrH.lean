/- TopRates: a secret, dealt. -/
import Derived.Test.YtejilfhoeljhkaaTrG
import Derived.Test.YtejilfhoeljhkaaStepApp
import Derived.Deep.RegionLaw
namespace Go.Proofs.Ytejilfhoeljhkaa.Sh
open Go Go.RowKit

theorem el_u8 : El Try.prog 36 5 1 1 := el_mk (z := .int .u8 0) Try.underlying36 (by kernel_rfl) rfl (by omega)

set_option maxRecDepth 20000 in
set_option maxHeartbeats 1600000 in
theorem curve_any (w : World) (sb cb : Nat) (s c : UInt8) (hs : w.cell? ⟨sb, 0, none⟩ = some (vU8 s)) (hc : Bs w (.slice (some ⟨cb, 0, none⟩) 1 1) [c]) :
    Calls Try.prog 18 #[.slice (some ⟨sb, 0, none⟩) 1 1, .slice (some ⟨cb, 0, none⟩) 1 1, .int .i64 2, .int .i64 0] w fun e w' => ∃ cv, e = .returned cv ∧ Bs w' cv [s, c] ∧ (∀ k, cv.ownBlock = some k → w.heap.size ≤ k) ∧ Only [] w w' := by
  have e0 : IntKind.i64.wrap 0 = 0 := by rfl
  have e1 : IntKind.i64.wrap 1 = 1 := by rfl
  go_enter Try.func18, Try.ntmps18
  go_wp2_with fail
  have hod : Only [] w (w.alloc (Obj.cells #[vU8 s] 5)).drew := ((Only.refl [] w).alloc _).drew
  have ob : (w.alloc (Obj.cells #[vU8 s] 5)).drew.ownsRow w.heap.size 5 1 (.slice (some ⟨w.heap.size, 0, none⟩) 1 1) 1 [vU8 s] := ownsRow_drew (own_built w [vU8 s] 5 1 1 rfl (by unfold maxLen; omega))
  go_region_law (first
    | ((refine step_app (by rfl) _ _ 36 (by rfl) w.heap.size 5 1 1 el_u8 (by rfl) ob (by rfl) (hc.kept0 hod) (bytes_one [c]) (by simp) (by simp) (by simp) ?_); intro v2 w2 own2 app2; have p2 : Only [] w w2 := hod.app app2 (fun i hi => .inr (ob.lt i hi).1); have hfin := hid (Cs.of_own own2 (by simp)); have hfin2 := hid (fun k hk => (own2.lt k hk).1); obtain ⟨xa, xc, rfl⟩ := own_form own2))
  all_goals
    go_wp2
    go_ret
    exact ⟨_, rfl, hfin.out, hfin2.out, p2⟩
end Go.Proofs.Ytejilfhoeljhkaa.Sh
