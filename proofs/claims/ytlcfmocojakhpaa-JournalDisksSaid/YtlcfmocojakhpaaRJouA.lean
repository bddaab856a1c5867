/- The document's disks: all bytes: walked. -/
import Derived.Test.YtlcfmocojakhpaaJouI
import Derived.Deep.RegionLaw
namespace Go.Proofs.Ytlcfmocojakhpaa.Sh
open Go Go.RowKit

set_option maxRecDepth 20000 in
set_option maxHeartbeats 1600000 in
theorem rall_any (w : World) (fv lv : Value) (f l : List UInt8) (hf : Bs w fv f) (hl : Bs w lv l) (hlen : f.length + l.length ≤ 500000) :
    Calls Try.prog 13 #[dskV fv lv] w fun e w' => ∃ v', e = .returned v' ∧ Fresh w w' v' (f ++ l) ∧ Only [] w w' := by
  obtain ⟨fa, fc, rfl⟩ := bs_form hf
  obtain ⟨la, lc, rfl⟩ := bs_form hl
  obtain ⟨w1, hw1⟩ : ∃ w1, w1 = w.alloc (Obj.cells #[.slice fa f.length fc, .slice la l.length lc] 24) := ⟨_, rfl⟩
  have o1 : Only [] w w1 := by rw [hw1]; exact (Only.refl [] w).alloc _
  have c0 : w1.cell? ⟨w.heap.size, 0, none⟩ = some (.slice fa f.length fc) := by rw [hw1]; simp [go_sem]
  have c1 : w1.cell? ⟨w.heap.size, 1, none⟩ = some (.slice la l.length lc) := by rw [hw1]; simp [go_sem]
  have hs1 : w1.heap.size = w.heap.size + 1 := by rw [hw1]; simp
  have hf1 := hf.kept0 o1
  have hl1 := hl.kept0 o1
  go_enter Try.func13, Try.ntmps13
  go_wp2_with fail
  rw [← hw1]
  clear hw1
  have hod : Only [] w1 (w1.alloc (Obj.cells #[] 5)).drew := ((Only.refl [] w1).alloc _).drew
  have ob : (w1.alloc (Obj.cells #[] 5)).drew.ownsRow w1.heap.size 5 1 (.slice (some ⟨w1.heap.size, 0, none⟩) 0 0) 0 [] := ownsRow_drew (own_built w1 [] 5 1 0 rfl (by unfold maxLen; omega))
  have HS1 := hid hs1
  clear hs1
  have e0 := hod.cell c0 (by simp)
  have e1 := hod.cell c1 (by simp)
  go_region_law (first
    | ((refine step_app (by rfl) _ _ 22 (by rfl) w1.heap.size 5 1 1 el_u8 (by rfl) ob (by rfl) (hf1.kept0 hod) (bytes_one f) (by omega) (by omega) (by simp) ?_); intro v2 w2 own2 app2; rw [Nat.zero_add, List.nil_append] at own2; have p2 : Only [] w1 w2 := hod.app app2 (fun i hi => .inr (ob.lt i hi).1); obtain ⟨xa, xc, rfl⟩ := own_form own2; have d0 := p2.cell c0 (by simp); have d1 := p2.cell c1 (by simp))
    | ((refine step_app (by rfl) _ _ 22 (by rfl) w1.heap.size 5 1 1 el_u8 (by rfl) own2 (by rfl) (hl1.kept0 p2) (bytes_one l) (by omega) (by omega) (by have := p2.size; omega) ?_); intro v3 w3 own3 app3; have p3 : Only [] w1 w3 := p2.app app3 (fun i hi => .inr (own2.lt i hi).1); obtain ⟨ya, yc, rfl⟩ := own_form own3))
  all_goals
    go_wp2
    go_ret
    exact ⟨_, rfl, own_lower (own_cast own3 (by simp) (by simp)) (by have := HS1.out; omega), o1.trans0 p3⟩
end Go.Proofs.Ytlcfmocojakhpaa.Sh
