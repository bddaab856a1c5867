/- awake of the set's whole program, walked. -/
import Derived.Test.YtejilfhoeljhkaaTrI
import Derived.Test.YtejilfhoeljhkaaTrE
namespace Go.Proofs.Ytejilfhoeljhkaa.Sh
open Go Go.RowKit

theorem mul_23 (w : World) (b : Nat) (hf : Fld w b) : Calls Try.prog 11 #[.pointer (some ⟨b, 0, none⟩), .int .u8 2, .int .u8 3] w fun e w' => e = .returned (.int .u8 6) ∧ Only [] w w' := by
  refine (mul_any w b 2 3 hf).mono ?_
  rintro e w' ⟨⟨z, rfl, hz⟩, ho⟩
  obtain rfl := hz rfl rfl
  exact ⟨rfl, ho⟩

theorem less_12 (w : World) : Calls Try.prog 7 #[.float .f64 4607182418800017408, .float .f64 4611686018427387904] w fun e w' => e = .returned (.bool true) ∧ w' = w := by
  exact less_any w _ _ .lt (by decide +kernel) (by decide +kernel) (by decide +kernel) (by omega) (by omega)

theorem rank_21 (w : World) : Calls Try.prog 5 #[.int .u64 2, .int .i64 1, .int .u64 1, .int .i64 1] w fun e w' => e = .returned (.int .i64 1) ∧ Only [] w w' :=
  rank_any w 2 1 1 1 (by omega) (by omega) (by omega) (by omega) (by omega) (by omega)

set_option maxRecDepth 20000 in
set_option maxHeartbeats 1600000 in
theorem awake_top (w : World) :
    Calls Try.prog 4 #[] w fun e w' => e = .returned (.bool true) ∧ Only [] w w' := by
  go_enter Try.func4, Try.ntmps4
  go_wp2_with fail
  refine (new_any w).mono ?_
  rintro e w1 ⟨⟨fb, E, L, rfl, hb, hT⟩, o1⟩
  have hf1 : Hid (Fld w1 fb) := hid ⟨E, L, hT⟩
  clear hT
  go_wp2_with fail
  obtain ⟨w2, hw2⟩ : ∃ w2, w2 = w1.alloc (.cells #[.int .u8 7] 5) := ⟨_, rfl⟩
  rw [← hw2]
  obtain ⟨w3, hw3⟩ : ∃ w3, w3 = w2.alloc (.cells #[.int .u8 1] 5) := ⟨_, rfl⟩
  rw [← hw3]
  have o2 : Only [] w1 w2 := by rw [hw2]; exact (Only.refl [] w1).alloc _
  have o3 : Only [] w2 w3 := by rw [hw3]; exact (Only.refl [] w2).alloc _
  have hs : w3.cell? ⟨w1.heap.size, 0, none⟩ = some (vU8 7) := o3.cell (by rw [hw2]; simp [go_sem]) (by simp)
  have hc : Bs w3 (.slice (some ⟨w2.heap.size, 0, none⟩) 1 1) [1] := by rw [hw3]; exact cs_built w2 [.int .u8 1] 5 1 1 _ rfl (by omega)
  have hf3 := hid ((hf1.out.kept o2).kept o3)
  have s2 : w2.heap.size = w1.heap.size + 1 := by rw [hw2]; simp
  rw [s2] at hc
  clear s2
  have o13 := (o1.trans0 o2).trans0 o3
  refine (deal_any w3 fb w1.heap.size (w1.heap.size + 1) 7 1 hf3.out hs hc).mono ?_
  rintro e w4 ⟨⟨a, cap, rfl⟩, o4⟩
  have hf4 := hid (hf3.out.kept o4)
  clear hs hc hf1 hf3 hw2 hw3
  go_wp2_with fail
  refine (mul_23 _ fb hf4.out).mono ?_
  rintro e w5 ⟨rfl, o5⟩
  go_wp2_with fail
  refine (less_12 _).mono ?_
  rintro e w' ⟨rfl, rfl⟩
  go_wp2_with fail
  refine (rank_21 _).mono ?_
  rintro e w6 ⟨rfl, o6⟩
  go_wp2
  go_ret
  exact ⟨rfl, ((o13.trans0 o4).trans0 o5).trans0 o6⟩
end Go.Proofs.Ytejilfhoeljhkaa.Sh
