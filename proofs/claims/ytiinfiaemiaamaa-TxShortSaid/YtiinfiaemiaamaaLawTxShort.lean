/- An order is no longer than 29 bytes: the law's walk. -/
import Derived.Test.YtiinfiaemiaamaaTxF
namespace Go.Proofs.Ytiinfiaemiaamaa.Sh
open Go Go.RowKit

theorem numB_pos (n : Nat) : 1 ≤ (numB n).length := by
  rw [numB]
  split <;> simp
theorem encE_short (k t : Int) (a : Nat) (m : List UInt8) (ha : a < 18446744073709551616) (h : rightB k t a m.length = true) : (encE k t a m).1 = 0 ∧ 4 ≤ (encE k t a m).2.length ∧ (encE k t a m).2.length ≤ 29 ∧ m.length < (encE k t a m).2.length := by
  obtain ⟨kn, tn, rfl, rfl, h1, h2, h3, h4⟩ := right_nat h
  unfold encE
  rw [if_pos h]
  have e1 := numB_pos a
  have e2 := numB_length 10 a (by omega) (by omega)
  refine ⟨rfl, ?_⟩
  simp only [Int.toNat_natCast]
  unfold encB textB
  rw [numB_small kn (by omega), numB_small tn (by omega), numB_small m.length (by omega)]
  simp only [List.length_append, List.length_cons, List.length_nil]
  omega

set_option maxRecDepth 20000 in
set_option maxHeartbeats 3200000 in
theorem txShort_walk (w : World) {v : Value} {T : TxM} (hv : TxRep w v T) :
    Calls Try.prog 8 #[v] w fun e w' => e = .returned (.bool true) ∧ Only [] w w' := by
  obtain ⟨k, t, a, m⟩ := T
  obtain ⟨mv, rfl, hm, _, _, ha⟩ := hv
  simp only at hm ha
  obtain ⟨ma, mc, rfl⟩ := bs_form' hm
  obtain ⟨w1, hw1⟩ : ∃ w1, w1 = w.alloc (Obj.cells #[.int .i64 k, .int .i64 t, .int .u64 (a : Int), .slice ma m.length mc] 37) := ⟨_, rfl⟩
  have o1 : Only [] w w1 := by rw [hw1]; exact (Only.refl [] w).alloc _
  have c0 : w1.cell? ⟨w.heap.size, 0, none⟩ = some (.int .i64 k) := by rw [hw1]; simp [go_sem]
  have c1 : w1.cell? ⟨w.heap.size, 1, none⟩ = some (.int .i64 t) := by rw [hw1]; simp [go_sem]
  have c2 : w1.cell? ⟨w.heap.size, 2, none⟩ = some (.int .u64 (a : Int)) := by rw [hw1]; simp [go_sem]
  have c3 : w1.cell? ⟨w.heap.size, 3, none⟩ = some (.slice ma m.length mc) := by rw [hw1]; simp [go_sem]
  by_cases q1 : 100 < m.length
  · have h1 := c3
    go_enter Try.func8, Try.ntmps8
    go_wp2_with fail
    rw [← hw1]
    clear hw1
    refine (awake14_any _).mono ?_
    rintro e w2 ⟨rfl, o2⟩
    replace c3 := o2.cell c3 (by simp)
    clear h1
    go_wp2_with fail
    refine (awake14_any _).mono ?_
    rintro e w3 ⟨rfl, o3⟩
    go_wp2
    go_ret
    exact ⟨rfl, (o1.trans0 o2).trans0 o3⟩
  have he := fun W (h : Bs W (.slice ma m.length mc) m) => encode_any W k t a _ m h ha
  have hri := hid (fun W (h : Bs W (.slice ma m.length mc) m) => rright_any W k t a _ m h)
  have hm1 := hm.kept0 o1
  by_cases hr : rightB k t a m.length = true
  · obtain ⟨e0, e4, e29, em⟩ := encE_short k t a m ha hr
    simp only [e0] at he
    obtain ⟨x, hx⟩ : ∃ x, x = (encE k t a m).2 := ⟨_, rfl⟩
    simp only [← hx] at he
    rw [← hx] at e4 e29 em
    replace he := hid he
    have e4' : ¬ x.length < 4 := by omega
    have e29' : ¬ 29 < x.length := by omega
    clear hx hr hri e0
    go_enter Try.func8, Try.ntmps8
    go_wp2_with fail
    rw [← hw1]
    clear hw1
    refine (awake14_any _).mono ?_
    rintro e w2 ⟨rfl, o2⟩
    replace c0 := o2.cell c0 (by simp)
    replace c1 := o2.cell c1 (by simp)
    replace c2 := o2.cell c2 (by simp)
    replace c3 := o2.cell c3 (by simp)
    have hm2 := hm1.kept0 o2
    go_wp2_with fail
    refine (he.out _ hm2).mono ?_
    rintro e w3 ⟨x1, rfl, bx1, o3⟩
    obtain ⟨xa, xc, rfl⟩ := bs_form' bx1
    replace c3 := o3.cell c3 (by simp)
    go_wp2
    go_ret
    exact ⟨rfl, (o1.trans0 o2).trans0 o3⟩
  · have hE : encE k t a m = (1, []) := by unfold encE; rw [if_neg hr]
    simp only [hE] at he
    simp only [Bool.not_eq_true] at hr
    rw [hr] at hri
    replace he := hid he
    clear hr hE
    go_enter Try.func8, Try.ntmps8
    go_wp2_with fail
    rw [← hw1]
    clear hw1
    refine (awake14_any _).mono ?_
    rintro e w2 ⟨rfl, o2⟩
    replace c0 := o2.cell c0 (by simp)
    replace c1 := o2.cell c1 (by simp)
    replace c2 := o2.cell c2 (by simp)
    replace c3 := o2.cell c3 (by simp)
    have hm2 := hm1.kept0 o2
    go_wp2_with fail
    refine (he.out _ hm2).mono ?_
    rintro e w3 ⟨x1, rfl, bx1, o3⟩
    obtain ⟨xa, xc, rfl⟩ := bs_form' bx1
    replace c0 := o3.cell c0 (by simp)
    replace c1 := o3.cell c1 (by simp)
    replace c2 := o3.cell c2 (by simp)
    replace c3 := o3.cell c3 (by simp)
    have hm3 := hm2.kept0 o3
    go_wp2_with fail
    refine (hri.out _ hm3).mono ?_
    rintro e w4 ⟨rfl, o4⟩
    go_wp2
    go_ret
    exact ⟨rfl, ((o1.trans0 o2).trans0 o3).trans0 o4⟩
end Go.Proofs.Ytiinfiaemiaamaa.Sh
