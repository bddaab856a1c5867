/- Two orders that can be have the same bytes just if they are alike: the law's walk. -/
import Derived.Test.YtiinfiaemiaamaaTxF
namespace Go.Proofs.Ytiinfiaemiaamaa.Sh
open Go Go.RowKit

set_option maxRecDepth 20000 in
set_option maxHeartbeats 3200000 in
theorem txUnlike_walk (w : World) {v u : Value} {T S : TxM} (hv : TxRep w v T) (hu : TxRep w u S) :
    Calls Try.prog 9 #[v, u] w fun e w' => e = .returned (.bool true) ∧ Only [] w w' := by
  obtain ⟨k, t, a, m⟩ := T
  obtain ⟨k', t', a', m'⟩ := S
  obtain ⟨mv, rfl, hm, _, _, ha⟩ := hv
  obtain ⟨mv', rfl, hm', _, _, ha'⟩ := hu
  simp only at hm ha hm' ha'
  obtain ⟨ma, mc, rfl⟩ := bs_form' hm
  obtain ⟨ma', mc', rfl⟩ := bs_form' hm'
  obtain ⟨w1, hw1⟩ : ∃ w1, w1 = (w.alloc (Obj.cells #[.int .i64 k, .int .i64 t, .int .u64 (a : Int), .slice ma m.length mc] 37)).alloc (Obj.cells #[.int .i64 k', .int .i64 t', .int .u64 (a' : Int), .slice ma' m'.length mc'] 37) := ⟨_, rfl⟩
  have o1 : Only [] w w1 := by rw [hw1]; exact ((Only.refl [] w).alloc _).alloc _
  have c0 : w1.cell? ⟨w.heap.size, 0, none⟩ = some (.int .i64 k) := by rw [hw1]; simp [go_sem]
  have c1 : w1.cell? ⟨w.heap.size, 1, none⟩ = some (.int .i64 t) := by rw [hw1]; simp [go_sem]
  have c2 : w1.cell? ⟨w.heap.size, 2, none⟩ = some (.int .u64 (a : Int)) := by rw [hw1]; simp [go_sem]
  have c3 : w1.cell? ⟨w.heap.size, 3, none⟩ = some (.slice ma m.length mc) := by rw [hw1]; simp [go_sem]
  have d0 : w1.cell? ⟨w.heap.size + 1, 0, none⟩ = some (.int .i64 k') := by rw [hw1]; simp [go_sem]
  have d1 : w1.cell? ⟨w.heap.size + 1, 1, none⟩ = some (.int .i64 t') := by rw [hw1]; simp [go_sem]
  have d2 : w1.cell? ⟨w.heap.size + 1, 2, none⟩ = some (.int .u64 (a' : Int)) := by rw [hw1]; simp [go_sem]
  have d3 : w1.cell? ⟨w.heap.size + 1, 3, none⟩ = some (.slice ma' m'.length mc') := by rw [hw1]; simp [go_sem]
  have hri := hid (fun W (h : Bs W (.slice ma m.length mc) m) => rright_any W k t a _ m h)
  have hri' := hid (fun W (h : Bs W (.slice ma' m'.length mc') m') => rright_any W k' t' a' _ m' h)
  have hm1 := hm.kept0 o1
  have hm1' := hm'.kept0 o1
  by_cases hr : rightB k t a m.length = true
  · by_cases hr' : rightB k' t' a' m'.length = true
    · have hal := enc_alike k t a m k' t' a' m' hr hr' ha ha'
      have he := fun W (h : Bs W (.slice ma m.length mc) m) => encode_any W k t a _ m h ha
      have he' := fun W (h : Bs W (.slice ma' m'.length mc') m') => encode_any W k' t' a' _ m' h ha'
      have z : (encE k t a m).1 = 0 := by unfold encE; rw [if_pos hr]
      have z' : (encE k' t' a' m').1 = 0 := by unfold encE; rw [if_pos hr']
      simp only [z] at he
      simp only [z'] at he'
      obtain ⟨x, hx⟩ : ∃ x, x = (encE k t a m).2 := ⟨_, rfl⟩
      obtain ⟨y, hy⟩ : ∃ y, y = (encE k' t' a' m').2 := ⟨_, rfl⟩
      simp only [← hx] at he hal
      simp only [← hy] at he' hal
      have hsm := fun W (h : Bs W (.slice ma m.length mc) m) (h' : Bs W (.slice ma' m'.length mc') m') => same14_any W k t a _ m k' t' a' _ m' h h'
      have hsx := fun W p q (h : Bs W p x) (h' : Bs W q y) => same_any p q x y W h h'
      obtain ⟨r, hrr⟩ : ∃ r, r = alikeB k t a m k' t' a' m' := ⟨_, rfl⟩
      simp only [hal, ← hrr] at hsm hsx
      have hrb : (r == r) = true := by simp
      rw [hr] at hri
      rw [hr'] at hri'
      replace he := hid he
      replace he' := hid he'
      replace hsm := hid hsm
      replace hsx := hid hsx
      clear hx hy hal z z' hr hr' hrr
      go_enter Try.func9, Try.ntmps9
      go_wp2_with fail
      rw [← hw1]
      clear hw1
      refine (awake14_any _).mono ?_
      rintro e w2 ⟨rfl, o2⟩
      replace c0 := o2.cell c0 (by simp)
      replace c1 := o2.cell c1 (by simp)
      replace c2 := o2.cell c2 (by simp)
      replace c3 := o2.cell c3 (by simp)
      replace d0 := o2.cell d0 (by simp)
      replace d1 := o2.cell d1 (by simp)
      replace d2 := o2.cell d2 (by simp)
      replace d3 := o2.cell d3 (by simp)
      have hm2 := hm1.kept0 o2
      have hm2' := hm1'.kept0 o2
      go_wp2_with fail
      refine (hri.out _ hm2).mono ?_
      rintro e w3 ⟨rfl, o3⟩
      replace c0 := o3.cell c0 (by simp)
      replace c1 := o3.cell c1 (by simp)
      replace c2 := o3.cell c2 (by simp)
      replace c3 := o3.cell c3 (by simp)
      replace d0 := o3.cell d0 (by simp)
      replace d1 := o3.cell d1 (by simp)
      replace d2 := o3.cell d2 (by simp)
      replace d3 := o3.cell d3 (by simp)
      have hm3 := hm2.kept0 o3
      have hm3' := hm2'.kept0 o3
      go_wp2_with fail
      refine (hri'.out _ hm3').mono ?_
      rintro e w4 ⟨rfl, o4⟩
      replace c0 := o4.cell c0 (by simp)
      replace c1 := o4.cell c1 (by simp)
      replace c2 := o4.cell c2 (by simp)
      replace c3 := o4.cell c3 (by simp)
      replace d0 := o4.cell d0 (by simp)
      replace d1 := o4.cell d1 (by simp)
      replace d2 := o4.cell d2 (by simp)
      replace d3 := o4.cell d3 (by simp)
      have hm4 := hm3.kept0 o4
      have hm4' := hm3'.kept0 o4
      clear hri hri' hm1 hm1' hm2 hm2' hm3 hm3'
      go_wp2_with fail
      refine (he.out _ hm4).mono ?_
      rintro e w5 ⟨x1, rfl, bx1, o5⟩
      obtain ⟨xa, xc, rfl⟩ := bs_form' bx1
      replace c0 := o5.cell c0 (by simp)
      replace c1 := o5.cell c1 (by simp)
      replace c2 := o5.cell c2 (by simp)
      replace c3 := o5.cell c3 (by simp)
      replace d0 := o5.cell d0 (by simp)
      replace d1 := o5.cell d1 (by simp)
      replace d2 := o5.cell d2 (by simp)
      replace d3 := o5.cell d3 (by simp)
      have hm5 := hm4.kept0 o5
      have hm5' := hm4'.kept0 o5
      go_wp2_with fail
      refine (he'.out _ hm5').mono ?_
      rintro e w6 ⟨y1, rfl, by1, o6⟩
      obtain ⟨ya, yc, rfl⟩ := bs_form' by1
      replace c0 := o6.cell c0 (by simp)
      replace c1 := o6.cell c1 (by simp)
      replace c2 := o6.cell c2 (by simp)
      replace c3 := o6.cell c3 (by simp)
      replace d0 := o6.cell d0 (by simp)
      replace d1 := o6.cell d1 (by simp)
      replace d2 := o6.cell d2 (by simp)
      replace d3 := o6.cell d3 (by simp)
      have hm6 := hm5.kept0 o6
      have hm6' := hm5'.kept0 o6
      have bx6 := bx1.kept0 o6
      have O6 := ((((o1.trans0 o2).trans0 o3).trans0 o4).trans0 o5).trans0 o6
      clear he he' hm4 hm4' hm5 hm5' bx1
      have hod : Only [] w6 w6.drew := (Only.refl [] w6).drew
      go_wp2_with fail
      go_region_held3 (fun w' => w'.cell? ⟨w.heap.size, 0, none⟩ = some (.int .i64 k) ∧ w'.cell? ⟨w.heap.size, 1, none⟩ = some (.int .i64 t) ∧ w'.cell? ⟨w.heap.size, 2, none⟩ = some (.int .u64 (a : Int)) ∧ w'.cell? ⟨w.heap.size, 3, none⟩ = some (.slice ma m.length mc) ∧ w'.cell? ⟨w.heap.size + 1, 0, none⟩ = some (.int .i64 k') ∧ w'.cell? ⟨w.heap.size + 1, 1, none⟩ = some (.int .i64 t') ∧ w'.cell? ⟨w.heap.size + 1, 2, none⟩ = some (.int .u64 (a' : Int)) ∧ w'.cell? ⟨w.heap.size + 1, 3, none⟩ = some (.slice ma' m'.length mc'))
        (first | exact ⟨c0, c1, c2, c3, d0, d1, d2, d3⟩ | exact ⟨o7.cell c0 (by simp), o7.cell c1 (by simp), o7.cell c2 (by simp), o7.cell c3 (by simp), o7.cell d0 (by simp), o7.cell d1 (by simp), o7.cell d2 (by simp), o7.cell d3 (by simp)⟩ | exact ⟨o8.cell c0 (by simp), o8.cell c1 (by simp), o8.cell c2 (by simp), o8.cell c3 (by simp), o8.cell d0 (by simp), o8.cell d1 (by simp), o8.cell d2 (by simp), o8.cell d3 (by simp)⟩)
        (first
        | (go_at_call 32; refine (hsx.out _ _ _ (by first | exact bx6.kept0 hod | exact bx6.kept0 o8) (by first | exact by1.kept0 hod | exact by1.kept0 o8)).mono ?_; rintro e w7 ⟨rfl, p7⟩; have o7 : Only [] w6 w7 := (by first | exact hod.trans0 p7 | exact o8.trans0 p7))
        | (go_at_call 33; refine (hsm.out _ (by first | exact hm6.kept0 hod | exact hm6.kept0 o7) (by first | exact hm6'.kept0 hod | exact hm6'.kept0 o7)).mono ?_; rintro e w8 ⟨rfl, p8⟩; have o8 : Only [] w6 w8 := (by first | exact hod.trans0 p8 | exact o7.trans0 p8)))
      all_goals
        go_wp2
        go_ret
        first | exact ⟨rfl, O6.trans0 o8⟩ | exact ⟨rfl, O6.trans0 o7⟩
    · simp only [Bool.not_eq_true] at hr'
      rw [hr] at hri
      rw [hr'] at hri'
      clear hr hr'
      go_enter Try.func9, Try.ntmps9
      go_wp2_with fail
      rw [← hw1]
      clear hw1
      refine (awake14_any _).mono ?_
      rintro e w2 ⟨rfl, o2⟩
      replace c0 := o2.cell c0 (by simp)
      replace c1 := o2.cell c1 (by simp)
      replace c2 := o2.cell c2 (by simp)
      replace c3 := o2.cell c3 (by simp)
      replace d0 := o2.cell d0 (by simp)
      replace d1 := o2.cell d1 (by simp)
      replace d2 := o2.cell d2 (by simp)
      replace d3 := o2.cell d3 (by simp)
      have hm2 := hm1.kept0 o2
      have hm2' := hm1'.kept0 o2
      go_wp2_with fail
      refine (hri.out _ hm2).mono ?_
      rintro e w3 ⟨rfl, o3⟩
      replace d0 := o3.cell d0 (by simp)
      replace d1 := o3.cell d1 (by simp)
      replace d2 := o3.cell d2 (by simp)
      replace d3 := o3.cell d3 (by simp)
      have hm3' := hm2'.kept0 o3
      clear c0 c1 c2 c3
      go_wp2_with fail
      refine (hri'.out _ hm3').mono ?_
      rintro e w4 ⟨rfl, o4⟩
      clear d0 d1 d2 d3
      go_wp2_with fail
      refine (awake14_any _).mono ?_
      rintro e w5 ⟨rfl, o5⟩
      go_wp2
      go_ret
      exact ⟨rfl, (((o1.trans0 o2).trans0 o3).trans0 o4).trans0 o5⟩
  · simp only [Bool.not_eq_true] at hr
    rw [hr] at hri
    clear hr
    go_enter Try.func9, Try.ntmps9
    go_wp2_with fail
    rw [← hw1]
    clear hw1
    refine (awake14_any _).mono ?_
    rintro e w2 ⟨rfl, o2⟩
    replace c0 := o2.cell c0 (by simp)
    replace c1 := o2.cell c1 (by simp)
    replace c2 := o2.cell c2 (by simp)
    replace c3 := o2.cell c3 (by simp)
    have hm2 := hm1.kept0 o2
    go_wp2_with fail
    refine (hri.out _ hm2).mono ?_
    rintro e w3 ⟨rfl, o3⟩
    clear c0 c1 c2 c3 d0 d1 d2 d3
    go_wp2_with fail
    refine (awake14_any _).mono ?_
    rintro e w5 ⟨rfl, o5⟩
    go_wp2
    go_ret
    exact ⟨rfl, ((o1.trans0 o2).trans0 o3).trans0 o5⟩
end Go.Proofs.Ytiinfiaemiaamaa.Sh
