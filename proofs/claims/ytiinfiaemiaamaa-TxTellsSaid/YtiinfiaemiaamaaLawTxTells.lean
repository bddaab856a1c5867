/- Any order has the bytes, and any bytes the order, that the document says, or there is its error: the law's walk. -/
import Derived.Test.YtiinfiaemiaamaaTxF
namespace Go.Proofs.Ytiinfiaemiaamaa.Sh
open Go Go.RowKit

set_option maxRecDepth 20000 in
set_option maxHeartbeats 3200000 in
theorem txTells_walk (w : World) {v u : Value} {T : TxM} {b : List UInt8} (hv : TxRep w v T) (hb : Bs w u b) :
    Calls Try.prog 6 #[v, u] w fun e w' => e = .returned (.bool true) ∧ Only [] w w' := by
  obtain ⟨k, t, a, m⟩ := T
  obtain ⟨mv, rfl, hm, _, _, ha⟩ := hv
  simp only at hm ha
  obtain ⟨ma, mc, rfl⟩ := bs_form' hm
  obtain ⟨ua, uc, rfl⟩ := bs_form' hb
  obtain ⟨w1, hw1⟩ : ∃ w1, w1 = w.alloc (Obj.cells #[.int .i64 k, .int .i64 t, .int .u64 (a : Int), .slice ma m.length mc] 37) := ⟨_, rfl⟩
  have o1 : Only [] w w1 := by rw [hw1]; exact (Only.refl [] w).alloc _
  have c0 : w1.cell? ⟨w.heap.size, 0, none⟩ = some (.int .i64 k) := by rw [hw1]; simp [go_sem]
  have c1 : w1.cell? ⟨w.heap.size, 1, none⟩ = some (.int .i64 t) := by rw [hw1]; simp [go_sem]
  have c2 : w1.cell? ⟨w.heap.size, 2, none⟩ = some (.int .u64 (a : Int)) := by rw [hw1]; simp [go_sem]
  have c3 : w1.cell? ⟨w.heap.size, 3, none⟩ = some (.slice ma m.length mc) := by rw [hw1]; simp [go_sem]
  by_cases hbad : 100 < m.length ∨ 100 < b.length
  · have h1 := c3
    by_cases q1 : 100 < m.length
    · clear hbad
      go_enter Try.func6, Try.ntmps6
      go_wp2_with fail
      rw [← hw1]
      clear hw1
      refine (awake14_any _).mono ?_
      rintro e w2 ⟨rfl, o2⟩
      replace c3 := o2.cell c3 (by simp)
      clear h1
      go_wp2_with fail
      refine (awake14_any _).mono ?_
      rintro e w3 ⟨rfl, o3⟩
      go_wp2
      go_ret
      exact ⟨rfl, (o1.trans0 o2).trans0 o3⟩
    · have q2 : 100 < b.length := by omega
      clear hbad
      go_enter Try.func6, Try.ntmps6
      go_wp2_with fail
      rw [← hw1]
      clear hw1
      refine (awake14_any _).mono ?_
      rintro e w2 ⟨rfl, o2⟩
      replace c3 := o2.cell c3 (by simp)
      clear h1
      go_wp2_with fail
      refine (awake14_any _).mono ?_
      rintro e w3 ⟨rfl, o3⟩
      go_wp2
      go_ret
      exact ⟨rfl, (o1.trans0 o2).trans0 o3⟩
  have q1 : ¬ 100 < m.length := by omega
  have q2 : ¬ 100 < b.length := by omega
  clear hbad
  have he := hid (fun W (h : Bs W (.slice ma m.length mc) m) => encode_any W k t a _ m h ha)
  have hre := hid (fun W (h : Bs W (.slice ma m.length mc) m) => rencode_any W k t a _ m h ha)
  have hd := fun W (h : Bs W (.slice ua b.length uc) b) => decode_any W _ b h
  have hrd := fun W (h : Bs W (.slice ua b.length uc) b) => rdecode_any W _ b h (by omega)
  unfold DecPost at hd hrd
  obtain ⟨ec, x, hE⟩ : ∃ ec x, encE k t a m = (ec, x) := ⟨_, _, rfl⟩
  rw [hE] at he hre
  obtain ⟨dc, dk, dt, da, dm, hD⟩ : ∃ dc dk dt da dm, decE b = (dc, dk, dt, da, dm) := ⟨_, _, _, _, _, rfl⟩
  rw [hD] at hd hrd
  simp only at hd hrd
  replace hd := hid hd
  replace hrd := hid hrd
  clear hE hD
  have hb1 := hb.kept0 o1
  have hm1 := hm.kept0 o1
  go_enter Try.func6, Try.ntmps6
  go_wp2_with fail
  rw [← hw1]
  clear hw1
  refine (awake14_any _).mono ?_
  rintro e w2 ⟨rfl, o2⟩
  replace c0 := o2.cell c0 (by simp)
  replace c1 := o2.cell c1 (by simp)
  replace c2 := o2.cell c2 (by simp)
  replace c3 := o2.cell c3 (by simp)
  have hb2 := hb1.kept0 o2
  have hm2 := hm1.kept0 o2
  go_wp2_with fail
  refine (he.out _ hm2).mono ?_
  rintro e w3 ⟨x1, rfl, bx1, o3⟩
  obtain ⟨xa, xc, rfl⟩ := bs_form' bx1
  replace c0 := o3.cell c0 (by simp)
  replace c1 := o3.cell c1 (by simp)
  replace c2 := o3.cell c2 (by simp)
  replace c3 := o3.cell c3 (by simp)
  have hb3 := hb2.kept0 o3
  have hm3 := hm2.kept0 o3
  go_wp2_with fail
  refine (hre.out _ hm3).mono ?_
  rintro e w4 ⟨y1, rfl, by1, o4⟩
  obtain ⟨ya, yc, rfl⟩ := bs_form' by1
  have bx4 := bx1.kept0 o4
  have hb4 := hb3.kept0 o4
  have O4 := ((o1.trans0 o2).trans0 o3).trans0 o4
  clear c0 c1 c2 c3 he hre
  go_wp2_with fail
  refine (hd.out _ hb4).mono ?_
  rintro e w5 ⟨o5, mv5, rfl, bm5⟩
  obtain ⟨na, nc, rfl⟩ := bs_form' bm5
  obtain ⟨w6, hw6⟩ : ∃ w6, w6 = w5.alloc (Obj.cells #[.int .i64 (dk : Int), .int .i64 (dt : Int), .int .u64 (da : Int), .slice na dm.length nc] 40) := ⟨_, rfl⟩
  have o6 : Only [] w5 w6 := by rw [hw6]; exact (Only.refl [] w5).alloc _
  have d0 : w6.cell? ⟨w5.heap.size, 0, none⟩ = some (.int .i64 (dk : Int)) := by rw [hw6]; simp [go_sem]
  have d1 : w6.cell? ⟨w5.heap.size, 1, none⟩ = some (.int .i64 (dt : Int)) := by rw [hw6]; simp [go_sem]
  have d2 : w6.cell? ⟨w5.heap.size, 2, none⟩ = some (.int .u64 (da : Int)) := by rw [hw6]; simp [go_sem]
  have d3 : w6.cell? ⟨w5.heap.size, 3, none⟩ = some (.slice na dm.length nc) := by rw [hw6]; simp [go_sem]
  have bx6 := (bx4.kept0 o5).kept0 o6
  have by6 := (by1.kept0 o5).kept0 o6
  have hb6 := (hb4.kept0 o5).kept0 o6
  have bm6 := bm5.kept0 o6
  have O6 := (O4.trans0 o5).trans0 o6
  go_wp2_with fail
  rw [← hw6]
  clear hw6 hd
  refine (hrd.out _ hb6).mono ?_
  rintro e w7 ⟨o7, mv7, rfl, bm7⟩
  obtain ⟨pa, pc, rfl⟩ := bs_form' bm7
  obtain ⟨w8, hw8⟩ : ∃ w8, w8 = w7.alloc (Obj.cells #[.int .i64 (dk : Int), .int .i64 (dt : Int), .int .u64 (da : Int), .slice pa dm.length pc] 37) := ⟨_, rfl⟩
  have o8 : Only [] w7 w8 := by rw [hw8]; exact (Only.refl [] w7).alloc _
  have f0 : w8.cell? ⟨w7.heap.size, 0, none⟩ = some (.int .i64 (dk : Int)) := by rw [hw8]; simp [go_sem]
  have f1 : w8.cell? ⟨w7.heap.size, 1, none⟩ = some (.int .i64 (dt : Int)) := by rw [hw8]; simp [go_sem]
  have f2 : w8.cell? ⟨w7.heap.size, 2, none⟩ = some (.int .u64 (da : Int)) := by rw [hw8]; simp [go_sem]
  have f3 : w8.cell? ⟨w7.heap.size, 3, none⟩ = some (.slice pa dm.length pc) := by rw [hw8]; simp [go_sem]
  replace d0 := (o7.trans0 o8).cell d0 (by simp)
  replace d1 := (o7.trans0 o8).cell d1 (by simp)
  replace d2 := (o7.trans0 o8).cell d2 (by simp)
  replace d3 := (o7.trans0 o8).cell d3 (by simp)
  have bx8 := (bx6.kept0 o7).kept0 o8
  have by8 := (by6.kept0 o7).kept0 o8
  have bm8 := (bm6.kept0 o7).kept0 o8
  have bn8 := bm7.kept0 o8
  have O8 := (O6.trans0 o7).trans0 o8
  have hsame := same_any _ _ x x w8 bx8 by8
  rw [decide_eq_true rfl] at hsame
  replace hsame := hid hsame
  have he1 : ((ec : Int) == (ec : Int)) = true := by simp
  have he2 : ((dc : Int) == (dc : Int)) = true := by simp
  go_wp2_with fail
  rw [← hw8]
  clear hw8 hrd
  refine hsame.out.mono ?_
  rintro e w9 ⟨rfl, o9⟩
  replace d0 := o9.cell d0 (by simp)
  replace d1 := o9.cell d1 (by simp)
  replace d2 := o9.cell d2 (by simp)
  replace d3 := o9.cell d3 (by simp)
  replace f0 := o9.cell f0 (by simp)
  replace f1 := o9.cell f1 (by simp)
  replace f2 := o9.cell f2 (by simp)
  replace f3 := o9.cell f3 (by simp)
  have hal := same14_any w9 (dk : Int) (dt : Int) da _ dm (dk : Int) (dt : Int) da _ dm (bm8.kept0 o9) (bn8.kept0 o9)
  rw [show alikeB (dk : Int) (dt : Int) da dm (dk : Int) (dt : Int) da dm = true by unfold alikeB; simp] at hal
  replace hal := hid hal
  clear hsame
  go_wp2_with fail
  refine hal.out.mono ?_
  rintro e w10 ⟨rfl, o10⟩
  go_wp2_with fail
  go_ret
  exact ⟨rfl, (O8.trans0 o9).trans0 o10⟩
end Go.Proofs.Ytiinfiaemiaamaa.Sh
