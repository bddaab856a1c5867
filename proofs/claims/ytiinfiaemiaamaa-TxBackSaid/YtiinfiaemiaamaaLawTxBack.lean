/- What was encoded is decoded, and what is decoded and encoded is the same bytes: the law's walk. -/
import Derived.Test.YtiinfiaemiaamaaTxF
namespace Go.Proofs.Ytiinfiaemiaamaa.Sh
open Go Go.RowKit

set_option maxRecDepth 20000 in
set_option maxHeartbeats 3200000 in
theorem txBack_walk (w : World) {v u : Value} {T : TxM} {b : List UInt8} (hv : TxRep w v T) (hb : Bs w u b) :
    Calls Try.prog 7 #[v, u] w fun e w' => e = .returned (.bool true) ∧ Only [] w w' := by
  obtain ⟨k, t, a, m⟩ := T
  obtain ⟨mv, rfl, hm, _, _, ha⟩ := hv
  simp only at hm ha
  obtain ⟨ma, mc, rfl⟩ := bs_form' hm
  obtain ⟨ua, uc, rfl⟩ := bs_form' hb
  obtain ⟨w1, hw1⟩ : ∃ w1, w1 = w.alloc (Obj.cells #[.int .i64 k, .int .i64 t, .int .u64 (a : Int), .slice ma m.length mc] 37) := ⟨_, rfl⟩
  have o1 : Only [] w w1 := by rw [hw1]; exact (Only.refl [] w).alloc _
  have c0 : w1.cell? ⟨w.heap.size, 0, none⟩ = some (.int .i64 k) := by rw [hw1]; simp [go_sem]
  have c1 : w1.cell? ⟨w.heap.size, 1, none⟩ = some (.int .i64 t) := by rw [hw1]; simp [go_sem]
  have c2 : w1.cell? ⟨w.heap.size, 2, none⟩ = some (.int .u64 (a : Int)) := by rw [hw1]; simp [go_sem]
  have c3 : w1.cell? ⟨w.heap.size, 3, none⟩ = some (.slice ma m.length mc) := by rw [hw1]; simp [go_sem]
  by_cases hbad : 100 < m.length ∨ 100 < b.length
  · have h1 := c3
    by_cases q1 : 100 < m.length
    · clear hbad
      go_enter Try.func7, Try.ntmps7
      go_wp2_with fail
      rw [← hw1]
      clear hw1
      refine (awake14_any _).mono ?_
      rintro e w2 ⟨rfl, o2⟩
      replace c3 := o2.cell c3 (by simp)
      clear h1
      go_wp2_with fail
      refine (awake14_any _).mono ?_
      rintro e w3 ⟨rfl, o3⟩
      go_wp2
      go_ret
      exact ⟨rfl, (o1.trans0 o2).trans0 o3⟩
    · have q2 : 100 < b.length := by omega
      clear hbad
      go_enter Try.func7, Try.ntmps7
      go_wp2_with fail
      rw [← hw1]
      clear hw1
      refine (awake14_any _).mono ?_
      rintro e w2 ⟨rfl, o2⟩
      replace c3 := o2.cell c3 (by simp)
      clear h1
      go_wp2_with fail
      refine (awake14_any _).mono ?_
      rintro e w3 ⟨rfl, o3⟩
      go_wp2
      go_ret
      exact ⟨rfl, (o1.trans0 o2).trans0 o3⟩
  have q1 : ¬ 100 < m.length := by omega
  have q2 : ¬ 100 < b.length := by omega
  clear hbad
  have he := fun W (h : Bs W (.slice ma m.length mc) m) => encode_any W k t a _ m h ha
  obtain ⟨ec, x, hE⟩ : ∃ ec x, encE k t a m = (ec, x) := ⟨_, _, rfl⟩
  simp only [hE] at he
  replace he := hid he
  -- what the first decoding comes to
  obtain ⟨fc, fk, ft, fa, fm, hF⟩ : ∃ fc fk ft fa fm, decE x = (fc, fk, ft, fa, fm) := ⟨_, _, _, _, _, rfl⟩
  have hone : Hid (ec = 0 → fc = 0 ∧ alikeB (fk : Int) (ft : Int) fa fm k t a m = true) := by
    intro h0
    have hr : rightB k t a m.length = true := by
      unfold encE at hE
      split at hE
      · rename_i h; exact h
      · simp only [Prod.mk.injEq] at hE; omega
    obtain ⟨kn, tn, rfl, rfl, _⟩ := right_nat hr
    have hxe : x = encB kn tn a m := by
      unfold encE at hE
      rw [if_pos hr] at hE
      simp only [Prod.mk.injEq, Int.toNat_natCast] at hE
      exact hE.2.symm
    rw [hxe, decE_encB kn tn a m hr ha] at hF
    simp only [Prod.mk.injEq] at hF
    obtain ⟨rfl, rfl, rfl, rfl, rfl⟩ := hF
    exact ⟨rfl, by unfold alikeB; simp⟩
  have hd1 := fun W v (h : Bs W v x) => decode_any W v x h
  unfold DecPost at hd1
  simp only [hF] at hd1
  replace hd1 := hid hd1
  obtain ⟨dc, dk, dt, da, dm, hD⟩ : ∃ dc dk dt da dm, decE b = (dc, dk, dt, da, dm) := ⟨_, _, _, _, _, rfl⟩
  have hd2 := fun W (h : Bs W (.slice ua b.length uc) b) => decode_any W _ b h
  unfold DecPost at hd2
  simp only [hD] at hd2
  replace hd2 := hid hd2
  have hbd := decE_bound b
  rw [hD] at hbd
  simp only at hbd
  have he2 := fun W v (h : Bs W v dm) => encode_any W (dk : Int) (dt : Int) da v dm h (by omega)
  obtain ⟨gc, y, hG⟩ : ∃ gc y, encE (dk : Int) (dt : Int) da dm = (gc, y) := ⟨_, _, rfl⟩
  simp only [hG] at he2
  replace he2 := hid he2
  have htwo : Hid (dc = 0 → gc = 0 ∧ y = b) := by
    intro h0
    have := encE_decE b (by rw [hD]; exact h0)
    rw [hD] at this
    simp only [hG, Prod.mk.injEq] at this
    exact this
  clear hE hF hD hG hbd
  have hb1 := hb.kept0 o1
  have hm1 := hm.kept0 o1
  go_enter Try.func7, Try.ntmps7
  go_wp2_with fail
  rw [← hw1]
  clear hw1
  refine (awake14_any _).mono ?_
  rintro e w2 ⟨rfl, o2⟩
  replace c0 := o2.cell c0 (by simp)
  replace c1 := o2.cell c1 (by simp)
  replace c2 := o2.cell c2 (by simp)
  replace c3 := o2.cell c3 (by simp)
  have hb2 := hb1.kept0 o2
  have hm2 := hm1.kept0 o2
  go_wp2_with fail
  refine (he.out _ hm2).mono ?_
  rintro e w3 ⟨x1, rfl, bx1, o3⟩
  obtain ⟨xa, xc, rfl⟩ := bs_form' bx1
  replace c0 := o3.cell c0 (by simp)
  replace c1 := o3.cell c1 (by simp)
  replace c2 := o3.cell c2 (by simp)
  replace c3 := o3.cell c3 (by simp)
  have hb3 := hb2.kept0 o3
  have hm3 := hm2.kept0 o3
  go_wp2_with fail
  refine (hd1.out _ _ bx1).mono ?_
  rintro e w4 ⟨o4, mv4, rfl, bm4⟩
  obtain ⟨na, nc, rfl⟩ := bs_form' bm4
  obtain ⟨w5, hw5⟩ : ∃ w5, w5 = w4.alloc (Obj.cells #[.int .i64 (fk : Int), .int .i64 (ft : Int), .int .u64 (fa : Int), .slice na fm.length nc] 40) := ⟨_, rfl⟩
  have o5 : Only [] w4 w5 := by rw [hw5]; exact (Only.refl [] w4).alloc _
  have d0 : w5.cell? ⟨w4.heap.size, 0, none⟩ = some (.int .i64 (fk : Int)) := by rw [hw5]; simp [go_sem]
  have d1 : w5.cell? ⟨w4.heap.size, 1, none⟩ = some (.int .i64 (ft : Int)) := by rw [hw5]; simp [go_sem]
  have d2 : w5.cell? ⟨w4.heap.size, 2, none⟩ = some (.int .u64 (fa : Int)) := by rw [hw5]; simp [go_sem]
  have d3 : w5.cell? ⟨w4.heap.size, 3, none⟩ = some (.slice na fm.length nc) := by rw [hw5]; simp [go_sem]
  replace c0 := (o4.trans0 o5).cell c0 (by simp)
  replace c1 := (o4.trans0 o5).cell c1 (by simp)
  replace c2 := (o4.trans0 o5).cell c2 (by simp)
  replace c3 := (o4.trans0 o5).cell c3 (by simp)
  have hb5 := (hb3.kept0 o4).kept0 o5
  have hm5 := (hm3.kept0 o4).kept0 o5
  have bm5 := bm4.kept0 o5
  have O5 := (((o1.trans0 o2).trans0 o3).trans0 o4).trans0 o5
  have hrest : ∀ w6 : World, Only [] w5 w6 → Bs w6 (.slice ua b.length uc) b := fun w6 h => hb5.kept0 h
  have HR := hid hrest
  clear hrest
  -- what is left behind the first test
  have hend : Hid (∀ w6, Only [] w5 w6 → Only [] w w6) := fun w6 h => O5.trans0 h
  by_cases hec : ec = 0
  · obtain ⟨hf0, hal⟩ := hone.out hec
    subst hec
    subst hf0
    have hs1 := same14_any w5 (fk : Int) (ft : Int) fa _ fm k t a _ m bm5 hm5
    rw [hal] at hs1
    replace hs1 := hid hs1
    have l0 := c0
    have l1 := c1
    have l2 := c2
    have l3 := c3
    rw [hw5] at l0 l1 l2 l3
    clear hal
    go_wp2_with fail
    rw [← hw5]
    clear hw5 l0 l1 l2 l3
    refine hs1.out.mono ?_
    rintro e w6 ⟨rfl, o6⟩
    clear hs1
    go_wp2_with fail
    refine (hd2.out _ (HR.out _ o6)).mono ?_
    rintro e w7 ⟨o7, mv7, rfl, bm7⟩
    obtain ⟨pa, pc, rfl⟩ := bs_form' bm7
    obtain ⟨w8, hw8⟩ : ∃ w8, w8 = w7.alloc (Obj.cells #[.int .i64 (dk : Int), .int .i64 (dt : Int), .int .u64 (da : Int), .slice pa dm.length pc] 40) := ⟨_, rfl⟩
    have o8 : Only [] w7 w8 := by rw [hw8]; exact (Only.refl [] w7).alloc _
    have f0 : w8.cell? ⟨w7.heap.size, 0, none⟩ = some (.int .i64 (dk : Int)) := by rw [hw8]; simp [go_sem]
    have f1 : w8.cell? ⟨w7.heap.size, 1, none⟩ = some (.int .i64 (dt : Int)) := by rw [hw8]; simp [go_sem]
    have f2 : w8.cell? ⟨w7.heap.size, 2, none⟩ = some (.int .u64 (da : Int)) := by rw [hw8]; simp [go_sem]
    have f3 : w8.cell? ⟨w7.heap.size, 3, none⟩ = some (.slice pa dm.length pc) := by rw [hw8]; simp [go_sem]
    have b8 := bm7.kept0 o8
    have O8 := (o6.trans0 o7).trans0 o8
    clear d0 d1 d2 d3 c0 c1 c2 c3
    go_wp2_with fail
    rw [← hw8]
    clear hw8
    refine (he2.out _ _ b8).mono ?_
    rintro e w9 ⟨y1, rfl, by1, o9⟩
    obtain ⟨ya, yc, rfl⟩ := bs_form' by1
    have O9 := O8.trans0 o9
    clear f0 f1 f2 f3
    by_cases hdc : dc = 0
    · obtain ⟨rfl, rfl⟩ := htwo.out hdc
      subst hdc
      have hsm := same_any _ _ y y w9 by1 (HR.out _ O9)
      rw [decide_eq_true rfl] at hsm
      replace hsm := hid hsm
      go_wp2_with fail
      refine hsm.out.mono ?_
      rintro e w10 ⟨rfl, o10⟩
      go_wp2
      go_ret
      exact ⟨rfl, hend.out _ (O9.trans0 o10)⟩
    · have hdz : ((dc : Int) != 0) = true := by rw [bne_iff_ne]; omega
      clear hdc
      go_wp2
      go_ret
      exact ⟨rfl, hend.out _ O9⟩
  · have hez : ((ec : Int) == 0) = false := by rw [beq_eq_false_iff_ne]; omega
    clear hec
    go_wp2_with fail
    rw [← hw5]
    clear hw5
    refine (hd2.out _ (HR.out _ (Only.refl _ _))).mono ?_
    rintro e w7 ⟨o7, mv7, rfl, bm7⟩
    obtain ⟨pa, pc, rfl⟩ := bs_form' bm7
    obtain ⟨w8, hw8⟩ : ∃ w8, w8 = w7.alloc (Obj.cells #[.int .i64 (dk : Int), .int .i64 (dt : Int), .int .u64 (da : Int), .slice pa dm.length pc] 40) := ⟨_, rfl⟩
    have o8 : Only [] w7 w8 := by rw [hw8]; exact (Only.refl [] w7).alloc _
    have f0 : w8.cell? ⟨w7.heap.size, 0, none⟩ = some (.int .i64 (dk : Int)) := by rw [hw8]; simp [go_sem]
    have f1 : w8.cell? ⟨w7.heap.size, 1, none⟩ = some (.int .i64 (dt : Int)) := by rw [hw8]; simp [go_sem]
    have f2 : w8.cell? ⟨w7.heap.size, 2, none⟩ = some (.int .u64 (da : Int)) := by rw [hw8]; simp [go_sem]
    have f3 : w8.cell? ⟨w7.heap.size, 3, none⟩ = some (.slice pa dm.length pc) := by rw [hw8]; simp [go_sem]
    have b8 := bm7.kept0 o8
    have O8 := o7.trans0 o8
    clear d0 d1 d2 d3 c0 c1 c2 c3
    go_wp2_with fail
    rw [← hw8]
    clear hw8
    refine (he2.out _ _ b8).mono ?_
    rintro e w9 ⟨y1, rfl, by1, o9⟩
    obtain ⟨ya, yc, rfl⟩ := bs_form' by1
    have O9 := O8.trans0 o9
    clear f0 f1 f2 f3
    by_cases hdc : dc = 0
    · obtain ⟨rfl, rfl⟩ := htwo.out hdc
      subst hdc
      have hsm := same_any _ _ y y w9 by1 (HR.out _ O9)
      rw [decide_eq_true rfl] at hsm
      replace hsm := hid hsm
      go_wp2_with fail
      refine hsm.out.mono ?_
      rintro e w10 ⟨rfl, o10⟩
      go_wp2
      go_ret
      exact ⟨rfl, hend.out _ (O9.trans0 o10)⟩
    · have hdz : ((dc : Int) != 0) = true := by rw [bne_iff_ne]; omega
      clear hdc
      go_wp2
      go_ret
      exact ⟨rfl, hend.out _ O9⟩
end Go.Proofs.Ytiinfiaemiaamaa.Sh
