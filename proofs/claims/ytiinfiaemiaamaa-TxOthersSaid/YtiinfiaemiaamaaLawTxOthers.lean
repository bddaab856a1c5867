/- An order changes nobody's balance but the sender's and the one's whom it is for; and neither nonces, nor what is held back, nor the treasury: the law's walk. (Printed by gen_txothers.py.) -/
import Derived.Test.YtiinfiaemiaamaaTxG
import Derived.Test.YtiinfiaemiaamaaLedK
import Derived.Test.YtiinfiaemiaamaaTxD
namespace Go.Proofs.Ytiinfiaemiaamaa.Sh
open Go Go.RowKit

theorem run_init (bl : List Nat) (s k t : Int) (a n : Nat) : (runE (initM bl) s k t a n).2.k = bl.length ∧ (∀ i, (runE (initM bl) s k t a n).2.n i = 0) ∧ (∀ i, (runE (initM bl) s k t a n).2.f i = 0) ∧ (∀ i, (runE (initM bl) s k t a n).2.d i = 0) ∧ (runE (initM bl) s k t a n).2.t = 0 := by
  unfold runE
  split
  · split
    · unfold moveE
      split
      · split
        · exact ⟨rfl, fun _ => rfl, fun _ => rfl, fun _ => rfl, rfl⟩
        · exact ⟨rfl, fun _ => rfl, fun _ => rfl, fun _ => rfl, rfl⟩
      · exact ⟨rfl, fun _ => rfl, fun _ => rfl, fun _ => rfl, rfl⟩
    · split <;> exact ⟨rfl, fun _ => rfl, fun _ => rfl, fun _ => rfl, rfl⟩
  · exact ⟨rfl, fun _ => rfl, fun _ => rfl, fun _ => rfl, rfl⟩

theorem run_cases (bl : List Nat) (s k t : Int) (a n : Nat) (er : Nat) (m' : Lm) (hr : (er, m') = runE (initM bl) s k t a n) (j : Nat) :
    (er ≠ 0 ∧ m'.b j = bl.getD j 0) ∨ (er = 0 ∧ k ≠ 1 ∧ m'.b j = bl.getD j 0) ∨ (er = 0 ∧ k = 1 ∧ s = t ∧ m'.b j = bl.getD j 0) ∨ (er = 0 ∧ k = 1 ∧ s ≠ t ∧ (j : Int) = s ∧ bl.getD j 0 = m'.b j + a) ∨ (er = 0 ∧ k = 1 ∧ s ≠ t ∧ (j : Int) ≠ s ∧ (j : Int) = t ∧ m'.b j = bl.getD j 0 + a) ∨ (er = 0 ∧ k = 1 ∧ s ≠ t ∧ (j : Int) ≠ s ∧ (j : Int) ≠ t ∧ m'.b j = bl.getD j 0) := by
  unfold runE at hr
  split at hr
  · split at hr
    · rename_i hk1
      unfold moveE at hr
      split at hr
      · rename_i his
        obtain ⟨⟨s1, s2⟩, ⟨t1, t2⟩⟩ := his
        split at hr
        · simp only [Prod.mk.injEq] at hr
          obtain ⟨rfl, rfl⟩ := hr
          exact .inl ⟨by omega, rfl⟩
        · rename_i hlt
          simp only [Prod.mk.injEq] at hr
          obtain ⟨rfl, rfl⟩ := hr
          simp only [initM] at hlt
          by_cases hst : s = t
          · subst hst
            refine .inr (.inr (.inl ⟨rfl, hk1, rfl, ?_⟩))
            simp only [Lm.move, initM, upd]
            split
            · rename_i h; subst h; first | (rw [if_pos True.intro]; omega) | (rw [if_pos rfl]; omega)
            · rename_i h; first | rfl | rw [if_neg h]
          · by_cases hjs : (j : Int) = s
            · refine .inr (.inr (.inr (.inl ⟨rfl, hk1, hst, hjs, ?_⟩)))
              have hj : j = s.toNat := by omega
              have hjt : j ≠ t.toNat := by omega
              simp only [Lm.move, initM, upd]
              rw [if_neg hjt, if_pos hj, hj]
              omega
            · by_cases hjt : (j : Int) = t
              · refine .inr (.inr (.inr (.inr (.inl ⟨rfl, hk1, hst, hjs, hjt, ?_⟩))))
                have hj : j = t.toNat := by omega
                have hne : t.toNat ≠ s.toNat := by omega
                simp only [Lm.move, initM, upd]
                rw [if_pos hj, if_neg hne, hj]
              · refine .inr (.inr (.inr (.inr (.inr ⟨rfl, hk1, hst, hjs, hjt, ?_⟩))))
                simp only [Lm.move, initM, upd]
                rw [if_neg (by omega), if_neg (by omega)]
      · simp only [Prod.mk.injEq] at hr
        obtain ⟨rfl, rfl⟩ := hr
        exact .inl ⟨by omega, rfl⟩
    · rename_i hk1
      split at hr
      · simp only [Prod.mk.injEq] at hr
        obtain ⟨rfl, rfl⟩ := hr
        exact .inr (.inl ⟨rfl, hk1, rfl⟩)
      · simp only [Prod.mk.injEq] at hr
        obtain ⟨rfl, rfl⟩ := hr
        exact .inl ⟨by omega, rfl⟩
  · simp only [Prod.mk.injEq] at hr
    obtain ⟨rfl, rfl⟩ := hr
    exact .inl ⟨by omega, rfl⟩

set_option maxRecDepth 20000 in
set_option maxHeartbeats 6400000 in
theorem txOthers_walk (w : World) {v u : Value} {bl : List Nat} {sz : Int} {T0 : TxM} (hv : Ns w v bl) (hsz : (Lit.int .i64 sz).wf = true) (hu : TxRep w u T0) :
    Calls Try.prog 13 #[v, .int .i64 sz, u] w fun e w' => e = .returned (.bool true) ∧ Only [] w w' := by
  obtain ⟨k, t, a, m⟩ := T0
  obtain ⟨mv, rfl, hm, _, _, ha⟩ := hu
  simp only at hm ha
  obtain ⟨ma, mc, rfl⟩ := bs_form' hm
  obtain ⟨va, vc, rfl, g1, g2, g3⟩ := hv.form
  clear hsz
  obtain ⟨w1, hw1⟩ : ∃ w1, w1 = w.alloc (Obj.cells #[.int .i64 k, .int .i64 t, .int .u64 (a : Int), .slice ma m.length mc] 37) := ⟨_, rfl⟩
  have o1 : Only [] w w1 := by rw [hw1]; exact (Only.refl [] w).alloc _
  have c0 : w1.cell? ⟨w.heap.size, 0, none⟩ = some (.int .i64 k) := by rw [hw1]; simp [go_sem]
  have c1 : w1.cell? ⟨w.heap.size, 1, none⟩ = some (.int .i64 t) := by rw [hw1]; simp [go_sem]
  have c2 : w1.cell? ⟨w.heap.size, 2, none⟩ = some (.int .u64 (a : Int)) := by rw [hw1]; simp [go_sem]
  have c3 : w1.cell? ⟨w.heap.size, 3, none⟩ = some (.slice ma m.length mc) := by rw [hw1]; simp [go_sem]
  by_cases hbad : 20 < bl.length ∨ 100 < m.length
  · by_cases q1 : 20 < bl.length
    · clear hbad
      go_enter Try.func13, Try.ntmps13
      go_wp2_with fail
      rw [← hw1]
      clear hw1
      refine (awake14_any _).mono ?_
      rintro e w2 ⟨rfl, o2⟩
      replace c3 := o2.cell c3 (by simp)
      go_wp2_with fail
      refine (awake14_any _).mono ?_
      rintro e w3 ⟨rfl, o3⟩
      go_wp2
      go_ret
      exact ⟨rfl, (o1.trans0 o2).trans0 o3⟩
    · have q2 : 100 < m.length := by omega
      clear hbad
      go_enter Try.func13, Try.ntmps13
      go_wp2_with fail
      rw [← hw1]
      clear hw1
      refine (awake14_any _).mono ?_
      rintro e w2 ⟨rfl, o2⟩
      replace c3 := o2.cell c3 (by simp)
      go_wp2_with fail
      refine (awake14_any _).mono ?_
      rintro e w3 ⟨rfl, o3⟩
      go_wp2
      go_ret
      exact ⟨rfl, (o1.trans0 o2).trans0 o3⟩
  have q1 : ¬ 20 < bl.length := by omega
  have q2 : ¬ 100 < m.length := by omega
  have hl2 : bl.length ≤ 20 := by omega
  clear hbad
  have hm1 := hm.kept0 o1
  have hnew := hid (fun W (h : Ns W (.slice va bl.length vc) bl) => new_any W _ bl h)
  by_cases hz : newE bl = 0
  · have hi0 := initM_inv bl hz
    have HZ := hid hz
    obtain ⟨r, hr⟩ : ∃ r, r = runE (initM bl) sz k t a m.length := ⟨_, rfl⟩
    have hri := run_init bl sz k t a m.length
    have hinv := runE_inv hi0 sz k t a m.length
    have hrun := fun W x ab mb (h : Led W x ab mb (initM bl)) (hb : Bs W (.slice ma m.length mc) m) => run_any W x ab mb _ _ h hi0 sz k t a _ m hb ha
    unfold HoldPost at hrun
    rw [← hr] at hri hinv
    simp only [← hr] at hrun
    obtain ⟨er, m'⟩ := r
    have hcases := hid (run_cases bl sz k t a m.length er m' hr)
    simp only at hri hinv hrun
    obtain ⟨hk', hn', hf', hd', ht'⟩ := hri
    replace hrun := hid hrun
    have p1 := hid (fun W x ab mb (h : Led W x ab mb m') (z : Int) => balance_any W x ab mb _ m' h hinv z)
    have p2 := hid (fun W x ab mb (h : Led W x ab mb m') (z : Int) => nonce_any W x ab mb _ m' h hinv z)
    have p3 := fun W x ab mb (h : Led W x ab mb m') => fees_any W x ab mb _ m' h hinv
    have p4 := fun W x ab mb (h : Led W x ab mb m') => deposits_any W x ab mb _ m' h hinv
    have p5 := fun W x ab mb (h : Led W x ab mb m') => treasury_any W x ab mb m' h
    have s1 : sumTo m'.k m'.f = 0 := by rw [sumTo_congr (h := fun _ => 0) (fun i _ => hf' i), sumTo_zero]
    have s2 : sumTo m'.k m'.d = 0 := by rw [sumTo_congr (h := fun _ => 0) (fun i _ => hd' i), sumTo_zero]
    simp only [s1] at p3
    simp only [s2] at p4
    simp only [ht'] at p5
    replace p3 := hid p3
    replace p4 := hid p4
    replace p5 := hid p5
    have hbal : Hid (∀ j : Nat, j < bl.length → balE m' (j : Int) = m'.b j ∧ nonE m' (j : Int) = 0) := by
      intro j hj
      unfold balE nonE
      rw [if_pos (by unfold Lm.is; omega), if_pos (by unfold Lm.is; omega), Int.toNat_natCast, hn']
      exact ⟨rfl, rfl⟩
    have hbnd : Hid (∀ j : Nat, j < bl.length → m'.b j ≤ 1152921504606846976 ∧ bl.getD j 0 ≤ 1152921504606846976) := by
      intro j hj
      have h1 := hinv.bounds j (by omega)
      have h2 := hi0.bounds j hj
      have h3 := hinv.cap
      have h4 : (initM bl).b j = bl.getD j 0 := rfl
      omega
    clear hi0 hinv hz hr hk' hn' hf' hd' ht' s1 s2
    go_enter Try.func13, Try.ntmps13
    go_wp2_with fail
    rw [← hw1]
    clear hw1
    refine (awake14_any _).mono ?_
    rintro e w2 ⟨rfl, o2⟩
    replace c3 := o2.cell c3 (by simp)
    have O2 := o1.trans0 o2
    have hBox : Hid (w.heap.size < w2.heap.size) := by have h1 := lt_cell c0; have h2 := o2.size; show _ < _; omega
    go_wp2_with fail
    refine (hnew.out _ (hv.kept0 O2)).mono ?_
    rintro e w3 ⟨o3, hcase⟩
    rcases hcase with ⟨h, _⟩ | ⟨_, x, ab, mb, ⟨n1, n2, n3⟩, rfl, hL⟩
    · exact absurd HZ.out h
    have o23 := o2.trans0 o3
    replace c0 := o23.cell c0 (by simp)
    replace c1 := o23.cell c1 (by simp)
    replace c2 := o23.cell c2 (by simp)
    replace c3 := o3.cell c3 (by simp)
    have hm3 := (hm1.kept0 o2).kept0 o3
    have O3 := O2.trans0 o3
    have hbox : w.heap.size < w2.heap.size := hBox.out
    go_wp2_with fail
    refine (hrun.out _ _ _ _ hL hm3).mono ?_
    rintro e w4 ⟨rfl, hL4, o4⟩
    replace c0 := o4.cell c0 (by simp; omega)
    replace c1 := o4.cell c1 (by simp; omega)
    replace c2 := o4.cell c2 (by simp; omega)
    have O4 : Only [] w w4 := O3.trans o4 (by simp) (by simp; omega)
    clear hL hm3 c3 n1 n2 n3 hrun hnew
    go_wp2_with fail
    go_loopw [42] (fun i wr => ∃ j : Nat, j ≤ bl.length ∧ i = .int .i64 j ∧ Only [] w4 wr) (fun i _ => bl.length - (intOf i).toNat)
    case atStart => exact ⟨0, Nat.zero_le _, rfl, Only.refl _ _⟩
    case round =>
      obtain ⟨j, hj, rfl, ho⟩ := hrel
      have hLr := hL4.kept0 ho
      by_cases hlt : j < bl.length
      · obtain ⟨vb, vo, rfl, d1⟩ := hv.at j hlt
        have d1' := (O4.trans0 ho).cell d1 (by simp)
        have e0 := ho.cell c0 (by simp)
        have e1 := ho.cell c1 (by simp)
        have e2 := ho.cell c2 (by simp)
        obtain ⟨hb1, hb2⟩ := hbal.out j hlt
        obtain ⟨hbd1, hbd2⟩ := hbnd.out j hlt
        have pj := fun W (h : Led W x ab mb m') => p1.out W x ab mb h (j : Int)
        have pn := fun W (h : Led W x ab mb m') => p2.out W x ab mb h (j : Int)
        rw [hb1] at pj
        rw [hb2] at pn
        have hcs := hcases.out j
        have hgd : bl.getD j 0 = bl[j] := by simp [List.getD, hlt]
        obtain ⟨B0, hB0⟩ : ∃ B0, B0 = bl.getD j 0 := ⟨_, rfl⟩
        obtain ⟨B, hB⟩ : ∃ B, B = m'.b j := ⟨_, rfl⟩
        rw [← hB0] at hcs hbd2 hgd
        rw [← hB] at hcs pj hbd1
        rw [← hgd] at d1'
        simp only [Sh.u64] at d1'
        replace pj := hid pj
        replace pn := hid pn
        have hbb : ((B : Int) != (B : Int)) = false := by simp
        have hnn : (((0 : Nat) : Int) != 0) = false := by simp
        have hj20 : (j : Int) < 1000 := by omega
        clear hb1 hb2 hgd hB0 hB d1
        rcases hcs with ⟨k1, k2⟩ | ⟨k1, k2, k3⟩ | ⟨k1, k2, k3, k4⟩ | ⟨k1, k2, k3, k4, k5⟩ | ⟨k1, k2, k3, k4, k5, k6⟩ | ⟨k1, k2, k3, k4, k5, k6⟩
        · subst k2
          have z1 : ((er : Int) == 0) = false := by rw [beq_eq_false_iff_ne]; omega
          have z2 : ((er : Int) != 0) = true := by rw [bne_iff_ne]; omega
          clear k1
          go_wp2_with fail
          refine (pj.out _ hLr).mono ?_
          rintro e w' ⟨rfl, rfl⟩
          go_wp2_with fail
          refine (pn.out _ hLr).mono ?_
          rintro e w' ⟨rfl, rfl⟩
          go_wp2_with fail
          go_quiet (fail)
          go_wp2
          go_roundw
          case rel => exact ⟨j + 1, by omega, by go_num, ho.trans0 (only_drewN _ _ _)⟩
          case measure => simp [intOf]; omega
        · subst k3
          have y1 : ((er : Int) == 0) = true := by simp [k1]
          have y2 : ((er : Int) != 0) = false := by simp [k1]
          have z1 : (k == 1) = false := by rw [beq_eq_false_iff_ne]; exact k2
          have z2 : (k != 1) = true := by rw [bne_iff_ne]; exact k2
          clear k1 k2
          go_wp2_with fail
          refine (pj.out _ hLr).mono ?_
          rintro e w' ⟨rfl, rfl⟩
          go_wp2_with fail
          refine (pn.out _ hLr).mono ?_
          rintro e w' ⟨rfl, rfl⟩
          go_wp2_with fail
          go_quiet (fail)
          go_wp2
          go_roundw
          case rel => exact ⟨j + 1, by omega, by go_num, ho.trans0 (only_drewN _ _ _)⟩
          case measure => simp [intOf]; omega
        · subst k4
          have y1 : ((er : Int) == 0) = true := by simp [k1]
          have y2 : ((er : Int) != 0) = false := by simp [k1]
          have y3 : (k == 1) = true := by simp [k2]
          have y4 : (k != 1) = false := by simp [k2]
          have z1 : (sz != t) = false := by simp [k3]
          clear k1 k2 k3
          go_wp2_with fail
          refine (pj.out _ hLr).mono ?_
          rintro e w' ⟨rfl, rfl⟩
          go_wp2_with fail
          refine (pn.out _ hLr).mono ?_
          rintro e w' ⟨rfl, rfl⟩
          go_wp2_with fail
          go_quiet (fail)
          go_wp2
          go_roundw
          case rel => exact ⟨j + 1, by omega, by go_num, ho.trans0 (only_drewN _ _ _)⟩
          case measure => simp [intOf]; omega
        · skip
          have y1 : ((er : Int) == 0) = true := by simp [k1]
          have y2 : ((er : Int) != 0) = false := by simp [k1]
          have y3 : (k == 1) = true := by simp [k2]
          have y4 : (k != 1) = false := by simp [k2]
          have z0 : (sz != t) = true := by rw [bne_iff_ne]; exact k3
          have z1 : ((j : Int) != t) = true := by rw [bne_iff_ne, k4]; exact k3
          have z2 : ((j : Int) == t) = false := by rw [beq_eq_false_iff_ne, k4]; exact k3
          have z3 : ((j : Int) == sz) = true := by simp [k4]
          have z4 : ((j : Int) != sz) = false := by simp [k4]
          have hsub : IntKind.u64.wrap ((B0 : Int) - (a : Int)) = (B : Int) := by rw [IntKind.wrap_u64]; omega
          by_cases hch : B = B0
          · have z5 : ((B : Int) != (B0 : Int)) = false := by simp [hch]
            clear k1 k2 k3 k4 k5 hch
            go_wp2_with fail
            refine (pj.out _ hLr).mono ?_
            rintro e w' ⟨rfl, rfl⟩
            go_wp2_with fail
            refine (pn.out _ hLr).mono ?_
            rintro e w' ⟨rfl, rfl⟩
            go_wp2_with fail
            go_quiet (fail)
            go_wp2
            go_roundw
            case rel => exact ⟨j + 1, by omega, by go_num, ho.trans0 (only_drewN _ _ _)⟩
            case measure => simp [intOf]; omega
          · have z5 : ((B : Int) != (B0 : Int)) = true := by rw [bne_iff_ne]; omega
            clear k1 k2 k3 k4 k5 hch
            go_wp2_with fail
            refine (pj.out _ hLr).mono ?_
            rintro e w' ⟨rfl, rfl⟩
            go_wp2_with fail
            refine (pn.out _ hLr).mono ?_
            rintro e w' ⟨rfl, rfl⟩
            go_wp2_with fail
            go_quiet (fail)
            go_wp2
            go_roundw
            case rel => exact ⟨j + 1, by omega, by go_num, ho.trans0 (only_drewN _ _ _)⟩
            case measure => simp [intOf]; omega
        · skip
          have y1 : ((er : Int) == 0) = true := by simp [k1]
          have y2 : ((er : Int) != 0) = false := by simp [k1]
          have y3 : (k == 1) = true := by simp [k2]
          have y4 : (k != 1) = false := by simp [k2]
          have z0 : (sz != t) = true := by rw [bne_iff_ne]; exact k3
          have z2 : ((j : Int) != sz) = true := by rw [bne_iff_ne]; exact k4
          have z3 : ((j : Int) == sz) = false := by rw [beq_eq_false_iff_ne]; exact k4
          have z4 : ((j : Int) == t) = true := by simp [k5]
          have z6 : ((j : Int) != t) = false := by simp [k5]
          have hadd : IntKind.u64.wrap ((B0 : Int) + (a : Int)) = (B : Int) := by rw [IntKind.wrap_u64]; omega
          by_cases hch : B = B0
          · have z5 : ((B : Int) != (B0 : Int)) = false := by simp [hch]
            clear k1 k2 k3 k4 k5 k6 hch
            go_wp2_with fail
            refine (pj.out _ hLr).mono ?_
            rintro e w' ⟨rfl, rfl⟩
            go_wp2_with fail
            refine (pn.out _ hLr).mono ?_
            rintro e w' ⟨rfl, rfl⟩
            go_wp2_with fail
            go_quiet (fail)
            go_wp2
            go_roundw
            case rel => exact ⟨j + 1, by omega, by go_num, ho.trans0 (only_drewN _ _ _)⟩
            case measure => simp [intOf]; omega
          · have z5 : ((B : Int) != (B0 : Int)) = true := by rw [bne_iff_ne]; omega
            clear k1 k2 k3 k4 k5 k6 hch
            go_wp2_with fail
            refine (pj.out _ hLr).mono ?_
            rintro e w' ⟨rfl, rfl⟩
            go_wp2_with fail
            refine (pn.out _ hLr).mono ?_
            rintro e w' ⟨rfl, rfl⟩
            go_wp2_with fail
            go_quiet (fail)
            go_wp2
            go_roundw
            case rel => exact ⟨j + 1, by omega, by go_num, ho.trans0 (only_drewN _ _ _)⟩
            case measure => simp [intOf]; omega
        · subst k6
          have y1 : ((er : Int) == 0) = true := by simp [k1]
          have y2 : ((er : Int) != 0) = false := by simp [k1]
          have y3 : (k == 1) = true := by simp [k2]
          have y4 : (k != 1) = false := by simp [k2]
          have z0 : (sz != t) = true := by rw [bne_iff_ne]; exact k3
          have z2 : ((j : Int) != sz) = true := by rw [bne_iff_ne]; exact k4
          have z3 : ((j : Int) == sz) = false := by rw [beq_eq_false_iff_ne]; exact k4
          have z4 : ((j : Int) == t) = false := by rw [beq_eq_false_iff_ne]; exact k5
          clear k1 k2 k3 k4 k5
          go_wp2_with fail
          refine (pj.out _ hLr).mono ?_
          rintro e w' ⟨rfl, rfl⟩
          go_wp2_with fail
          refine (pn.out _ hLr).mono ?_
          rintro e w' ⟨rfl, rfl⟩
          go_wp2_with fail
          go_quiet (fail)
          go_wp2
          go_roundw
          case rel => exact ⟨j + 1, by omega, by go_num, ho.trans0 (only_drewN _ _ _)⟩
          case measure => simp [intOf]; omega
      · obtain rfl : j = bl.length := by omega
        go_wp2_with fail
        refine (p3.out _ _ _ _ hLr).mono ?_
        rintro e w6 ⟨rfl, o6⟩
        have hL6 := hLr.kept0 o6
        go_wp2_with fail
        refine (p4.out _ _ _ _ hL6).mono ?_
        rintro e w7 ⟨rfl, o7⟩
        have hL7 := hL6.kept0 o7
        go_wp2_with fail
        refine (p5.out _ _ _ _ hL7).mono ?_
        rintro e w' ⟨rfl, rfl⟩
        go_wp2
        go_ret
        exact ⟨rfl, ((O4.trans0 ho).trans0 o6).trans0 o7⟩
  · have HZ := hid hz
    clear hz
    go_enter Try.func13, Try.ntmps13
    go_wp2_with fail
    rw [← hw1]
    clear hw1
    refine (awake14_any _).mono ?_
    rintro e w2 ⟨rfl, o2⟩
    replace c3 := o2.cell c3 (by simp)
    have O2 := o1.trans0 o2
    go_wp2_with fail
    refine (hnew.out _ (hv.kept0 O2)).mono ?_
    rintro e w3 ⟨o3, hcase⟩
    rcases hcase with ⟨hn, rfl⟩ | ⟨h, _⟩
    · have hnz : ((newE bl : Int) != 0) = true := by rw [bne_iff_ne]; omega
      clear hn
      go_wp2
      go_ret
      exact ⟨rfl, O2.trans0 o3⟩
    · exact absurd h HZ.out
end Go.Proofs.Ytiinfiaemiaamaa.Sh
