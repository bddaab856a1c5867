/- An order that is done leaves the ledger that the document says, or there is its error, and the ledger is as it was: the law's walk. -/
import Derived.Test.YtiinfiaemiaamaaTxH
import Derived.Test.YtiinfiaemiaamaaLedM
import Derived.Test.YtiinfiaemiaamaaTxD
namespace Go.Proofs.Ytiinfiaemiaamaa.Sh
open Go Go.RowKit

theorem runE_k (m : Lm) (s k t : Int) (a n : Nat) : (runE m s k t a n).2.k = m.k := by
  unfold runE
  split
  · split
    · unfold moveE
      split
      · split <;> rfl
      · rfl
    · split <;> rfl
  · rfl

set_option maxRecDepth 20000 in
set_option maxHeartbeats 6400000 in
theorem txRuns_walk (w : World) {v u : Value} {bl : List Nat} {sz : Int} {ts : List TxM} (hv : Ns w v bl) (hsz : (Lit.int .i64 sz).wf = true) (hu : Txs w u ts) :
    Calls Try.prog 14 #[v, .int .i64 sz, u] w fun e w' => e = .returned (.bool true) ∧ Only [] w w' := by
  obtain ⟨a, cap, rfl, h1, h2, h3⟩ := hv.form
  obtain ⟨oa, ocap, rfl, o1, o2, o3⟩ := hu.form
  have hok : ∀ o ∈ ts, o.ok := by
    obtain ⟨_, _, _, _, _, _, h, _⟩ := hu
    exact h
  clear hsz
  by_cases hbad : 20 < bl.length ∨ 30 < ts.length
  · by_cases h0 : 20 < bl.length
    all_goals
      first
        | (have hq : 20 < bl.length := h0
           clear hbad)
        | (have hq : 30 < ts.length := by omega
           clear hbad)
      go_enter Try.func14, Try.ntmps14
      go_wp2_with fail
      refine (awake14_any _).mono ?_
      rintro e w1 ⟨rfl, ho1⟩
      go_wp2_with fail
      refine (awake14_any _).mono ?_
      rintro e w2 ⟨rfl, ho2⟩
      go_wp2
      go_ret
      exact ⟨rfl, ho1.trans0 ho2⟩
  have hl1 : ts.length ≤ 30 := by omega
  have hl2 : bl.length ≤ 20 := by omega
  have hld1 : decide (30 < (ts.length : Int)) = false := by simp; omega
  have hld2 : decide (20 < (bl.length : Int)) = false := by simp; omega
  clear hbad
  by_cases hz : newE bl = 0
  · have hi0 := hid (initM_inv bl hz)
    obtain ⟨T, hT⟩ : ∃ T, T = bl.sum := ⟨_, rfl⟩
    rw [← hT] at hi0
    have hk6 : 1 ≤ bl.length ∧ bl.length ≤ 6 := hi0.out.few
    replace hz := hid hz
    replace hok := hid hok
    clear hT
    go_enter Try.func14, Try.ntmps14
    go_wp2_with fail
    refine (awake14_any _).mono ?_
    rintro e w1 ⟨rfl, ho1⟩
    go_wp2_with fail
    refine (new_any _ _ bl (hv.kept0 ho1)).mono ?_
    rintro e w2 ⟨hp2, hcase⟩
    have ho2 : Only [] w w2 := ho1.trans0 hp2
    rcases hcase with ⟨h, _⟩ | ⟨_, x, ab, mb, ⟨n1, n2, n3⟩, rfl, hL⟩
    · exact absurd hz.out h
    go_wp2_with fail
    refine (rnew_any _ _ bl (hv.kept0 ho2)).mono ?_
    rintro e w3 ⟨hp3, hcase⟩
    have ho3 : Only [] w w3 := ho2.trans0 hp3
    rcases hcase with ⟨h, _⟩ | ⟨_, y, b1, b2, b3, b4, ⟨m1, m2, m3, m4, m5⟩, rfl, hR⟩
    · exact absurd hz.out h
    have hs1 := ho1.size
    have hs2 := ho2.size
    have hlx := hL.lt
    have hla := hL.ltA (i := 0) (by have : (initM bl).k = bl.length := rfl; omega)
    have hne : (y ≠ x ∧ y ≠ ab ∧ y ≠ mb) ∧ (b1 ≠ x ∧ b1 ≠ ab ∧ b1 ≠ mb) ∧ (b2 ≠ x ∧ b2 ≠ ab ∧ b2 ≠ mb) ∧ (b3 ≠ x ∧ b3 ≠ ab ∧ b3 ≠ mb) ∧ (b4 ≠ x ∧ b4 ≠ ab ∧ b4 ≠ mb) := by omega
    have hszx : (w.heap.size ≤ x ∧ w.heap.size ≤ ab ∧ w.heap.size ≤ mb) ∧ w.heap.size ≤ y ∧ w.heap.size ≤ b1 ∧ w.heap.size ≤ b2 ∧ w.heap.size ≤ b3 ∧ w.heap.size ≤ b4 := by omega
    have hL3 := hL.kept0 hp3
    have HNE := hid hne
    have HSZ := hid hszx
    clear n1 n2 n3 m1 m2 m3 m4 m5 hs1 hs2 hlx hla hne hszx hL
    go_wp2_with fail
    try rw [hld1, hld2]
    clear hld1 hld2
    go_loopw [42] (fun i wr => ∃ (k : Nat) (m : Lm), k ≤ ts.length ∧ i = .int .i64 k ∧ Led wr x ab mb m ∧ RLed wr y b1 b2 b3 b4 m ∧ Hid (LInv T m) ∧ Hid (m.k = bl.length) ∧ Only [] w wr) (fun i _ => ts.length - (intOf i).toNat)
    case atStart => exact ⟨0, initM bl, Nat.zero_le _, rfl, hL3, hR, hi0, hid rfl, ho3⟩
    case round =>
      obtain ⟨k, m, hk, rfl, hLr, hRr, hI, hmk, ho⟩ := hrel
      by_cases hlt : k < ts.length
      · obtain ⟨ob, oo, rfl, c1w, c2w, c3w, mv, c4w, hBw⟩ := hu.at k hlt
        have hobl : ob < w.heap.size := lt_cell c1w
        have c1 := ho.cell c1w (by simp)
        have c2 := ho.cell c2w (by simp)
        have c3 := ho.cell c3w (by simp)
        have c4 := ho.cell c4w (by simp)
        have hBr := hBw.kept0 ho
        obtain ⟨o, hoe⟩ : ∃ o, o = ts[k] := ⟨_, rfl⟩
        have hoo := hok.out o (by rw [hoe]; exact List.getElem_mem hlt)
        rw [← hoe] at c1 c2 c3 hBr hBw
        obtain ⟨ok, ot, oam, om⟩ := o
        simp only at c1 c2 c3 hBr hBw
        have hoam : oam < 18446744073709551616 := hoo.2.2
        obtain ⟨ma, mc, rfl⟩ := bs_form' hBr
        have hx1 : ob ∉ [x, ab, mb] := by have := HSZ.out; simp; omega
        have hx2 : ob ∉ [y, b1, b2, b3, b4] := by have := HSZ.out; simp; omega
        clear c1w c2w c3w c4w hoe hoo
        by_cases h100 : 100 < om.length
        · have hd1 : decide (100 < (om.length : Int)) = true := by simp; omega
          go_wp2_with fail
          go_quiet (fail)
          go_wp2
          go_ret
          exact ⟨rfl, ho.trans0 (only_drewN _ _ _)⟩
        · have hd1 : decide (100 < (om.length : Int)) = false := by simp; omega
          have hI2 := runE_inv hI.out sz ok ot oam om.length
          have hk2 := runE_k m sz ok ot oam om.length
          rw [hmk.out] at hk2
          have hrun := fun W (hl : Led W x ab mb m) (hb : Bs W (.slice ma om.length mc) om) => run_any W x ab mb T m hl hI.out sz ok ot oam _ om hb hoam
          have hrrun := fun W (hl : RLed W y b1 b2 b3 b4 m) (hb : Bs W (.slice ma om.length mc) om) => rrun_any W y b1 b2 b3 b4 T m hl hI.out sz ok ot oam _ om hb hoam
          obtain ⟨r, hr⟩ : ∃ r, r = runE m sz ok ot oam om.length := ⟨_, rfl⟩
          rw [← hr] at hI2 hk2
          simp only [← hr] at hrun hrrun
          clear hr
          obtain ⟨er, m'⟩ := r
          unfold HoldPost at hrun
          unfold RPost at hrrun
          simp only at hrun hrrun hI2 hk2
          replace hrun := hid hrun
          replace hrrun := hid hrrun
          have hbal := hid (fun W (h : Led W x ab mb m') (z : Int) => balance_any W x ab mb T m' h hI2 z)
          have hbe : Hid (∀ j : Nat, j < bl.length → balE m' (j : Int) = m'.b j) := by
            intro j hj
            unfold balE
            rw [if_pos (by unfold Lm.is; omega), Int.toNat_natCast]
          replace hI2 := hid hI2
          replace hk2 := hid hk2
          have herr : ((er : Int) != (er : Int)) = false := by simp
          have hLd := hLr.drew
          have hRd := hRr.drew
          have hod : Only [] wr wr.drew := (Only.refl [] wr).drew
          have hbwO : Hid (∀ W, Only [x, ab, mb] wr W → Bs W (.slice ma om.length mc) om) := by
            intro W hq
            exact hBr.kept' hq (fun b hb => by
              rcases hBw.old b hb with h9 | h9
              · exact .inl h9
              · refine .inr ?_
                have := HSZ.out
                simp
                omega)
          have hBd := hBr.kept0 hod
          clear hBw hBr
          go_wp2_with fail
          go_region_held3 (fun w' => w'.cell? ⟨ob, oo + k * 4, none⟩ = some (.int .i64 ok) ∧ w'.cell? ⟨ob, oo + k * 4 + 1, none⟩ = some (.int .i64 ot) ∧ w'.cell? ⟨ob, oo + k * 4 + 2, none⟩ = some (.int .u64 (oam : Int)) ∧ w'.cell? ⟨ob, oo + k * 4 + 3, none⟩ = some (.slice ma om.length mc))
            (first | exact ⟨c1, c2, c3, c4⟩ | exact ⟨q1.cell c1 hx1, q1.cell c2 hx1, q1.cell c3 hx1, q1.cell c4 hx1⟩ | exact ⟨q2.cell (q1.cell c1 hx1) hx2, q2.cell (q1.cell c2 hx1) hx2, q2.cell (q1.cell c3 hx1) hx2, q2.cell (q1.cell c4 hx1) hx2⟩)
            (first
            | (go_at_call 43; refine (hrun.out _ hLd hBd).mono ?_; rintro e w4 ⟨rfl, hL4, q1'⟩; have q1 : Only [x, ab, mb] wr w4 := hod.trans q1' (by simp) (by simp); have hR4 := hRd.kept q1' (by have := HNE.out; simp; omega); have hB4 := hbwO.out _ q1)
            | (go_at_call 44; refine (hrrun.out _ hR4 hB4).mono ?_; rintro e w5 ⟨rfl, hR5, q2⟩; have hL5 := hL4.kept q2 (by have := HNE.out; simp; omega)))
          all_goals
            have hfin : Only [] w w5 := ((ho.trans q1 (ds := []) (by simp) (by have := HSZ.out; simp; omega)).trans q2 (ds := []) (by simp) (by have := HSZ.out; simp; omega))
            clear hrun hrrun hbwO hBd hB4 hL4 hR4 hLd hRd c1 c2 c3 c4 hd1 h100
            go_wp2_with fail
            go_loopw [78] (fun i wq => ∃ j : Nat, j ≤ bl.length ∧ i = .int .i64 j ∧ Only [] w5 wq) (fun i _ => bl.length - (intOf i).toNat)
            case atStart => exact ⟨0, Nat.zero_le _, rfl, Only.refl _ _⟩
            case round =>
              obtain ⟨j, hj, rfl, hq⟩ := hrel
              by_cases hjl : j < bl.length
              · obtain ⟨k1, s1, s2, s3⟩ := (hR5.kept0 hq).s1
                rw [hk2.out] at s1 s2
                have hc := ((hR5.kept0 hq).c1 j (by rw [hk2.out]; exact hjl)).1
                have pj := fun W (h : Led W x ab mb m') => hbal.out W h (j : Int)
                rw [hbe.out j hjl] at pj
                obtain ⟨B, hB⟩ : ∃ B, B = m'.b j := ⟨_, rfl⟩
                rw [← hB] at hc pj
                simp only [Sh.u64] at hc
                replace pj := hid pj
                have hbb : ((B : Int) != (B : Int)) = false := by simp
                have hLq := (hL5.kept0 hq).drew
                clear hB
                go_wp2_with fail
                go_region_held3 (fun w' => w'.cell? ⟨y, 0, none⟩ = some (.slice (some ⟨b1, 0, none⟩) bl.length k1) ∧ w'.cell? ⟨b1, j, none⟩ = some (.int .u64 (B : Int))) (exact ⟨s1, hc⟩) (first
                  | (go_at_call 18; refine (pj.out _ hLq).mono ?_; rintro e w' ⟨rfl, rfl⟩))
                go_wp2
                go_roundw
                case rel => exact ⟨j + 1, by omega, by go_num, hq.drew⟩
                case measure => simp [intOf]; omega
              · obtain rfl : j = bl.length := by omega
                go_wp2
                go_roundw
                case rel => exact ⟨k + 1, m', by omega, by go_num, hL5.kept0 hq, hR5.kept0 hq, hI2, hk2, hfin.trans0 hq⟩
                case measure => simp [intOf]; omega
      · obtain rfl : k = ts.length := by omega
        have ht := hid (total_any wr x ab mb T m hLr hI.out)
        have hrt := hid (fun W (h : RLed W y b1 b2 b3 b4 m) => rtotal_any W y b1 b2 b3 b4 T m h hI.out)
        have htt : ((T : Int) == (T : Int)) = true := by simp
        go_wp2_with fail
        refine ht.out.mono ?_
        rintro e w4 ⟨rfl, q3⟩
        go_wp2_with fail
        refine (hrt.out _ (hRr.kept0 q3)).mono ?_
        rintro e w5 ⟨rfl, q4⟩
        go_wp2
        go_ret
        exact ⟨rfl, (ho.trans0 q3).trans0 q4⟩
  · replace hz := hid hz
    clear hld1 hld2
    go_enter Try.func14, Try.ntmps14
    go_wp2_with fail
    refine (awake14_any _).mono ?_
    rintro e w1 ⟨rfl, ho1⟩
    go_wp2_with fail
    refine (new_any _ _ bl (hv.kept0 ho1)).mono ?_
    rintro e w2 ⟨hp2, hcase⟩
    have ho2 := ho1.trans0 hp2
    rcases hcase with ⟨hn, rfl⟩ | ⟨h, _⟩
    · go_wp2_with fail
      refine (rnew_any _ _ bl (hv.kept0 ho2)).mono ?_
      rintro e w3 ⟨hp3, hcase⟩
      rcases hcase with ⟨_, rfl⟩ | ⟨h, _⟩
      · have hnz : ((newE bl : Int) != 0) = true := by rw [bne_iff_ne]; omega
        clear hn
        go_wp2
        go_ret
        exact ⟨rfl, ho2.trans0 hp3⟩
      · exact absurd h hn
    · exact absurd h hz.out
end Go.Proofs.Ytiinfiaemiaamaa.Sh
