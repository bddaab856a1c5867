/- Whatever is held back, freed, paid, slashed, moved, and turned, each answer, and all that there is, is the document's: the law's walk. -/
import Derived.Test.YtiinfiaemiaamaaLedL
import Derived.Test.YtiinfiaemiaamaaReadL
import Derived.Test.YtiinfiaemiaamaaLedM
namespace Go.Proofs.Ytiinfiaemiaamaa.Sh
open Go Go.RowKit

set_option maxRecDepth 20000 in
set_option maxHeartbeats 6400000 in
theorem ledgerPlays_walk (w : World) {v u : Value} {bl : List Nat} {ops : List LOp} (hv : Ns w v bl) (hu : Sh.Ops w u ops) :
    Calls Try.prog 10 #[v, u] w fun e w' => e = .returned (.bool true) ∧ Only [] w w' := by
  obtain ⟨a, cap, rfl, h1, h2, h3⟩ := hv.form
  obtain ⟨oa, ocap, rfl, o1, o2, o3⟩ := hu.form
  have hok : ∀ o ∈ ops, o.ok := by
    obtain ⟨_, _, _, _, _, _, h, _⟩ := hu
    exact h
  by_cases hbad : 200 < ops.length ∨ 20 < bl.length
  · by_cases h0 : 200 < ops.length
    all_goals
      first
        | (have hq : 200 < ops.length := h0
           clear hbad)
        | (have hq : 20 < bl.length := by omega
           clear hbad)
      go_enter Try.func10, Try.ntmps10
      go_wp2_with fail
      refine (awake13_any _).mono ?_
      rintro e w1 ⟨rfl, ho1⟩
      go_wp2_with fail
      refine (awake13_any _).mono ?_
      rintro e w2 ⟨rfl, ho2⟩
      go_wp2
      go_ret
      exact ⟨rfl, ho1.trans0 ho2⟩
  have hl1 : ops.length ≤ 200 := by omega
  have hl2 : bl.length ≤ 20 := by omega
  have hld1 : decide (200 < (ops.length : Int)) = false := by simp; omega
  have hld2 : decide (20 < (bl.length : Int)) = false := by simp; omega
  clear hbad
  by_cases hz : newE bl = 0
  · have hi0 := hid (initM_inv bl hz)
    obtain ⟨T, hT⟩ : ∃ T, T = bl.sum := ⟨_, rfl⟩
    rw [← hT] at hi0
    have hk6 : 1 ≤ bl.length ∧ bl.length ≤ 6 := hi0.out.few
    replace hz := hid hz
    replace hok := hid hok
    clear hT
    go_enter Try.func10, Try.ntmps10
    go_wp2_with fail
    refine (awake13_any _).mono ?_
    rintro e w1 ⟨rfl, ho1⟩
    go_wp2_with fail
    refine (new_any _ _ bl (hv.kept0 ho1)).mono ?_
    rintro e w2 ⟨hp2, hcase⟩
    have ho2 : Only [] w w2 := ho1.trans0 hp2
    rcases hcase with ⟨h, _⟩ | ⟨_, x, ab, mb, ⟨n1, n2, n3⟩, rfl, hL⟩
    · exact absurd hz.out h
    go_wp2_with fail
    refine (rnew_any _ _ bl (hv.kept0 ho2)).mono ?_
    rintro e w3 ⟨hp3, hcase⟩
    have ho3 : Only [] w w3 := ho2.trans0 hp3
    rcases hcase with ⟨h, _⟩ | ⟨_, y, b1, b2, b3, b4, ⟨m1, m2, m3, m4, m5⟩, rfl, hR⟩
    · exact absurd hz.out h
    have hs1 := ho1.size
    have hs2 := ho2.size
    have hlx := hL.lt
    have hla := hL.ltA (i := 0) (by have : (initM bl).k = bl.length := rfl; omega)
    have hne : (y ≠ x ∧ y ≠ ab ∧ y ≠ mb) ∧ (b1 ≠ x ∧ b1 ≠ ab ∧ b1 ≠ mb) ∧ (b2 ≠ x ∧ b2 ≠ ab ∧ b2 ≠ mb) ∧ (b3 ≠ x ∧ b3 ≠ ab ∧ b3 ≠ mb) ∧ (b4 ≠ x ∧ b4 ≠ ab ∧ b4 ≠ mb) := by omega
    have hszx : (w.heap.size ≤ x ∧ w.heap.size ≤ ab ∧ w.heap.size ≤ mb) ∧ w.heap.size ≤ y ∧ w.heap.size ≤ b1 ∧ w.heap.size ≤ b2 ∧ w.heap.size ≤ b3 ∧ w.heap.size ≤ b4 := by omega
    have hL3 := hL.kept0 hp3
    have HNE := hid hne
    have HSZ := hid hszx
    clear n1 n2 n3 m1 m2 m3 m4 m5 hs1 hs2 hlx hla hne hszx hL
    go_wp2_with fail
    try rw [hld1, hld2]
    clear hld1 hld2
    go_loopw [47] (fun i wr => ∃ (k : Nat) (m : Lm), k ≤ ops.length ∧ i = .int .i64 k ∧ Led wr x ab mb m ∧ RLed wr y b1 b2 b3 b4 m ∧ Hid (LInv T m) ∧ Only [] w wr) (fun i _ => ops.length - (intOf i).toNat)
    case atStart => exact ⟨0, initM bl, Nat.zero_le _, rfl, hL3, hR, hi0, ho3⟩
    case round =>
      obtain ⟨k, m, hk, rfl, hLr, hRr, hI, ho⟩ := hrel
      by_cases hlt : k < ops.length
      · obtain ⟨ob, oo, rfl, c1, c2, c3, c4⟩ := (hu.kept0 ho).at k hlt
        have hobl : ob < w.heap.size := by
          obtain ⟨ob', oo', he, e1, _⟩ := hu.at k hlt
          simp only [Option.some.injEq, Addr.mk.injEq, and_true] at he
          obtain ⟨rfl, rfl⟩ := he
          exact lt_cell e1
        obtain ⟨o, hoe⟩ : ∃ o, o = ops[k] := ⟨_, rfl⟩
        have hoo := hok.out o (by rw [hoe]; exact List.getElem_mem hlt)
        rw [← hoe] at c1 c2 c3 c4
        simp only [Sh.u64] at c4
        have hI2 := doE_inv hI.out o
        have hdo := fun w' (h : Led w' x ab mb m) => do_any w' x ab mb T m h hI.out o hoo
        have hdc := fun w' (h : RLed w' y b1 b2 b3 b4 m) => doc_any w' y b1 b2 b3 b4 T m h hI.out o hoo
        obtain ⟨r, hr⟩ : ∃ r, r = doE m o := ⟨_, rfl⟩
        rw [← hr] at hI2
        simp only [← hr] at hdo hdc
        clear hr hoe
        obtain ⟨er, m'⟩ := r
        unfold HoldPost at hdo
        unfold RPost at hdc
        simp only at hdo hdc hI2
        have hsm := hid (fun w' (hl : Led w' x ab mb m') (hr : RLed w' y b1 b2 b3 b4 m') => same13_any w' x ab mb y b1 b2 b3 b4 T m' hl hr hI2)
        replace hdo := hid hdo
        replace hdc := hid hdc
        replace hI2 := hid hI2
        have herr : ((er : Int) != (er : Int)) = false := by simp
        have hLd := hLr.drew
        have hRd := hRr.drew
        have hod : Only [] wr wr.drew := (Only.refl [] wr).drew
        have hx1 : ob ∉ [x, ab, mb] := by have := HSZ.out; simp; omega
        have hx2 : ob ∉ [y, b1, b2, b3, b4] := by have := HSZ.out; simp; omega
        go_wp2_with fail
        go_region_held3 (fun w' => w'.cell? ⟨ob, oo + k * 4, none⟩ = some (.int .i64 o.kind) ∧ w'.cell? ⟨ob, oo + k * 4 + 1, none⟩ = some (.int .i64 o.who) ∧ w'.cell? ⟨ob, oo + k * 4 + 2, none⟩ = some (.int .i64 o.to) ∧ w'.cell? ⟨ob, oo + k * 4 + 3, none⟩ = some (.int .u64 (o.n : Int)))
          (first | exact ⟨c1, c2, c3, c4⟩ | exact ⟨q1.cell c1 hx1, q1.cell c2 hx1, q1.cell c3 hx1, q1.cell c4 hx1⟩ | exact ⟨q2.cell (q1.cell c1 hx1) hx2, q2.cell (q1.cell c2 hx1) hx2, q2.cell (q1.cell c3 hx1) hx2, q2.cell (q1.cell c4 hx1) hx2⟩ | exact ⟨q3.cell (q2.cell (q1.cell c1 hx1) hx2) (by simp), q3.cell (q2.cell (q1.cell c2 hx1) hx2) (by simp), q3.cell (q2.cell (q1.cell c3 hx1) hx2) (by simp), q3.cell (q2.cell (q1.cell c4 hx1) hx2) (by simp)⟩)
          (first
          | (go_at_call 36; refine (hdo.out _ hLd).mono ?_; rintro e w4 ⟨rfl, hL4, q1'⟩; have q1 : Only [x, ab, mb] wr w4 := hod.trans q1' (by simp) (by simp); have hR4 := hRd.kept q1' (by have := HNE.out; simp; omega))
          | (go_at_call 37; refine (hdc.out _ hR4).mono ?_; rintro e w5 ⟨rfl, hR5, q2⟩; have hL5 := hL4.kept q2 (by have := HNE.out; simp; omega))
          | (go_at_call 38; refine (hsm.out _ hL5 hR5).mono ?_; rintro e w6 ⟨rfl, q3⟩))
        have hfin : Only [] w w6 := ((ho.trans q1 (ds := []) (by simp) (by have := HSZ.out; simp; omega)).trans q2 (ds := []) (by simp) (by have := HSZ.out; simp; omega)).trans0 q3
        have hL6 := hL5.kept0 q3
        have hR6 := hR5.kept0 q3
        go_wp2
        go_roundw
        case rel => exact ⟨k + 1, m', by omega, by go_num, hL6, hR6, hI2, hfin⟩
        case measure => simp [intOf]; omega
      · obtain rfl : k = ops.length := by omega
        have hsm := hid (same13_any wr x ab mb y b1 b2 b3 b4 T m hLr hRr hI.out)
        go_wp2_with fail
        refine hsm.out.mono ?_
        rintro e w4 ⟨rfl, q3⟩
        go_wp2
        go_ret
        exact ⟨rfl, ho.trans0 q3⟩
  · replace hz := hid hz
    clear hld1 hld2
    go_enter Try.func10, Try.ntmps10
    go_wp2_with fail
    refine (awake13_any _).mono ?_
    rintro e w1 ⟨rfl, ho1⟩
    go_wp2_with fail
    refine (new_any _ _ bl (hv.kept0 ho1)).mono ?_
    rintro e w2 ⟨hp2, hcase⟩
    have ho2 := ho1.trans0 hp2
    rcases hcase with ⟨hn, rfl⟩ | ⟨h, _⟩
    · go_wp2_with fail
      refine (rnew_any _ _ bl (hv.kept0 ho2)).mono ?_
      rintro e w3 ⟨hp3, hcase⟩
      rcases hcase with ⟨_, rfl⟩ | ⟨h, _⟩
      · have hnz : ((newE bl : Int) != 0) = true := by rw [bne_iff_ne]; omega
        have hnn : ((newE bl : Int) != (newE bl : Int)) = false := by simp
        clear hn
        go_wp2
        go_ret
        exact ⟨rfl, ho2.trans0 hp3⟩
      · exact absurd h hn
    · exact absurd h hz.out
end Go.Proofs.Ytiinfiaemiaamaa.Sh
