/- A copy is as the ledger was, whatever comes to either; a nil one has nothing: the law's walk. -/
import Derived.Test.YtiinfiaemiaamaaLedL
import Derived.Test.YtiinfiaemiaamaaReadL
import Derived.Test.YtiinfiaemiaamaaLedM
import Derived.Test.YtiinfiaemiaamaaLedN
namespace Go.Proofs.Ytiinfiaemiaamaa.Sh
open Go Go.RowKit

def runL (m : Lm) (l : List LOp) : Lm := l.foldl (fun m o => (doE m o).2) m
theorem runL_inv {T : Nat} : ∀ (l : List LOp) (m : Lm), LInv T m → LInv T (runL m l)
  | [], _, h => h
  | o :: l, m, h => runL_inv l _ (doE_inv h o)
theorem runL_next (m : Lm) (l : List LOp) (k : Nat) (hk : k < l.length) : runL m (l.take (k + 1)) = (doE (runL m (l.take k)) l[k]).2 := by
  unfold runL
  rw [List.take_succ_eq_append_getElem hk, List.foldl_append]
  rfl

theorem Ops.out {w : World} {v : Value} {l : List LOp} (h : Sh.Ops w v l) : ∀ o ∈ l, o.ok := by
  obtain ⟨_, _, _, _, _, _, h, _⟩ := h
  exact h

set_option maxRecDepth 20000 in
set_option maxHeartbeats 6400000 in
theorem ledgerCopies_walk (w : World) {v u u2 : Value} {bl : List Nat} {ops more : List LOp} (hv : Ns w v bl) (hu : Sh.Ops w u ops) (hm : Sh.Ops w u2 more) :
    Calls Try.prog 12 #[v, u, u2] w fun e w' => e = .returned (.bool true) ∧ Only [] w w' := by
  obtain ⟨a, cap, rfl, h1, h2, h3⟩ := hv.form
  obtain ⟨oa, ocap, rfl, o1, o2, o3⟩ := hu.form
  obtain ⟨pa, pcap, rfl, q1, q2, q3⟩ := hm.form
  have hok := hu.out
  have hok2 := hm.out
  by_cases hbad : 200 < ops.length ∨ 200 < more.length ∨ 20 < bl.length
  · by_cases h0 : 200 < ops.length
    all_goals
      first
        | (have hq : 200 < ops.length := h0
           clear hbad)
        | (by_cases h4 : 200 < more.length
           all_goals
             first
               | (have hq : 200 < more.length := h4
                  clear hbad)
               | (have hq : 20 < bl.length := by omega
                  clear hbad))
    all_goals
      go_enter Try.func12, Try.ntmps12
      go_wp2_with fail
      refine (awake13_any _).mono ?_
      rintro e w1 ⟨rfl, ho1⟩
      go_wp2_with fail
      refine (awake13_any _).mono ?_
      rintro e w2 ⟨rfl, ho2⟩
      go_wp2
      go_ret
      exact ⟨rfl, ho1.trans0 ho2⟩
  have hl1 : ops.length ≤ 200 := by omega
  have hl2 : bl.length ≤ 20 := by omega
  have hl3 : more.length ≤ 200 := by omega
  have hld1 : decide (200 < (ops.length : Int)) = false := by simp; omega
  have hld2 : decide (20 < (bl.length : Int)) = false := by simp; omega
  have hld3 : decide (200 < (more.length : Int)) = false := by simp; omega
  clear hbad
  by_cases hz : newE bl = 0
  · have hi0 := hid (initM_inv bl hz)
    obtain ⟨T, hT⟩ : ∃ T, T = bl.sum := ⟨_, rfl⟩
    rw [← hT] at hi0
    have hk6 : 1 ≤ bl.length ∧ bl.length ≤ 6 := hi0.out.few
    replace hz := hid hz
    replace hok := hid hok
    replace hok2 := hid hok2
    clear hT
    go_enter Try.func12, Try.ntmps12
    go_wp2_with fail
    refine (awake13_any _).mono ?_
    rintro e w1 ⟨rfl, ho1⟩
    go_wp2_with fail
    refine (new_any _ _ bl (hv.kept0 ho1)).mono ?_
    rintro e w2 ⟨hp2, hcase⟩
    have ho2 : Only [] w w2 := ho1.trans0 hp2
    rcases hcase with ⟨h, _⟩ | ⟨_, x, ab, mb, ⟨n1, n2, n3⟩, rfl, hL⟩
    · exact absurd hz.out h
    go_wp2_with fail
    refine (rnew_any _ _ bl (hv.kept0 ho2)).mono ?_
    rintro e w3 ⟨hp3, hcase⟩
    have ho3 : Only [] w w3 := ho2.trans0 hp3
    rcases hcase with ⟨h, _⟩ | ⟨_, y, b1, b2, b3, b4, ⟨m1, m2, m3, m4, m5⟩, rfl, hR⟩
    · exact absurd hz.out h
    have hs1 := ho1.size
    have hs2 := ho2.size
    have hlx := hL.lt
    have hla := hL.ltA (i := 0) (by have : (initM bl).k = bl.length := rfl; omega)
    have NA := hid (show y ∉ [x, ab, mb] ∧ b1 ∉ [x, ab, mb] ∧ b2 ∉ [x, ab, mb] ∧ b3 ∉ [x, ab, mb] ∧ b4 ∉ [x, ab, mb] by simp; omega)
    have NB := hid (show x ∉ [y, b1, b2, b3, b4] ∧ ab ∉ [y, b1, b2, b3, b4] ∧ mb ∉ [y, b1, b2, b3, b4] by simp; omega)
    have SA := hid (show ∀ k ∈ [x, ab, mb], k ∈ [] ∨ w.heap.size ≤ k by simp; omega)
    have SB := hid (show ∀ k ∈ [y, b1, b2, b3, b4], k ∈ [] ∨ w.heap.size ≤ k by simp; omega)
    have hL3 := hL.kept0 hp3
    clear n1 n2 n3 m1 m2 m3 m4 m5 hs1 hs2 hlx hla hL
    go_wp2_with fail
    try rw [hld1, hld2, hld3]
    clear hld1 hld2 hld3
    go_loopw [50] (fun i wr => ∃ (k : Nat) (m : Lm), k ≤ ops.length ∧ i = .int .i64 k ∧ Led wr x ab mb m ∧ RLed wr y b1 b2 b3 b4 m ∧ Hid (LInv T m) ∧ Only [] w wr) (fun i _ => ops.length - (intOf i).toNat)
    case atStart => exact ⟨0, initM bl, Nat.zero_le _, rfl, hL3, hR, hi0, ho3⟩
    case round =>
      obtain ⟨k, m, hk, rfl, hLr, hRr, hI, ho⟩ := hrel
      by_cases hlt : k < ops.length
      · -- one call to both
        obtain ⟨ob, oo, rfl, c1, c2, c3, c4⟩ := (hu.kept0 ho).at k hlt
        have hobl : ob < w.heap.size := by
          obtain ⟨ob', oo', he, e1, _⟩ := hu.at k hlt
          simp only [Option.some.injEq, Addr.mk.injEq, and_true] at he
          obtain ⟨rfl, rfl⟩ := he
          exact lt_cell e1
        obtain ⟨o, hoe⟩ : ∃ o, o = ops[k] := ⟨_, rfl⟩
        have hoo := hok.out o (by rw [hoe]; exact List.getElem_mem hlt)
        rw [← hoe] at c1 c2 c3 c4
        simp only [Sh.u64] at c4
        have hI2 := doE_inv hI.out o
        have hdo := hid (do_any wr x ab mb T m hLr hI.out o hoo)
        have hdc := fun w' (h : RLed w' y b1 b2 b3 b4 m) => doc_any w' y b1 b2 b3 b4 T m h hI.out o hoo
        obtain ⟨r, hr⟩ : ∃ r, r = doE m o := ⟨_, rfl⟩
        rw [← hr] at hI2 hdo
        simp only [← hr] at hdc
        clear hr hoe
        obtain ⟨er, m'⟩ := r
        unfold HoldPost at hdo
        unfold RPost at hdc
        simp only at hdo hdc hI2
        replace hdc := hid hdc
        replace hI2 := hid hI2
        have hx1 : ob ∉ [x, ab, mb] := fun hm => by have h9 := (SA.out _ hm).resolve_left List.not_mem_nil; omega
        go_wp2_with fail
        refine hdo.out.mono ?_
        rintro e w4 ⟨rfl, hL4, r1⟩
        have hR4 := hRr.kept r1 NA.out
        replace c1 := r1.cell c1 hx1
        replace c2 := r1.cell c2 hx1
        replace c3 := r1.cell c3 hx1
        replace c4 := r1.cell c4 hx1
        clear hLr hRr
        go_wp2_with fail
        refine (hdc.out _ hR4).mono ?_
        rintro e w5 ⟨rfl, hR5, r2⟩
        have hL5 := hL4.kept r2 NB.out
        have hfin : Only [] w w5 := (ho.trans r1 (ds := []) (by simp) SA.out).trans r2 (ds := []) (by simp) SB.out
        go_wp2
        go_roundw
        case rel => exact ⟨k + 1, m', by omega, by go_num, hL5, hR5, hI2, hfin⟩
        case measure => simp [intOf]; omega
      · obtain rfl : k = ops.length := by omega
        clear hL3 hR hi0 ho3 hp3
        have hfew := hI.out.few
        have l1 := hLr.lt
        have l2 := hLr.ltA (i := 0) (by omega)
        have l3 := hRr.lt
        have l4 := hRr.ltA (by omega)
        have hcp := hid (copy_any wr x ab mb m hLr hfew)
        go_wp2_with fail
        refine hcp.out.mono ?_
        rintro e w4 ⟨X, AB, MB, rfl, ⟨n1, n2, n3⟩, hC4, r1⟩
        have hL4 := hLr.kept0 r1
        have hR4 := hRr.kept0 r1
        have ho4 := ho.trans0 r1
        have s0 := ho.size
        have NC := hid (show X ∉ [x, ab, mb] ∧ AB ∉ [x, ab, mb] ∧ MB ∉ [x, ab, mb] by simp; omega)
        have ND := hid (show X ∉ [y, b1, b2, b3, b4] ∧ AB ∉ [y, b1, b2, b3, b4] ∧ MB ∉ [y, b1, b2, b3, b4] by simp; omega)
        have NE := hid (show x ∉ [X, AB, MB] ∧ ab ∉ [X, AB, MB] ∧ mb ∉ [X, AB, MB] by simp; omega)
        have NF := hid (show y ∉ [X, AB, MB] ∧ b1 ∉ [X, AB, MB] ∧ b2 ∉ [X, AB, MB] ∧ b3 ∉ [X, AB, MB] ∧ b4 ∉ [X, AB, MB] by simp; omega)
        have SC := hid (show ∀ k ∈ [X, AB, MB], k ∈ [] ∨ w.heap.size ≤ k by simp; omega)
        clear l1 l2 l3 l4 n1 n2 n3 s0 hfew hcp hLr hRr ho r1
        obtain ⟨m0, hm0⟩ : ∃ m0, m0 = m := ⟨_, rfl⟩
        go_wp2_with fail
        go_loopw [72] (fun i wr => ∃ (k : Nat) (m' : Lm), k ≤ more.length ∧ i = .int .i64 k ∧ Hid (m' = runL m (more.take k)) ∧ Led wr x ab mb m' ∧ Led wr X AB MB m ∧ RLed wr y b1 b2 b3 b4 m ∧ Hid (LInv T m') ∧ Only [] w wr) (fun i _ => more.length - (intOf i).toNat)
        case atStart => exact ⟨0, m, Nat.zero_le _, rfl, hid rfl, hL4, hC4, hR4, hI, ho4⟩
        case round =>
          obtain ⟨k, m1, hk, rfl, hm1, hLr, hCr, hRr, hI1, ho⟩ := hrel
          by_cases hlt : k < more.length
          · -- one call to the first
            obtain ⟨ob, oo, rfl, c1, c2, c3, c4⟩ := (hm.kept0 ho).at k hlt
            have hobl : ob < w.heap.size := by
              obtain ⟨ob', oo', he, e1, _⟩ := hm.at k hlt
              simp only [Option.some.injEq, Addr.mk.injEq, and_true] at he
              obtain ⟨rfl, rfl⟩ := he
              exact lt_cell e1
            obtain ⟨o, hoe⟩ : ∃ o, o = more[k] := ⟨_, rfl⟩
            have hoo := hok2.out o (by rw [hoe]; exact List.getElem_mem hlt)
            have hnx := runL_next m more k hlt
            rw [← hm1.out, ← hoe] at hnx
            rw [← hoe] at c1 c2 c3 c4
            simp only [Sh.u64] at c4
            have hI2 := doE_inv hI1.out o
            have hdo := hid (do_any wr x ab mb T m1 hLr hI1.out o hoo)
            obtain ⟨r, hr⟩ : ∃ r, r = doE m1 o := ⟨_, rfl⟩
            rw [← hr] at hI2 hdo hnx
            clear hr hoe
            obtain ⟨er, m'⟩ := r
            unfold HoldPost at hdo
            simp only at hdo hI2 hnx
            replace hI2 := hid hI2
            have hmn := hid hnx.symm
            clear hnx hm1
            go_wp2_with fail
            refine hdo.out.mono ?_
            rintro e w5 ⟨rfl, hL5, r1⟩
            have hC5 := hCr.kept r1 NC.out
            have hR5 := hRr.kept r1 NA.out
            have ho5 : Only [] w w5 := ho.trans r1 (ds := []) (by simp) SA.out
            go_wp2
            go_roundw
            case rel => exact ⟨k + 1, m', by omega, by go_num, hmn, hL5, hC5, hR5, hI2, ho5⟩
            case measure => simp [intOf]; omega
          · obtain rfl : k = more.length := by omega
            rw [List.take_length] at hm1
            have hsm := hid (same13_any wr X AB MB y b1 b2 b3 b4 T m hCr hRr hI.out)
            clear hL4 hC4 hR4 ho4
            go_wp2_with fail
            refine hsm.out.mono ?_
            rintro e w5 ⟨rfl, r1⟩
            have hL5 := hLr.kept0 r1
            have hC5 := hCr.kept0 r1
            have hR5 := hRr.kept0 r1
            have ho5 := ho.trans0 r1
            clear hsm hLr hCr hRr ho r1
            go_wp2_with fail
            go_loopw [88] (fun i wr => ∃ (k : Nat) (m' : Lm), k ≤ more.length ∧ i = .int .i64 k ∧ Hid (m' = runL m (more.take k)) ∧ Led wr x ab mb m1 ∧ Led wr X AB MB m' ∧ RLed wr y b1 b2 b3 b4 m' ∧ Hid (LInv T m') ∧ Only [] w wr) (fun i _ => more.length - (intOf i).toNat)
            case atStart => exact ⟨0, m, Nat.zero_le _, rfl, hid rfl, hL5, hC5, hR5, hI, ho5⟩
            case round =>
              obtain ⟨k, m2, hk, rfl, hm2, hLr, hCr, hRr, hI2', ho⟩ := hrel
              by_cases hlt : k < more.length
              · -- one call to the copy, and to the document's
                obtain ⟨ob, oo, rfl, c1, c2, c3, c4⟩ := (hm.kept0 ho).at k hlt
                have hobl : ob < w.heap.size := by
                  obtain ⟨ob', oo', he, e1, _⟩ := hm.at k hlt
                  simp only [Option.some.injEq, Addr.mk.injEq, and_true] at he
                  obtain ⟨rfl, rfl⟩ := he
                  exact lt_cell e1
                obtain ⟨o, hoe⟩ : ∃ o, o = more[k] := ⟨_, rfl⟩
                have hoo := hok2.out o (by rw [hoe]; exact List.getElem_mem hlt)
                have hnx := runL_next m more k hlt
                rw [← hm2.out, ← hoe] at hnx
                rw [← hoe] at c1 c2 c3 c4
                simp only [Sh.u64] at c4
                have hI3 := doE_inv hI2'.out o
                have hdo := hid (do_any wr X AB MB T m2 hCr hI2'.out o hoo)
                have hdc := fun w' (h : RLed w' y b1 b2 b3 b4 m2) => doc_any w' y b1 b2 b3 b4 T m2 h hI2'.out o hoo
                obtain ⟨r, hr⟩ : ∃ r, r = doE m2 o := ⟨_, rfl⟩
                rw [← hr] at hI3 hdo hnx
                simp only [← hr] at hdc
                clear hr hoe
                obtain ⟨er, m'⟩ := r
                unfold HoldPost at hdo
                unfold RPost at hdc
                simp only at hdo hdc hI3 hnx
                replace hI3 := hid hI3
                replace hdc := hid hdc
                have hmn := hid hnx.symm
                clear hnx hm2
                have hx1 : ob ∉ [X, AB, MB] := fun hm => by have h9 := (SC.out _ hm).resolve_left List.not_mem_nil; omega
                go_wp2_with fail
                refine hdo.out.mono ?_
                rintro e w6 ⟨rfl, hC6, r1⟩
                have hL6 := hLr.kept r1 NE.out
                have hR6 := hRr.kept r1 NF.out
                replace c1 := r1.cell c1 hx1
                replace c2 := r1.cell c2 hx1
                replace c3 := r1.cell c3 hx1
                replace c4 := r1.cell c4 hx1
                clear hLr hCr hRr
                go_wp2_with fail
                refine (hdc.out _ hR6).mono ?_
                rintro e w7 ⟨rfl, hR7, r2⟩
                have hL7 := hL6.kept r2 NB.out
                have hC7 := hC6.kept r2 ND.out
                have ho7 : Only [] w w7 := (ho.trans r1 (ds := []) (by simp) SC.out).trans r2 (ds := []) (by simp) SB.out
                go_wp2
                go_roundw
                case rel => exact ⟨k + 1, m', by omega, by go_num, hmn, hL7, hC7, hR7, hI3, ho7⟩
                case measure => simp [intOf]; omega
              · obtain rfl : k = more.length := by omega
                rw [List.take_length] at hm2
                have e12 := hm1.out.trans hm2.out.symm
                subst e12
                clear hL5 hC5 hR5 ho5 hm1 hm2
                have s1 := hid (same13_any wr x ab mb y b1 b2 b3 b4 T m1 hLr hRr hI1.out)
                have s2 := hid (fun W (h : Only [] wr W) => same13_any W X AB MB y b1 b2 b3 b4 T m1 (hCr.kept0 h) (hRr.kept0 h) hI1.out)
                have z1 := hid (fun W => nil_copy W)
                have z2 := hid (fun W => nil_hold W 0 1)
                have z3 := hid (fun W => nil_move W 0 0 0)
                have z4 := hid (fun W => nil_turn W 0 0)
                have z5 := hid (fun W => nil_total W)
                have z6 := hid (fun W => nil_balance W 0)
                have z7 := hid (fun W => nil_fees W)
                go_wp2_with fail
                refine s1.out.mono ?_
                rintro e v1 ⟨rfl, t1⟩
                go_wp2_with fail
                refine (s2.out _ t1).mono ?_
                rintro e v2 ⟨rfl, t2⟩
                go_wp2_with fail
                refine (z1.out _).mono ?_
                rintro e v3 ⟨rfl, rfl⟩
                go_wp2_with fail
                refine (z2.out _).mono ?_
                rintro e v4 ⟨rfl, rfl⟩
                go_wp2_with fail
                refine (z3.out _).mono ?_
                rintro e v5 ⟨rfl, rfl⟩
                go_wp2_with fail
                refine (z4.out _).mono ?_
                rintro e v6 ⟨rfl, rfl⟩
                go_wp2_with fail
                refine (z5.out _).mono ?_
                rintro e v7 ⟨rfl, t7⟩
                go_wp2_with fail
                refine (z6.out _).mono ?_
                rintro e v8 ⟨rfl, rfl⟩
                go_wp2_with fail
                refine (z7.out _).mono ?_
                rintro e v9 ⟨rfl, t9⟩
                go_wp2
                go_ret
                exact ⟨rfl, (((ho.trans0 t1).trans0 t2).trans0 t7).trans0 t9⟩
  · replace hz := hid hz
    clear hld1 hld2 hld3
    go_enter Try.func12, Try.ntmps12
    go_wp2_with fail
    refine (awake13_any _).mono ?_
    rintro e w1 ⟨rfl, ho1⟩
    go_wp2_with fail
    refine (new_any _ _ bl (hv.kept0 ho1)).mono ?_
    rintro e w2 ⟨hp2, hcase⟩
    have ho2 := ho1.trans0 hp2
    rcases hcase with ⟨hn, rfl⟩ | ⟨h, _⟩
    · go_wp2_with fail
      refine (rnew_any _ _ bl (hv.kept0 ho2)).mono ?_
      rintro e w3 ⟨hp3, hcase⟩
      rcases hcase with ⟨_, rfl⟩ | ⟨h, _⟩
      · have hnz : ((newE bl : Int) != 0) = true := by rw [bne_iff_ne]; omega
        clear hn
        go_wp2
        go_ret
        exact ⟨rfl, ho2.trans0 hp3⟩
      · exact absurd h hn
    · exact absurd h hz.out
end Go.Proofs.Ytiinfiaemiaamaa.Sh
