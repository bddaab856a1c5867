/- The total stays, whatever is done, and is what the balances were at first; and a call that answers an error changes nothing: the law's walk. -/
import Derived.Test.YtiinfiaemiaamaaLedL
import Derived.Test.YtiinfiaemiaamaaReadL
namespace Go.Proofs.Ytiinfiaemiaamaa.Sh
open Go Go.RowKit

theorem doE_err (m : Lm) (o : LOp) (h : (doE m o).1 ≠ 0) : (doE m o).2 = m := by
  unfold doE holdE backE moveE turnE at *
  repeat' split
  all_goals first | rfl | (exfalso; simp_all)

set_option maxRecDepth 20000 in
set_option maxHeartbeats 1600000 in
theorem sumNs_any (w : World) (v : Value) (l : List Nat) (hv : Ns w v l) (hS : l.sum ≤ 1152921504606846976) :
    Calls Try.prog 39 #[v] w fun e w' => e = .returned (Sh.u64 l.sum) ∧ w' = w := by
  obtain ⟨a, cap, rfl, h1, h2, h3⟩ := hv.form
  have hstep : ∀ j (hj : j < l.length), (l.take (j + 1)).sum = (l.take j).sum + l[j] ∧ (l.take (j + 1)).sum ≤ l.sum := fun j hj => ⟨by rw [List.take_succ_eq_append_getElem hj, List.sum_append]; simp, take_sum_le l (j + 1)⟩
  have HM := hid hstep
  clear hstep
  go_enter Try.func39, Try.ntmps39
  go_wp2
  go_loop [3, 7] (fun n i => ∃ j : Nat, j ≤ l.length ∧ i = .int .i64 j ∧ ∃ S : Nat, Hid (S = (l.take j).sum) ∧ n = .int .u64 (S : Int)) (fun _ i => l.length - (intOf i).toNat)
  case atStart => exact ⟨0, Nat.zero_le _, rfl, 0, hid (by simp), rfl⟩
  case round =>
    obtain ⟨j, hj, rfl, S, hSj, rfl⟩ := hrel
    by_cases hlt : j < l.length
    · obtain ⟨b, o, rfl, c1⟩ := hv.at j hlt
      obtain ⟨hb, hb2⟩ := HM.out j hlt
      obtain ⟨G, hG⟩ : ∃ G, G = l[j] := ⟨_, rfl⟩
      simp only [Sh.u64] at c1
      rw [← hG] at c1 hb
      have hSG : S + G ≤ 1152921504606846976 := by have := hSj.out; omega
      have hS' : Hid (S + G = (l.take (j + 1)).sum) := by have := hSj.out; show _ = _; omega
      clear hb hb2 hG hSj
      go_wp2
      go_round
      case rel => exact ⟨j + 1, by omega, by go_num, S + G, hS', by go_num⟩
      case measure => simp [intOf]; omega
    · obtain rfl : j = l.length := by omega
      have hfin : Hid (S = l.sum) := by have := hSj.out; rw [List.take_length] at this; exact this
      clear hSj
      go_wp2
      go_ret
      exact ⟨by rw [hfin.out]; rfl, rfl⟩

set_option maxRecDepth 20000 in
set_option maxHeartbeats 6400000 in
theorem ledgerTotal_walk (w : World) {v u : Value} {bl : List Nat} {ops : List LOp} (hv : Ns w v bl) (hu : Sh.Ops w u ops) :
    Calls Try.prog 11 #[v, u] w fun e w' => e = .returned (.bool true) ∧ Only [] w w' := by
  obtain ⟨a, cap, rfl, h1, h2, h3⟩ := hv.form
  obtain ⟨oa, ocap, rfl, o1, o2, o3⟩ := hu.form
  have hok : ∀ o ∈ ops, o.ok := by
    obtain ⟨_, _, _, _, _, _, h, _⟩ := hu
    exact h
  by_cases hbad : 200 < ops.length ∨ 20 < bl.length
  · by_cases h0 : 200 < ops.length
    all_goals
      first
        | (have hq : 200 < ops.length := h0
           clear hbad)
        | (have hq : 20 < bl.length := by omega
           clear hbad)
      go_enter Try.func11, Try.ntmps11
      go_wp2_with fail
      refine (awake13_any _).mono ?_
      rintro e w1 ⟨rfl, ho1⟩
      go_wp2_with fail
      refine (awake13_any _).mono ?_
      rintro e w2 ⟨rfl, ho2⟩
      go_wp2
      go_ret
      exact ⟨rfl, ho1.trans0 ho2⟩
  have hl1 : ops.length ≤ 200 := by omega
  have hl2 : bl.length ≤ 20 := by omega
  have hld1 : decide (200 < (ops.length : Int)) = false := by simp; omega
  have hld2 : decide (20 < (bl.length : Int)) = false := by simp; omega
  clear hbad
  by_cases hz : newE bl = 0
  · have hi0 := hid (initM_inv bl hz)
    obtain ⟨T, hT⟩ : ∃ T, T = bl.sum := ⟨_, rfl⟩
    have hcap := hi0.out.cap
    have hk6 : 1 ≤ bl.length ∧ bl.length ≤ 6 := hi0.out.few
    rw [← hT] at hi0 hcap
    have hsumc := fun w' (h : Ns w' (.slice a bl.length cap) bl) => sumNs_any w' _ bl h (by omega)
    simp only [← hT] at hsumc
    replace hsumc := hid hsumc
    replace hz := hid hz
    replace hok := hid hok
    clear hT
    go_enter Try.func11, Try.ntmps11
    go_wp2_with fail
    refine (awake13_any _).mono ?_
    rintro e w1 ⟨rfl, ho1⟩
    go_wp2_with fail
    refine (new_any _ _ bl (hv.kept0 ho1)).mono ?_
    rintro e w2 ⟨hp2, hcase⟩
    have ho2 : Only [] w w2 := ho1.trans0 hp2
    rcases hcase with ⟨h, _⟩ | ⟨_, x, ab, mb, ⟨n1, n2, n3⟩, rfl, hL⟩
    · exact absurd hz.out h
    have hs1 := ho1.size
    have hszx : w.heap.size ≤ x ∧ w.heap.size ≤ ab ∧ w.heap.size ≤ mb := by omega
    clear n1 n2 n3 hs1
    go_wp2_with fail
    refine (hsumc.out _ (hv.kept0 ho2)).mono ?_
    rintro e w' ⟨rfl, rfl⟩
    go_wp2_with fail
    try rw [hld1, hld2]
    clear hld1 hld2
    go_loopw [43] (fun i wr => ∃ (k : Nat) (m : Lm), k ≤ ops.length ∧ i = .int .i64 k ∧ Led wr x ab mb m ∧ Hid (LInv T m) ∧ Hid (m.k = bl.length) ∧ Only [] w wr) (fun i _ => ops.length - (intOf i).toNat)
    case atStart => exact ⟨0, initM bl, Nat.zero_le _, rfl, hL, hi0, hid rfl, ho2⟩
    case round =>
      obtain ⟨k, m, hk, rfl, hLr, hI, hmk, ho⟩ := hrel
      by_cases hlt : k < ops.length
      · obtain ⟨ob, oo, rfl, c1, c2, c3, c4⟩ := (hu.kept0 ho).at k hlt
        obtain ⟨o, hoe⟩ : ∃ o, o = ops[k] := ⟨_, rfl⟩
        have hoo := hok.out o (by rw [hoe]; exact List.getElem_mem hlt)
        rw [← hoe] at c1 c2 c3 c4
        simp only [Sh.u64] at c4
        have hI2 := doE_inv hI.out o
        have hk2 := doE_k m o
        have herr := doE_err m o
        obtain ⟨r, hr⟩ : ∃ r, r = doE m o := ⟨_, rfl⟩
        have hdo := fun w' (h : Led w' x ab mb m) => do_any w' x ab mb T m h hI.out o hoo
        rw [← hr] at hI2 hk2 herr
        simp only [← hr] at hdo
        clear hr hoe
        obtain ⟨er, m'⟩ := r
        unfold HoldPost at hdo
        simp only at hdo hI2 hk2 herr
        rw [hmk.out] at hk2
        -- ahead of the call
        have g1 := fun w' (h : Led w' x ab mb m) => balance_any w' x ab mb T m h hI.out o.who
        have g2 := fun w' (h : Led w' x ab mb m) => nonce_any w' x ab mb T m h hI.out o.who
        have g3 := fun w' (h : Led w' x ab mb m) => fees_any w' x ab mb T m h hI.out
        have g4 := fun w' (h : Led w' x ab mb m) => deposits_any w' x ab mb T m h hI.out
        have g5 := fun w' (h : Led w' x ab mb m) => treasury_any w' x ab mb m h
        obtain ⟨vb, hvb⟩ : ∃ vb, vb = balE m o.who := ⟨_, rfl⟩
        obtain ⟨vn, hvn⟩ : ∃ vn, vn = nonE m o.who := ⟨_, rfl⟩
        obtain ⟨F, hF⟩ : ∃ F, F = sumTo m.k m.f := ⟨_, rfl⟩
        obtain ⟨D, hD⟩ : ∃ D, D = sumTo m.k m.d := ⟨_, rfl⟩
        obtain ⟨t, ht⟩ : ∃ t, t = m.t := ⟨_, rfl⟩
        simp only [← hvb] at g1
        simp only [← hvn] at g2
        simp only [← hF] at g3
        simp only [← hD] at g4
        simp only [← ht] at g5
        -- behind it
        have p1 := fun w' (h : Led w' x ab mb m') (z : Int) => balance_any w' x ab mb T m' h hI2 z
        have p3 := fun w' (h : Led w' x ab mb m') => fees_any w' x ab mb T m' h hI2
        have p4 := fun w' (h : Led w' x ab mb m') => deposits_any w' x ab mb T m' h hI2
        have p5 := fun w' (h : Led w' x ab mb m') => treasury_any w' x ab mb m' h
        have p6 := hid (fun w' (h : Led w' x ab mb m') => total_any w' x ab mb T m' h hI2)
        obtain ⟨F2, hF2⟩ : ∃ F, F = sumTo m'.k m'.f := ⟨_, rfl⟩
        obtain ⟨D2, hD2⟩ : ∃ D, D = sumTo m'.k m'.d := ⟨_, rfl⟩
        obtain ⟨t2, ht2⟩ : ∃ t, t = m'.t := ⟨_, rfl⟩
        have hsum2 := hI2.sum
        simp only [← hF2] at p3 hsum2
        simp only [← hD2] at p4 hsum2
        simp only [← ht2] at p5 hsum2
        rw [hk2] at hsum2
        have hbal2 : ∀ j : Nat, j < bl.length → balE m' (j : Int) = m'.b j := by
          intro j hj
          unfold balE
          rw [if_pos (by unfold Lm.is; omega), Int.toNat_natCast]
        have hmono : ∀ j, j < bl.length → sumTo j m'.b + m'.b j ≤ sumTo bl.length m'.b := by
          intro j hj
          have h1 : ∀ k, j < k → sumTo (j + 1) m'.b ≤ sumTo k m'.b := by
            intro k
            induction k with
            | zero => intro h; omega
            | succ k ih =>
              intro h
              by_cases e : j = k
              · subst e; exact Nat.le_refl _
              · have := ih (by omega); simp only [sumTo] at this ⊢; omega
          have := h1 bl.length hj
          simpa only [sumTo] using this
        have hst : F2 + D2 + t2 ≤ T := by omega
        have HSUM := hid hsum2
        have HBAL := hid hbal2
        have HMONO := hid hmono
        have hI2' := hid hI2
        have hk2' := hid hk2
        have hsame : Hid (er ≠ 0 → m' = m) := hid herr
        have hq1 : ((vb : Int) != (vb : Int)) = false := by simp
        have hq2 : ((vn : Int) != (vn : Int)) = false := by simp
        have hq3 : ((F : Int) != (F : Int)) = false := by simp
        have hq4 : ((D : Int) != (D : Int)) = false := by simp
        have hq5 : ((t : Int) != (t : Int)) = false := by simp
        have hq6 : ((T : Int) != (T : Int)) = false := by simp
        have hq7 : decide (1152921504606846976 < (T : Int)) = false := by simp; omega
        replace hdo := hid hdo
        replace g1 := hid g1
        replace g2 := hid g2
        replace g3 := hid g3
        replace g4 := hid g4
        replace g5 := hid g5
        replace p1 := hid p1
        replace p3 := hid p3
        replace p4 := hid p4
        replace p5 := hid p5
        have hLd := hLr.drew
        have hod : Only [] wr wr.drew := (Only.refl [] wr).drew
        clear hI2 hk2 herr hvb hvn hF hD ht hF2 hD2 ht2 hsum2 hbal2 hmono
        have hobx : ob ≠ x ∧ ob ≠ ab ∧ ob ≠ mb := by
          obtain ⟨ob', oo', he, e1, _⟩ := hu.at k hlt
          simp only [Option.some.injEq, Addr.mk.injEq, and_true] at he
          obtain ⟨rfl, rfl⟩ := he
          have := lt_cell e1
          omega
        go_wp2_with fail
        go_region_held3 (fun w' => w'.cell? ⟨ob, oo + k * 4 + 1, none⟩ = some (.int .i64 o.who)) (first | exact c2 | exact q3.cell c2 (by simp) | exact q4.cell c2 (by simp)) (first
          | (go_at_call 18; refine (g1.out _ hLd).mono ?_; rintro e w' ⟨rfl, rfl⟩)
          | (go_at_call 26; refine (g2.out _ hLd).mono ?_; rintro e w' ⟨rfl, rfl⟩)
          | (go_at_call 19; refine (g3.out _ hLd).mono ?_; rintro e w3 ⟨rfl, hq⟩; have q3 := hod.trans0 hq; have hL3 := hLd.kept0 hq)
          | (go_at_call 20; refine (g4.out _ hL3).mono ?_; rintro e w4 ⟨rfl, hq'⟩; have q4 := q3.trans0 hq'; have hL4 := hL3.kept0 hq')
          | (go_at_call 24; refine (g5.out _ hL4).mono ?_; rintro e w' ⟨rfl, rfl⟩))
        have d1 := q4.cell c1 (by simp)
        have d2 := q4.cell c2 (by simp)
        have d3 := q4.cell c3 (by simp)
        have d4 := q4.cell c4 (by simp)
        go_wp2_with fail
        refine (hdo.out _ hL4).mono ?_
        rintro e w5 ⟨rfl, hL5, ho5⟩
        have how5 : Only [] w w5 := (ho.trans0 q4).trans ho5 (by simp) (by simp; omega)
        have e2 := ho5.cell d2 (by simp; omega)
        go_wp2_with fail
        refine (p3.out _ hL5).mono ?_
        rintro e w6 ⟨rfl, hq6'⟩
        have hL6 := hL5.kept0 hq6'
        go_wp2_with fail
        refine (p4.out _ hL6).mono ?_
        rintro e w7 ⟨rfl, hq7'⟩
        have hL7 := hL6.kept0 hq7'
        go_wp2_with fail
        refine (p5.out _ hL7).mono ?_
        rintro e w' ⟨rfl, rfl⟩
        have e3 := (hq6'.trans0 hq7').cell e2 (by simp)
        have how7 := (how5.trans0 hq6').trans0 hq7'
        go_wp2_with fail
        go_loop [15, 83] (fun n i => ∃ j : Nat, j ≤ bl.length ∧ i = .int .i64 j ∧ ∃ S : Nat, Hid (S = F2 + D2 + t2 + sumTo j m'.b) ∧ n = .int .u64 (S : Int)) (fun _ i => bl.length - (intOf i).toNat)
        case atStart => exact ⟨0, Nat.zero_le _, rfl, F2 + D2 + t2, hid rfl, by go_num⟩
        case round =>
          obtain ⟨j, hj, rfl, S, hS, rfl⟩ := hrel
          by_cases hjl : j < bl.length
          · have hb := HBAL.out j hjl
            have hm := HMONO.out j hjl
            have pj := fun w' (h : Led w' x ab mb m') => p1.out w' h (j : Int)
            obtain ⟨B, hB⟩ : ∃ B, B = m'.b j := ⟨_, rfl⟩
            have hSB : S + B ≤ T := by have := hS.out; have := HSUM.out; rw [hB]; omega
            have hS' : Hid (S + B = F2 + D2 + t2 + sumTo (j + 1) m'.b) := by have := hS.out; show _ = _; rw [hB, sumTo]; omega
            rw [← hB] at hb
            simp only [hb] at pj
            replace pj := hid pj
            clear hb hm hB hS
            go_wp2_with fail
            refine (pj.out _ hL7).mono ?_
            rintro e w' ⟨rfl, rfl⟩
            go_wp2_with fail
            go_round
            case rel => exact ⟨j + 1, by omega, by go_num, S + B, hS', by go_num⟩
            case measure => simp [intOf]; omega
          · obtain rfl : j = bl.length := by omega
            have hST : S = T := by have := hS.out; have := HSUM.out; omega
            subst hST
            clear hS
            go_wp2_with fail
            refine (p6.out _ hL7).mono ?_
            rintro e w8 ⟨rfl, hq8⟩
            have hL8 := hL7.kept0 hq8
            have how8 := how7.trans0 hq8
            have e4 := hq8.cell e3 (by simp)
            clear hL7 how7 e3 hq8
            by_cases her : er = 0
            · have hbo : ((er : Int) != (0 : Int)) = false := by simp [her]
              rw [hbo]
              clear hbo her hsame
              go_wp2_with fail
              go_roundw
              case rel => exact ⟨k + 1, m', by omega, by go_num, hL8, hI2', hk2', how8⟩
              case measure => simp [intOf]; omega
            · have hbo : ((er : Int) != (0 : Int)) = true := by rw [bne_iff_ne]; omega
              rw [hbo]
              have hmm := hsame.out her
              subst hmm
              clear hbo her hsame
              go_wp2_with fail
              refine (g1.out _ hL8).mono ?_
              rintro e w' ⟨rfl, rfl⟩
              go_wp2_with fail
              refine (g2.out _ hL8).mono ?_
              rintro e w' ⟨rfl, rfl⟩
              go_wp2_with fail
              refine (g3.out _ hL8).mono ?_
              rintro e w9 ⟨rfl, hq9⟩
              have hL9 := hL8.kept0 hq9
              have how9 := how8.trans0 hq9
              clear hL8 how8 hq9
              go_wp2_with fail
              refine (g4.out _ hL9).mono ?_
              rintro e w10 ⟨rfl, hq10⟩
              have hL10 := hL9.kept0 hq10
              have how10 := how9.trans0 hq10
              clear hL9 how9 hq10
              go_wp2_with fail
              refine (g5.out _ hL10).mono ?_
              rintro e w' ⟨rfl, rfl⟩
              go_wp2_with fail
              go_roundw
              case rel => exact ⟨k + 1, _, by omega, by go_num, hL10, hI2', hk2', how10⟩
              case measure => simp [intOf]; omega
      · obtain rfl : k = ops.length := by omega
        go_wp2
        go_ret
        exact ⟨rfl, ho⟩
  · replace hz := hid hz
    clear hld1 hld2
    go_enter Try.func11, Try.ntmps11
    go_wp2_with fail
    refine (awake13_any _).mono ?_
    rintro e w1 ⟨rfl, ho1⟩
    go_wp2_with fail
    refine (new_any _ _ bl (hv.kept0 ho1)).mono ?_
    rintro e w2 ⟨hp2, hcase⟩
    rcases hcase with ⟨hn, rfl⟩ | ⟨h, _⟩
    · have hnz : ((newE bl : Int) != 0) = true := by rw [bne_iff_ne]; omega
      clear hn
      go_wp2
      go_ret
      exact ⟨rfl, ho1.trans0 hp2⟩
    · exact absurd h hz.out
end Go.Proofs.Ytiinfiaemiaamaa.Sh
