/- The document's total; the two ledgers held against each other: walked. -/
import Derived.Test.YtiinfiaemiaamaaLedI
namespace Go.Proofs.Ytiinfiaemiaamaa.Sh
open Go Go.RowKit

set_option maxRecDepth 20000 in
set_option maxHeartbeats 1600000 in
theorem rtotal_any (w : World) (y b1 b2 b3 b4 T : Nat) (m : Lm) (h : RLed w y b1 b2 b3 b4 m) (hi : LInv T m) :
    Calls Try.prog 45 #[.pointer (some ⟨y, 0, none⟩)] w fun e w' => e = .returned (u64 T) ∧ Only [] w w' := by
  have hk6 := hi.few.2
  have hsum := hi.sum
  have hcap := hi.cap
  obtain ⟨k1, s1, s2, s3⟩ := h.s1
  obtain ⟨k3, s4, s5, s6⟩ := h.s3
  obtain ⟨k4, s7, s8, s9⟩ := h.s4
  obtain ⟨t1, t2⟩ := h.st
  have hs1 := hid (rsum_any w.drew b1 m.k k1 m.b h.drew.c1 s2 s3 hk6 (by omega))
  have hs3 := hid (rsum_any w.drew b3 m.k k3 m.f h.drew.c3 s5 s6 hk6 (by omega))
  have hs4 := hid (rsum_any w.drew b4 m.k k4 m.d h.drew.c4 s8 s9 hk6 (by omega))
  obtain ⟨B, hB⟩ : ∃ B, B = sumTo m.k m.b := ⟨_, rfl⟩
  obtain ⟨F, hF⟩ : ∃ F, F = sumTo m.k m.f := ⟨_, rfl⟩
  obtain ⟨D, hD⟩ : ∃ D, D = sumTo m.k m.d := ⟨_, rfl⟩
  obtain ⟨t, ht⟩ : ∃ t, t = m.t := ⟨_, rfl⟩
  simp only [u64] at t1
  rw [← ht] at t1 hsum
  rw [← hB] at hs1 hsum
  rw [← hF] at hs3 hsum
  rw [← hD] at hs4 hsum
  have hfin := hid (show ((B : Int) + (F : Int) + (D : Int) + (t : Int)) = (T : Int) by omega)
  have hx1 : IntKind.u64.wrap ((B : Int) + (F : Int)) = (B : Int) + (F : Int) := by rw [IntKind.wrap_u64]; omega
  have hx2 : IntKind.u64.wrap ((B : Int) + (F : Int) + (D : Int)) = (B : Int) + (F : Int) + (D : Int) := by rw [IntKind.wrap_u64]; omega
  have hx3 : IntKind.u64.wrap ((B : Int) + (F : Int) + (D : Int) + (t : Int)) = (B : Int) + (F : Int) + (D : Int) + (t : Int) := by rw [IntKind.wrap_u64]; omega
  clear hi hB hF hD ht hsum
  go_enter Try.func45, Try.ntmps45
  go_wp2_with fail
  go_region_held3 (fun w' => w'.cell? ⟨y, 0, none⟩ = some (.slice (some ⟨b1, 0, none⟩) m.k k1) ∧ w'.cell? ⟨y, 2, none⟩ = some (.slice (some ⟨b3, 0, none⟩) m.k k3) ∧ w'.cell? ⟨y, 3, none⟩ = some (.slice (some ⟨b4, 0, none⟩) m.k k4) ∧ w'.cell? ⟨y, 4, none⟩ = some (.int .u64 (t : Int))) (exact ⟨s1, s4, s7, t1⟩) (first
    | (go_at_call 39; ((with_reducible refine hs1.out.mono ?_); rintro e w' ⟨rfl, rfl⟩))
    | (go_at_call 39; ((with_reducible refine hs3.out.mono ?_); rintro e w' ⟨rfl, rfl⟩))
    | (go_at_call 39; ((with_reducible refine hs4.out.mono ?_); rintro e w' ⟨rfl, rfl⟩)))
  clear hx1 hx2 hx3
  go_wp2
  go_ret
  exact ⟨by show Ending.returned (.int .u64 ((B : Int) + (F : Int) + (D : Int) + (t : Int))) = .returned (.int .u64 (T : Int)); rw [hfin.out], (Only.refl [] w).drew⟩

set_option maxRecDepth 20000 in
set_option maxHeartbeats 3200000 in
theorem same13_any (w : World) (x ab mb y b1 b2 b3 b4 T : Nat) (m : Lm) (hL : Led w x ab mb m) (hR : RLed w y b1 b2 b3 b4 m) (hi : LInv T m) :
    Calls Try.prog 38 #[.pointer (some ⟨x, 0, none⟩), .pointer (some ⟨y, 0, none⟩)] w fun e w' => e = .returned (.bool true) ∧ Only [] w w' := by
  have hk6 := hi.few.2
  have HI := hid hi
  obtain ⟨k1, s1, s2, s3⟩ := hR.s1
  go_enter Try.func38, Try.ntmps38
  go_wp2_with fail
  go_loopw [5] (fun i wr => ∃ z : Int, -1 ≤ z ∧ z ≤ m.k + 1 ∧ i = .int .i64 z ∧ Only [] w wr) (fun i _ => ((m.k : Int) + 1 - intOf i).toNat)
  case atStart => exact ⟨-1, by omega, by omega, rfl, Only.refl _ _⟩
  case round =>
    obtain ⟨z, hz1, hz2, rfl, ho⟩ := hrel
    have hLr := hL.kept0 ho
    have hRr := hR.kept0 ho
    have s1r := ho.cell s1 (by simp)
    by_cases hzk : z ≤ m.k
    · obtain ⟨vb, hvb⟩ : ∃ vb, vb = balE m z := ⟨_, rfl⟩
      obtain ⟨vn, hvn⟩ : ∃ vn, vn = nonE m z := ⟨_, rfl⟩
      have hbal := fun w' (h : Led w' x ab mb m) => balance_any w' x ab mb T m h HI.out z
      have hnon := fun w' (h : Led w' x ab mb m) => nonce_any w' x ab mb T m h HI.out z
      simp only [← hvb] at hbal
      simp only [← hvn] at hnon
      replace hbal := hid hbal
      replace hnon := hid hnon
      have hbe : ((vb : Int) != (vb : Int)) = false := by simp
      have hne : ((vn : Int) != (vn : Int)) = false := by simp
      by_cases hw : m.is z
      · obtain ⟨ha, hae⟩ := is_nat hw
        obtain ⟨a, haa⟩ : ∃ a, a = z.toNat := ⟨_, rfl⟩
        rw [← haa] at ha hae
        subst hae
        obtain ⟨d1, d2⟩ := hRr.c1 a ha
        obtain ⟨e1, e2⟩ := hRr.c2 a ha
        obtain ⟨k2, s4, s5, s6⟩ := hRr.s2
        have hvb' : vb = m.b a := by rw [hvb]; unfold balE; rw [if_pos hw, ← haa]
        have hvn' : vn = m.n a := by rw [hvn]; unfold nonE; rw [if_pos hw, ← haa]
        simp only [u64, ← hvb', ← hvn'] at d1 e1
        have hyes := hid (ris_yes wr y b1 b2 b3 b4 m hRr hk6 a ha)
        have hLd := hLr.drew
        clear hvb hvn hvb' hvn' haa hw hi
        go_wp2_with fail
        refine hyes.out.mono ?_
        rintro e w' ⟨rfl, rfl⟩
        go_wp2_with fail
        go_region_held3 (fun w'' => w''.cell? ⟨y, 0, none⟩ = some (.slice (some ⟨b1, 0, none⟩) m.k k1) ∧ w''.cell? ⟨y, 1, none⟩ = some (.slice (some ⟨b2, 0, none⟩) m.k k2) ∧ w''.cell? ⟨b1, a, none⟩ = some (.int .u64 (vb : Int)) ∧ w''.cell? ⟨b2, a, none⟩ = some (.int .u64 (vn : Int))) (exact ⟨s1r, s4, d1, e1⟩) (fail)
        go_wp2_with fail
        refine (hbal.out _ hLd).mono ?_
        rintro e w'' ⟨rfl, rfl⟩
        go_wp2_with fail
        refine (hnon.out _ hLd).mono ?_
        rintro e w'' ⟨rfl, rfl⟩
        go_wp2_with fail
        go_roundw
        case rel => exact ⟨(a : Int) + 1, by omega, by omega, rfl, ho.drew⟩
        case measure => simp [intOf]; omega
      · have hno := hid (ris_no wr y b1 b2 b3 b4 m hRr hk6 z hw)
        have hvb' : vb = 0 := by rw [hvb]; unfold balE; rw [if_neg hw]
        have hvn' : vn = 0 := by rw [hvn]; unfold nonE; rw [if_neg hw]
        subst hvb'
        subst hvn'
        clear hvb hvn hw hi
        go_wp2_with fail
        refine hno.out.mono ?_
        rintro e w' ⟨rfl, rfl⟩
        go_wp2_with fail
        refine (hbal.out _ hLr).mono ?_
        rintro e w'' ⟨rfl, rfl⟩
        go_wp2_with fail
        refine (hnon.out _ hLr).mono ?_
        rintro e w'' ⟨rfl, rfl⟩
        go_wp2_with fail
        go_roundw
        case rel => exact ⟨z + 1, by omega, by omega, rfl, ho⟩
        case measure => simp [intOf]; omega
    · have hzg : (m.k : Int) < z := by omega
      have hsum := hi.sum
      have hcap := hi.cap
      have hF6 : sumTo m.k m.f ≤ 1152921504606846976 := by omega
      have hD6 : sumTo m.k m.d ≤ 1152921504606846976 := by omega
      obtain ⟨k3, s4, s5, s6⟩ := hRr.s3
      obtain ⟨k4, s7, s8, s9⟩ := hRr.s4
      obtain ⟨t1, t2⟩ := hRr.st
      have hfe := fun w' (h : Led w' x ab mb m) => fees_any w' x ab mb T m h HI.out
      have hde := fun w' (h : Led w' x ab mb m) => deposits_any w' x ab mb T m h HI.out
      have htr := fun w' (h : Led w' x ab mb m) => treasury_any w' x ab mb m h
      have hto := hid (fun w' (h : Led w' x ab mb m) => total_any w' x ab mb T m h HI.out)
      have hrt := hid (fun w' (h : RLed w' y b1 b2 b3 b4 m) => rtotal_any w' y b1 b2 b3 b4 T m h HI.out)
      have hs3 := fun w' (h : RLed w' y b1 b2 b3 b4 m) => rsum_any w' b3 m.k k3 m.f h.c3 s5 s6 hk6 hF6
      have hs4 := fun w' (h : RLed w' y b1 b2 b3 b4 m) => rsum_any w' b4 m.k k4 m.d h.c4 s8 s9 hk6 hD6
      obtain ⟨F, hF⟩ : ∃ F, F = sumTo m.k m.f := ⟨_, rfl⟩
      obtain ⟨D, hD⟩ : ∃ D, D = sumTo m.k m.d := ⟨_, rfl⟩
      obtain ⟨t, ht⟩ : ∃ t, t = m.t := ⟨_, rfl⟩
      simp only [u64, ← ht] at t1
      simp only [← hF] at hfe hs3
      simp only [← hD] at hde hs4
      simp only [← ht] at htr
      replace hfe := hid hfe
      replace hde := hid hde
      replace htr := hid htr
      replace hs3 := hid hs3
      replace hs4 := hid hs4
      have hLd := hLr.drew
      have hRd := hRr.drew
      have hod : Only [] wr wr.drew := (Only.refl [] wr).drew
      have g1 : ((F : Int) == (F : Int)) = true := by simp
      have g2 : ((D : Int) == (D : Int)) = true := by simp
      have g3 : ((t : Int) == (t : Int)) = true := by simp
      have g4 : ((T : Int) == (T : Int)) = true := by simp
      clear hi hF hD ht hsum hF6 hD6
      go_wp2_with fail
      go_region_held3 (fun w' => w'.cell? ⟨y, 2, none⟩ = some (.slice (some ⟨b3, 0, none⟩) m.k k3) ∧ w'.cell? ⟨y, 3, none⟩ = some (.slice (some ⟨b4, 0, none⟩) m.k k4) ∧ w'.cell? ⟨y, 4, none⟩ = some (.int .u64 (t : Int)))
        (first | exact ⟨s4, s7, t1⟩ | exact ⟨hp1.cell s4 (by simp), hp1.cell s7 (by simp), hp1.cell t1 (by simp)⟩ | exact ⟨hp2.cell s4 (by simp), hp2.cell s7 (by simp), hp2.cell t1 (by simp)⟩ | exact ⟨hp3.cell s4 (by simp), hp3.cell s7 (by simp), hp3.cell t1 (by simp)⟩ | exact ⟨hp4.cell s4 (by simp), hp4.cell s7 (by simp), hp4.cell t1 (by simp)⟩) (first
        | (go_at_call 19; refine (hfe.out _ hLd).mono ?_; rintro e w1 ⟨rfl, hq1⟩; have hp1 := hod.trans0 hq1; have hL1 := hLd.kept0 hq1; have hR1 := hRd.kept0 hq1)
        | (go_at_call 20; refine (hde.out _ hL1).mono ?_; rintro e w2 ⟨rfl, hq2⟩; have hp2 := hp1.trans0 hq2; have hL2 := hL1.kept0 hq2; have hR2 := hR1.kept0 hq2)
        | (go_at_call 24; refine (htr.out _ hL2).mono ?_; rintro e w' ⟨rfl, rfl⟩)
        | (go_at_call 40; refine (hto.out _ hL2).mono ?_; rintro e w3 ⟨rfl, hq3⟩; have hp3 := hp2.trans0 hq3; have hL3 := hL2.kept0 hq3; have hR3 := hR2.kept0 hq3)
        | (go_at_call 45; refine (hrt.out _ hR3).mono ?_; rintro e w4 ⟨rfl, hq4⟩; have hp4 := hp3.trans0 hq4)
        | (go_at_call 39; ((with_reducible refine (hs3.out _ hR1).mono ?_); rintro e w' ⟨rfl, rfl⟩))
        | (go_at_call 39; ((with_reducible refine (hs4.out _ hR2).mono ?_); rintro e w' ⟨rfl, rfl⟩)))
      go_wp2
      go_ret
      exact ⟨rfl, ho.trans0 hp4⟩
end Go.Proofs.Ytiinfiaemiaamaa.Sh
