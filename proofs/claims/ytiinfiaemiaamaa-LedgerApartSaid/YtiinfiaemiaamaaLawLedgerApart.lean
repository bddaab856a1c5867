/- What is held back for one cannot be freed, paid or slashed for another one; nor more of it than was: the law's walk. -/
import Derived.Test.YtiinfiaemiaamaaLedL
import Derived.Test.YtiinfiaemiaamaaRead
namespace Go.Proofs.Ytiinfiaemiaamaa.Sh
open Go Go.RowKit

/-- Those from j on, and k, have what they had. -/
def Apart (n j k : Nat) (m : Lm) : Prop := m.k = n ∧ ∀ i, i < n → j ≤ i ∨ i = k → m.b i = 1125899906842624 ∧ m.f i = 0 ∧ m.d i = 0

theorem apart_hold {n j k : Nat} {m : Lm} (h : Apart n j k m) (hj : j < n) (hk : j ≠ k) (fee : Nat) (hf : fee < 562949953421312) : holdE m (j : Int) fee = (0, m.hold j fee) ∧ Apart n (j + 1) k (m.hold j fee) := by
  obtain ⟨h1, h2⟩ := h
  obtain ⟨b1, b2, b3⟩ := h2 j hj (.inl (Nat.le_refl _))
  refine ⟨?_, h1, fun i hi hc => ?_⟩
  · unfold holdE
    rw [if_pos (by unfold Lm.is; omega), Int.toNat_natCast, if_neg (by omega)]
  · have hij : i ≠ j := by omega
    have := h2 i hi (by omega)
    simp only [Lm.hold, upd_other _ _ hij]
    exact this
theorem apart_skip {n j k : Nat} {m : Lm} (h : Apart n j k m) (hk : j = k) : Apart n (j + 1) k m := ⟨h.1, fun i hi hc => h.2 i hi (by omega)⟩
theorem apart_none {n j k : Nat} {m : Lm} (h : Apart n j k m) (hk : k < n) (x y : Bool) : backE m (k : Int) 0 x y = (9, m) := by
  obtain ⟨_, _, b3⟩ := h.2 k hk (.inr rfl)
  unfold backE
  rw [if_pos (by have := h.1; unfold Lm.is; omega), Int.toNat_natCast, if_pos (.inr b3)]
theorem apart_mine {n j k : Nat} {m : Lm} (h : Apart n j k m) (hk : k < n) (fee : Nat) (hf : fee < 562949953421312) : holdE m (k : Int) fee = (0, m.hold k fee) ∧ (m.hold k fee).k = n ∧ (m.hold k fee).f k = fee ∧ (m.hold k fee).d k = 50 := by
  obtain ⟨b1, b2, b3⟩ := h.2 k hk (.inr rfl)
  refine ⟨?_, h.1, by simp only [Lm.hold, upd_same]; omega, by simp only [Lm.hold, upd_same]; omega⟩
  unfold holdE
  rw [if_pos (by have := h.1; unfold Lm.is; omega), Int.toNat_natCast, if_neg (by omega)]
theorem apart_slash {m : Lm} {k n mine fee : Nat} (hk : k < n) (hn : m.k = n) (hf : m.f k = mine) (hd : m.d k = 50) : (mine < fee → backE m (k : Int) fee false false = (9, m)) ∧ (fee ≤ mine → backE m (k : Int) fee false false = (0, m.back k fee false false) ∧ backE (m.back k fee false false) (k : Int) 0 true true = (9, m.back k fee false false)) := by
  have hi : m.is (k : Int) := by unfold Lm.is; omega
  refine ⟨fun h => ?_, fun h => ⟨?_, ?_⟩⟩
  · unfold backE
    rw [if_pos hi, Int.toNat_natCast, if_pos (.inl (by omega))]
  · unfold backE
    rw [if_pos hi, Int.toNat_natCast, if_neg (by omega)]
  · unfold backE
    rw [if_pos (show (m.back k fee false false).is (k : Int) from hi), Int.toNat_natCast, if_pos (.inr (by simp only [Lm.back, upd_same]; omega))]

theorem rep_new (n : Nat) (h1 : 1 ≤ n) (h6 : n ≤ 6) : newE (List.replicate n 1125899906842624) = 0 ∧ (List.replicate n 1125899906842624).sum = n * 1125899906842624 := by
  have hs : (List.replicate n 1125899906842624).sum = n * 1125899906842624 := by simp
  refine ⟨?_, hs⟩
  unfold newE
  rw [if_neg (by simp; omega), if_neg (by rw [hs]; omega)]

set_option maxRecDepth 20000 in
set_option maxHeartbeats 6400000 in
theorem ledgerApart_walk (w : World) {v : Value} {l : List Nat} {who fee : Int} (hv : Ns w v l) (hwho : (Lit.int .u8 who).wf = true) (hfee : (Lit.int .u64 fee).wf = true) :
    Calls Try.prog 4 #[v, .int .u8 who, .int .u64 fee] w fun e w' => e = .returned (.bool true) ∧ Only [] w w' := by
  obtain ⟨y, rfl⟩ := u8_of (wfu8 hwho)
  obtain ⟨g, rfl⟩ : ∃ g : Nat, fee = (g : Int) := ⟨fee.toNat, by have := wfu64 hfee; omega⟩
  have hg64 : g < 18446744073709551616 := by have := wfu64 hfee; omega
  have hyb := u8_bound y
  clear hwho hfee
  obtain ⟨a, cap, rfl, h1, h2, h3⟩ := hv.form
  by_cases hbad : l.length < 1 ∨ 6 < l.length
  · by_cases h0 : l.length < 1
    all_goals
      first
        | (have hq : l.length < 1 := h0
           clear hbad)
        | (have hq : 6 < l.length := by omega
           clear hbad)
      go_enter Try.func4, Try.ntmps4
      go_wp2_with fail
      refine (awake13_any _).mono ?_
      rintro e w1 ⟨rfl, ho1⟩
      go_wp2_with fail
      refine (awake13_any _).mono ?_
      rintro e w2 ⟨rfl, ho2⟩
      go_wp2
      go_ret
      exact ⟨rfl, ho1.trans0 ho2⟩
  obtain ⟨n, hn⟩ : ∃ n, n = l.length := ⟨_, rfl⟩
  have hn1 : 1 ≤ n := by omega
  have hn6 : n ≤ 6 := by omega
  obtain ⟨hz0, hsum⟩ := rep_new n hn1 hn6
  have hi0 := initM_inv _ hz0
  rw [hsum] at hi0
  obtain ⟨k, hk⟩ : ∃ k, k = y.toNat % n := ⟨_, rfl⟩
  have hkn : k < n := by rw [hk]; exact Nat.mod_lt _ (by omega)
  have hmod : (y.toNat : Int) % (n : Int) = (k : Int) := by rw [hk]; exact (Int.natCast_emod _ _).symm
  have hld1 : decide ((n : Int) < 1) = false := by simp; omega
  have hld2 : decide (6 < (n : Int)) = false := by simp; omega
  replace hz0 := hid hz0
  have HI0 := hid hi0
  rw [← hn] at h1 h3 ⊢
  have HN := hid hn
  clear hbad hk hn hsum hi0
  go_enter Try.func4, Try.ntmps4
  go_wp2_with fail
  refine (awake13_any _).mono ?_
  rintro e w1 ⟨rfl, ho1⟩
  go_wp2_with fail
  go_loopw [7, 29] (fun b i wr => ∃ j : Nat, j ≤ n ∧ i = .int .i64 j ∧ wr.ownsRow w1.heap.size 22 1 b j (List.replicate j (.int .u64 1125899906842624)) ∧ Only [] w wr ∧ w1.heap.size ≤ wr.heap.size) (fun _ i _ => n - (intOf i).toNat)
  case atStart => exact ⟨0, Nat.zero_le _, rfl, World.ownsRow_nil _ _ _ _, ho1, Nat.le_refl _⟩
  case round =>
    obtain ⟨j, hj, rfl, hown, ho, hsz⟩ := hrel
    obtain ⟨ba, bc, rfl⟩ := own_form hown
    by_cases hlt : j < n
    · go_wp2_with (at_builtin; refine wpList_app1 (by rfl) _ _ 32 (by rfl) w1.heap.size 22 1 8 el_u64 (by rfl) hown [_] (by rfl) rfl (one1 rfl) (by omega) (by omega) hsz ?_; intro v2 w2 hown2 happ2)
      go_roundw
      case rel => exact ⟨j + 1, by omega, by go_num, own_cast hown2 rfl (by rw [List.replicate_succ']), ho.app happ2 (fun i hi => .inr (by have := (hown.lt i hi).1; have := ho1.size; omega)), Nat.le_trans hsz happ2.grown.size⟩
      case measure => simp [intOf]; omega
    · obtain rfl : j = n := by omega
      have hns : Ns wr (.slice ba j bc) (List.replicate j 1125899906842624) := ⟨Cs.cast (Cs.of_own hown (by omega)) (by simp) (by simp), by simp⟩
      clear hown
      go_wp2_with fail
      refine (new_any _ _ _ hns).mono ?_
      rintro e w2 ⟨hp2, hcase⟩
      have ho2 : Only [] w w2 := ho.trans0 hp2
      rcases hcase with ⟨h, _⟩ | ⟨_, x, ab, mb, ⟨n1, n2, n3⟩, rfl, hL⟩
      · exact absurd hz0.out h
      have hsz0 := ho.size
      have hszx : w.heap.size ≤ x ∧ w.heap.size ≤ ab ∧ w.heap.size ≤ mb := by omega
      have hA0 : Apart j 0 k (initM (List.replicate j 1125899906842624)) := ⟨by simp [initM], fun i hi _ => by simp [initM, hi]⟩
      obtain ⟨m0, hm0⟩ : ∃ m0, m0 = initM (List.replicate j 1125899906842624) := ⟨_, rfl⟩
      rw [← hm0] at hL hA0
      have hi0 := HI0.out
      rw [← hm0] at hi0
      clear hm0 HI0 n1 n2 n3 hns hz0
      go_wp2_with fail
      rw [hmod]
      try rw [hld1, hld2]
      clear hld1 hld2 hmod
      go_loopw [47] (fun i wr => ∃ (q : Nat) (m : Lm), q ≤ j ∧ i = .int .i64 q ∧ Led wr x ab mb m ∧ Hid (LInv (j * 1125899906842624) m) ∧ Hid (Apart j q k m) ∧ Only [] w wr) (fun i _ => j - (intOf i).toNat)
      case atStart => exact ⟨0, m0, Nat.zero_le _, rfl, hL, hid hi0, hid hA0, ho2⟩
      case round =>
        obtain ⟨q, m, hq, rfl, hLr, hIr, hA, hor⟩ := hrel
        by_cases hqt : q < j
        · by_cases hqk : q = k
          · have hA' := hid (apart_skip hA.out hqk)
            have hb : ((q : Int) != (k : Int)) = false := by simp [hqk]
            replace hqk := hid hqk
            go_wp2_with fail
            go_roundw
            case rel => exact ⟨q + 1, m, by omega, by go_num, hLr, hIr, hA', hor⟩
            case measure => simp [intOf]; omega
          · have hb : ((q : Int) != (k : Int)) = true := by rw [bne_iff_ne]; omega
            have hql : q < l.length := by have := HN.out; omega
            have hvr := hv.kept0 hor
            rw [← HN.out] at hvr
            obtain ⟨vb, vo, rfl, c1⟩ := hvr.at q hql
            obtain ⟨z, hz⟩ : ∃ z, z = l[q] := ⟨_, rfl⟩
            simp only [Sh.u64] at c1
            rw [← hz] at c1
            have hz64 : z < 18446744073709551616 := by rw [hz]; exact hv.2 _ (List.getElem_mem hql)
            obtain ⟨f, hf⟩ : ∃ f, f = z % 562949953421312 := ⟨_, rfl⟩
            have hfb : f < 562949953421312 := by omega
            have hzm : (z : Int) % 562949953421312 = (f : Int) := by omega
            obtain ⟨g1, g2⟩ := apart_hold hA.out hqt hqk f hfb
            have hh := hold_any wr x ab mb _ m hLr hIr.out (q : Int) f (by unfold i64b; omega) (by omega)
            have hi2 := hid (holdE_inv hIr.out (q : Int) f)
            unfold HoldPost at hh
            rw [g1] at hh hi2
            replace hh := hid hh
            replace g2 := hid g2
            clear hz hf hqk g1
            go_wp2_with fail
            refine hh.out.mono ?_
            rintro e w3 ⟨rfl, hL3, ho3⟩
            go_wp2_with fail
            go_roundw
            case rel => exact ⟨q + 1, _, by omega, by go_num, hL3, hi2, g2, hor.trans ho3 (by simp) (by simp; omega)⟩
            case measure => simp [intOf]; omega
        · obtain rfl : q = j := by omega
          have r1 := free_any wr x ab mb _ m hLr hIr.out (k : Int) 0 (by omega)
          unfold HoldPost at r1
          rw [apart_none hA.out hkn] at r1
          have r2 := fun w (h : Led w x ab mb m) => pay_any w x ab mb _ m h hIr.out (k : Int) 0 (by omega)
          unfold HoldPost at r2
          rw [apart_none hA.out hkn] at r2
          have r3 := fun w (h : Led w x ab mb m) => slash_any w x ab mb _ m h hIr.out (k : Int) 0 (by omega)
          unfold HoldPost at r3
          rw [apart_none hA.out hkn] at r3
          have hkl : k < l.length := by have := HN.out; omega
          have hvr := hv.kept0 hor
          rw [← HN.out] at hvr
          obtain ⟨vb, vo, rfl, c1⟩ := hvr.at k hkl
          obtain ⟨z, hz⟩ : ∃ z, z = l[k] := ⟨_, rfl⟩
          simp only [Sh.u64] at c1
          rw [← hz] at c1
          have hz64 : z < 18446744073709551616 := by rw [hz]; exact hv.2 _ (List.getElem_mem hkl)
          have hvb : vb < w.heap.size := by
            obtain ⟨vb', vo', he, c0⟩ := (by have := hv; rw [← HN.out] at this; exact this.at k hkl : ∃ b o, some (⟨vb, vo, none⟩ : Addr) = some ⟨b, o, none⟩ ∧ w.cell? ⟨b, o + k, none⟩ = some (Sh.u64 l[k]))
            simp only [Option.some.injEq, Addr.mk.injEq, and_true] at he
            obtain ⟨rfl, rfl⟩ := he
            exact lt_cell c0
          obtain ⟨f, hf⟩ : ∃ f, f = z % 562949953421312 := ⟨_, rfl⟩
          have hfb : f < 562949953421312 := by omega
          have hzm : (z : Int) % 562949953421312 = (f : Int) := by omega
          obtain ⟨g1, g2, g3, g4⟩ := apart_mine hA.out hkn f hfb
          have r4 := fun w (h : Led w x ab mb m) => hold_any w x ab mb _ m h hIr.out (k : Int) f (by unfold i64b; omega) (by omega)
          have hi2 := holdE_inv hIr.out (k : Int) f
          unfold HoldPost at r4
          rw [g1] at r4 hi2
          obtain ⟨s1, s2⟩ := apart_slash (fee := g) hkn g2 g3 g4
          have r5 := fun w (h : Led w x ab mb (m.hold k f)) => slash_any w x ab mb _ _ h hi2 (k : Int) g hg64
          unfold HoldPost at r5
          replace r1 := hid r1
          replace r2 := hid r2
          replace r3 := hid r3
          replace r4 := hid r4
          clear hz hf g1 g2 g3 g4
          by_cases hgf : f < g
          · have hd : decide (g ≤ f) = false := by simp; omega
            rw [s1 hgf] at r5
            replace r5 := hid r5
            clear s1 s2 hi2
            go_wp2_with fail
            refine r1.out.mono ?_
            rintro e w3 ⟨rfl, hL3, ho3⟩
            go_wp2_with fail
            refine (r2.out _ hL3).mono ?_
            rintro e w4 ⟨rfl, hL4, ho4⟩
            go_wp2_with fail
            refine (r3.out _ hL4).mono ?_
            rintro e w5 ⟨rfl, hL5, ho5⟩
            have how5 : Only [] w w5 := ((hor.trans ho3 (ds := []) (by simp) (by simp; omega)).trans ho4 (ds := []) (by simp) (by simp; omega)).trans ho5 (by simp) (by simp; omega)
            have c5 := ((ho3.trans ho4 (ds := [x, ab, mb]) (by simp) (by simp)).trans ho5 (ds := [x, ab, mb]) (by simp) (by simp)).cell c1 (by simp; omega)
            go_wp2_with fail
            refine (r4.out _ hL5).mono ?_
            rintro e w6 ⟨rfl, hL6, ho6⟩
            go_wp2_with fail
            refine (r5.out _ hL6).mono ?_
            rintro e w7 ⟨rfl, hL7, ho7⟩
            go_wp2
            go_ret
            exact ⟨rfl, (how5.trans ho6 (ds := []) (by simp) (by simp; omega)).trans ho7 (by simp) (by simp; omega)⟩
          · obtain ⟨s3, s4⟩ := s2 (by omega)
            have hd : decide (g ≤ f) = true := by simp; omega
            have hi3 := backE_inv hi2 (k : Int) g false false
            rw [s3] at r5 hi3
            have r6 := fun w (h : Led w x ab mb ((m.hold k f).back k g false false)) => free_any w x ab mb _ _ h hi3 (k : Int) 0 (by omega)
            unfold HoldPost at r6
            rw [s4] at r6
            replace r5 := hid r5
            replace r6 := hid r6
            clear s1 s2 s3 s4 hi2 hi3
            go_wp2_with fail
            refine r1.out.mono ?_
            rintro e w3 ⟨rfl, hL3, ho3⟩
            go_wp2_with fail
            refine (r2.out _ hL3).mono ?_
            rintro e w4 ⟨rfl, hL4, ho4⟩
            go_wp2_with fail
            refine (r3.out _ hL4).mono ?_
            rintro e w5 ⟨rfl, hL5, ho5⟩
            have how5 : Only [] w w5 := ((hor.trans ho3 (ds := []) (by simp) (by simp; omega)).trans ho4 (ds := []) (by simp) (by simp; omega)).trans ho5 (by simp) (by simp; omega)
            have c5 := ((ho3.trans ho4 (ds := [x, ab, mb]) (by simp) (by simp)).trans ho5 (ds := [x, ab, mb]) (by simp) (by simp)).cell c1 (by simp; omega)
            go_wp2_with fail
            refine (r4.out _ hL5).mono ?_
            rintro e w6 ⟨rfl, hL6, ho6⟩
            go_wp2_with fail
            refine (r5.out _ hL6).mono ?_
            rintro e w7 ⟨rfl, hL7, ho7⟩
            have how7 : Only [] w w7 := (how5.trans ho6 (ds := []) (by simp) (by simp; omega)).trans ho7 (by simp) (by simp; omega)
            go_wp2_with fail
            refine (r6.out _ hL7).mono ?_
            rintro e w8 ⟨rfl, hL8, ho8⟩
            go_wp2
            go_ret
            exact ⟨rfl, how7.trans ho8 (by simp) (by simp; omega)⟩
end Go.Proofs.Ytiinfiaemiaamaa.Sh
