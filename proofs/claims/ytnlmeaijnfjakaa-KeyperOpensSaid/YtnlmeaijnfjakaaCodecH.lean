/- The document's reader (shroudref08): walked. -/
import Derived.Test.YtnlmeaijnfjakaaCodecS
import Derived.Test.YtnlmeaijnfjakaaRead
import Derived.Deep.RegionHeld3
namespace Go.Proofs.Ytnlmeaijnfjakaa.Sh
set_option linter.unusedSimpArgs false
set_option linter.unusedVariables false
open Go Go.RowKit

/-- The document's reader: its bytes, where it is, its error. -/
structure Rf (w : World) (wb fb : Nat) (l : List UInt8) (p : Nat) (e : Nat) : Prop where
  fB : ∃ v, w.cell? ⟨wb, 0, none⟩ = some v ∧ Bs w v l ∧ ∀ b, v.ownBlock = some b → l = [] ∨ b = fb
  ne : fb ≠ wb
  fP : w.cell? ⟨wb, 1, none⟩ = some (.int .i64 (p : Int))
  le : p ≤ l.length
  fE : w.cell? ⟨wb, 2, none⟩ = some (.int .i64 (e : Int))
  soft : w.frozen? ⟨wb, 0, none⟩ = false ∧ w.frozen? ⟨wb, 1, none⟩ = false ∧ w.frozen? ⟨wb, 2, none⟩ = false

theorem Rf.kept {w w' : World} {wb fb : Nat} {l : List UInt8} {p e : Nat} (h : Rf w wb fb l p e) {bs : List Nat} (ho : Only bs w w') (hn : wb ∉ bs) (hl : l = [] ∨ fb ∉ bs) : Rf w' wb fb l p e := by
  obtain ⟨v, hc, hB, hne⟩ := h.fB
  have hb : wb < w.heap.size := World.block_lt_of_cell? w _ hc
  exact ⟨⟨v, ho.cell hc hn, hB.kept' ho (fun b hv => by
    rcases hne b hv with h | rfl
    · exact .inl h
    · exact hl), hne⟩, h.ne, ho.cell h.fP hn, h.le, ho.cell h.fE hn, by rw [ho.frozen' hb hn]; exact h.soft.1, by rw [ho.frozen' hb hn]; exact h.soft.2.1, by rw [ho.frozen' hb hn]; exact h.soft.2.2⟩
theorem Rf.kept0 {w w' : World} {wb fb : Nat} {l : List UInt8} {p e : Nat} (h : Rf w wb fb l p e) (ho : Only [] w w') : Rf w' wb fb l p e := h.kept ho (by simp) (by simp)
theorem Rf.lt {w : World} {wb fb : Nat} {l : List UInt8} {p e : Nat} (h : Rf w wb fb l p e) : wb < w.heap.size := World.block_lt_of_cell? w _ h.fP

theorem Rf.old {w w' : World} {wb fb : Nat} {l : List UInt8} {p e : Nat} (h : Rf w wb fb l p e) (ho : Only [wb] w w') : ∃ v, w.cell? ⟨wb, 0, none⟩ = some v ∧ Bs w' v l ∧ ∀ b, v.ownBlock = some b → l = [] ∨ b = fb := by
  obtain ⟨v, hc, hB, hne⟩ := h.fB
  exact ⟨v, hc, hB.kept' ho (fun b hv => by
    rcases hne b hv with h9 | rfl
    · exact .inl h9
    · exact .inr (by simpa using h.ne)), hne⟩

theorem Rf.setP {w : World} {wb fb : Nat} {l : List UInt8} {p e : Nat} (h : Rf w wb fb l p e) (q : Nat) (hq : q ≤ l.length) : Rf (w.setCell ⟨wb, 1, none⟩ (.int .i64 (q : Int))) wb fb l q e := by
  have ho : Only [wb] w (w.setCell ⟨wb, 1, none⟩ (.int .i64 (q : Int))) := (Only.refl [wb] w).setCell (.inl (by simp)) _
  obtain ⟨v, hc, hB, hne⟩ := h.old ho
  refine ⟨⟨v, ?_, hB, hne⟩, h.ne, World.cell?_setCell_same w _ _ h.fP, hq, ?_, ?_⟩
  · rw [World.cell?_setCell_other w _ _ _ (by simp)]; exact hc
  · rw [World.cell?_setCell_other w _ _ _ (by simp)]; exact h.fE
  · simpa [go_sem] using h.soft
theorem Rf.setE {w : World} {wb fb : Nat} {l : List UInt8} {p e : Nat} (h : Rf w wb fb l p e) (q : Nat) : Rf (w.setCell ⟨wb, 2, none⟩ (.int .i64 (q : Int))) wb fb l p q := by
  have ho : Only [wb] w (w.setCell ⟨wb, 2, none⟩ (.int .i64 (q : Int))) := (Only.refl [wb] w).setCell (.inl (by simp)) _
  obtain ⟨v, hc, hB, hne⟩ := h.old ho
  refine ⟨⟨v, ?_, hB, hne⟩, h.ne, ?_, h.le, World.cell?_setCell_same w _ _ h.fE, ?_⟩
  · rw [World.cell?_setCell_other w _ _ _ (by simp)]; exact hc
  · rw [World.cell?_setCell_other w _ _ _ (by simp)]; exact h.fP
  · simpa [go_sem] using h.soft

/-- What the document's number comes to. -/
def RfNum (wb fb most : Nat) (l : List UInt8) (p : Nat) (w : World) (e : Ending) (w' : World) : Prop :=
  Only [wb] w w' ∧ e = .returned (.int .u64 ((numL most (l.drop p)).2.1 : Int)) ∧ ∃ q, Rf w' wb fb l q (numL most (l.drop p)).1 ∧ ((numL most (l.drop p)).1 = 0 → l.drop q = (numL most (l.drop p)).2.2)

theorem numF_short (k acc : Nat) : numF k acc [] = (2, 0, []) := rfl

set_option maxRecDepth 20000 in
set_option maxHeartbeats 3200000 in
theorem refNum_any (wb fb most : Nat) (l : List UInt8) (p : Nat) (w : World) (h : Rf w wb fb l p 0) (hm : most < 18446744073709551616) (hl : l.length ≤ 1000000) :
    Calls Try.prog 48 #[.pointer (some ⟨wb, 0, none⟩), .int .u64 most] w (RfNum wb fb most l p w) := by
  go_enter Try.func48, Try.ntmps48
  go_wp2_with fail
  go_loopw [5, 6, 7] (fun n sc i wr => ∃ k acc S : Nat, k ≤ 9 ∧ p + k ≤ l.length ∧ i = .int .i64 k ∧ n = .int .u64 acc ∧ sc = .int .u64 (S : Int) ∧ Hid (S = 128 ^ k) ∧ acc < 128 ^ k ∧ Hid (numF 0 0 (l.drop p) = numF k acc (l.drop (p + k))) ∧ Rf wr wb fb l (p + k) 0 ∧ Only [wb] w wr) (fun _ _ i _ => 10 - (intOf i).toNat)
  case atStart => exact ⟨0, 0, 1, by omega, by have := h.le; omega, rfl, rfl, rfl, rfl, by omega, rfl, h, Only.refl _ _⟩
  case round =>
    obtain ⟨k, acc, S, hk, hkl, rfl, rfl, rfl, HS, hacc, hF, hr, ho⟩ := hrel
    obtain ⟨v, hc0, hB, _⟩ := hr.fB
    obtain ⟨_, a, cap, rfl, h1, h2, h3, _⟩ := id hB
    have hc1 := hr.fP
    have hc2 := hr.fE
    obtain ⟨hz0, hz1, hz2⟩ := hr.soft
    obtain ⟨q, hq⟩ : ∃ q, q = p + k := ⟨_, rfl⟩
    rw [← hq] at hc1 hr hF
    by_cases hlt : q < l.length
    · have hde := List.drop_eq_getElem_cons hlt
      obtain ⟨b, hb⟩ : ∃ b, b = l[q] := ⟨_, rfl⟩
      rw [← hb] at hde
      rw [hde] at hF
      obtain ⟨vb, vo, hva, hld⟩ := hB.at q hlt
      rw [← hb] at hld
      subst hva
      clear hde hB hb
      have hql : (q : Int) < (l.length : Int) := by omega
      have hq0 : (0 : Int) ≤ (q : Int) := by omega
      have hnge : ¬ (l.length : Int) ≤ (q : Int) := by omega
      have hbb := u8_bound b
      obtain ⟨m, hmm⟩ : ∃ m, m = b.toNat % 128 := ⟨_, rfl⟩
      have hme : (b.toNat : Int) % 128 = (m : Int) := by omega
      -- the reader one byte on
      have hr1 : Hid (Rf (wr.drew.drew.setCell ⟨wb, 1, none⟩ (.int .i64 ((q : Int) + 1))) wb fb l (q + 1) 0) := by
        have := (hr.kept0 ((Only.refl [] wr).drew.drew)).setP (q + 1) (by omega)
        rwa [show (((q + 1 : Nat) : Int)) = (q : Int) + 1 by omega] at this
      have ho1 : Hid (Only [wb] w (wr.drew.drew.setCell ⟨wb, 1, none⟩ (.int .i64 ((q : Int) + 1)))) := ho.drew.drew.setCell (.inl (by simp)) _
      have hE1 : Hid (∀ n : Nat, Rf ((wr.drew.drew.setCell ⟨wb, 1, none⟩ (.int .i64 ((q : Int) + 1))).setCell ⟨wb, 2, none⟩ (.int .i64 (n : Int))) wb fb l (q + 1) n ∧ Only [wb] w ((wr.drew.drew.setCell ⟨wb, 1, none⟩ (.int .i64 ((q : Int) + 1))).setCell ⟨wb, 2, none⟩ (.int .i64 (n : Int)))) := fun n => ⟨Rf.setE hr1 n, Only.setCell ho1 (.inl (by simp)) _⟩
      have hqp : q + 1 = p + (k + 1) := by omega
      by_cases hbad : (k = 9 ∧ 1 < b.toNat) ∨ (0 < k ∧ b.toNat = 0)
      · have hpost : Hid (RfNum wb fb most l p w (.returned (.int .u64 0)) ((wr.drew.drew.setCell ⟨wb, 1, none⟩ (.int .i64 ((q : Int) + 1))).setCell ⟨wb, 2, none⟩ (.int .i64 14))) := by
          have hn : numL most (l.drop p) = (14, 0, l.drop (q + 1)) := by
            unfold numL
            rw [hF.out, numF, if_pos hbad]
            simp
          exact ⟨(hE1.out 14).2, by rw [hn]; rfl, q + 1, by rw [hn]; exact (hE1.out 14).1, by rw [hn]; simp⟩
        have hcase : (((k : Int) == 9) = true ∧ (1 : Int) < (b.toNat : Int)) ∨ (((k : Int) == 9) = true ∧ ¬ (1 : Int) < (b.toNat : Int) ∧ 0 < k ∧ ((b.toNat : Int) == 0) = true) ∨ (((k : Int) == 9) = false ∧ 0 < k ∧ ((b.toNat : Int) == 0) = true) := by
          simp only [beq_eq_false_iff_ne, beq_iff_eq, ne_eq]
          omega
        clear hF hacc hmm hr1 ho1 hE1 hr hbad hqp hq hkl hk
        rcases hcase with ⟨hk9, hb1⟩ | ⟨hk9, hb1, hk0, hb0⟩ | ⟨hk9, hk0, hb0⟩
        all_goals
          go_wp2_with fail
          go_region_held3 (fun w' => w'.cell? ⟨wb, 1, none⟩ = some (.int .i64 q) ∧ w'.cell? ⟨wb, 0, none⟩ = some (.slice (some ⟨vb, vo, none⟩) l.length cap)) (exact ⟨hc1, hc0⟩) (fail)
          go_wp2_with fail
          go_region_held3 (fun w' => w'.cell? ⟨wb, 1, none⟩ = some (.int .i64 q) ∧ w'.cell? ⟨wb, 0, none⟩ = some (.slice (some ⟨vb, vo, none⟩) l.length cap) ∧ w'.cell? ⟨vb, vo + q, none⟩ = some (vU8 b)) (exact ⟨hc1, hc0, hld⟩) (fail)
          go_wp2
          go_ret
          exact hpost
      · have hst := num_step k acc m hk hacc (by omega) (fun h9 => by omega)
        obtain ⟨y, hy⟩ : ∃ y, y = m * 128 ^ k := ⟨_, rfl⟩
        obtain ⟨x, hx⟩ : ∃ x, x = acc + y := ⟨_, rfl⟩
        have hgo := hid (show 128 ≤ b.toNat → numF 0 0 (l.drop p) = numF (k + 1) x (l.drop (q + 1)) by
          intro h128
          rw [hF.out, numF, if_neg hbad, if_neg (by omega), hx, hy, hmm])
        have hlast := hid (show b.toNat < 128 → numF 0 0 (l.drop p) = (0, x, l.drop (q + 1)) by
          intro h128
          rw [hF.out, numF, if_neg hbad, if_pos h128, hx, hy, hmm, Nat.mod_eq_of_lt h128])
        rw [← hy] at hst
        have hmul : (m : Int) * (S : Int) = (y : Int) := by rw [hy, HS.out]; push_cast; rfl
        have hadd : (acc : Int) + (y : Int) = (x : Int) := by omega
        have hyb : y < 18446744073709551616 := hst.1
        have hxb : x < 18446744073709551616 := by omega
        have HX := hid (show x < 128 ^ (k + 1) by rw [hx]; exact hst.2.2.1)
        have hle8 : 128 ≤ b.toNat → k + 1 ≤ 9 := by omega
        have hcase : (¬ 0 < k ∧ ((k : Int) == 9) = false) ∨ (0 < k ∧ ((k : Int) == 9) = false ∧ ((b.toNat : Int) == 0) = false) ∨ (0 < k ∧ ((k : Int) == 9) = true ∧ ¬ 1 < b.toNat ∧ ((b.toNat : Int) == 0) = false) := by
          simp only [beq_eq_false_iff_ne, beq_iff_eq, ne_eq]
          omega
        clear hacc hmm hF hst hbad hy hx hr hq
        rcases hcase with ⟨hk0, hk9⟩ | ⟨hk0, hk9, hb0⟩ | ⟨hk0, hk9, hb1, hb0⟩
        all_goals
          by_cases h128 : b.toNat < 128
          · by_cases hover : most < x
            · have hpost : Hid (RfNum wb fb most l p w (.returned (.int .u64 0)) ((wr.drew.drew.setCell ⟨wb, 1, none⟩ (.int .i64 ((q : Int) + 1))).setCell ⟨wb, 2, none⟩ (.int .i64 10))) := by
                have hn : (numL most (l.drop p)).1 = 10 ∧ (numL most (l.drop p)).2.1 = 0 := by
                  unfold numL
                  rw [hlast.out h128, if_pos ⟨rfl, hover⟩]
                  exact ⟨rfl, rfl⟩
                exact ⟨(hE1.out 10).2, by rw [hn.2]; rfl, q + 1, by rw [hn.1]; exact (hE1.out 10).1, by rw [hn.1]; simp⟩
              clear hgo hlast HX hle8 hE1 hr1 ho1
              go_wp2_with fail
              go_region_held3 (fun w' => w'.cell? ⟨wb, 1, none⟩ = some (.int .i64 q) ∧ w'.cell? ⟨wb, 0, none⟩ = some (.slice (some ⟨vb, vo, none⟩) l.length cap)) (exact ⟨hc1, hc0⟩) (fail)
              go_wp2_with fail
              go_region_held3 (fun w' => w'.cell? ⟨wb, 1, none⟩ = some (.int .i64 q) ∧ w'.cell? ⟨wb, 0, none⟩ = some (.slice (some ⟨vb, vo, none⟩) l.length cap) ∧ w'.cell? ⟨vb, vo + q, none⟩ = some (vU8 b)) (exact ⟨hc1, hc0, hld⟩) (fail)
              go_wp2
              go_ret
              exact hpost
            · have hpost : Hid (RfNum wb fb most l p w (.returned (.int .u64 (x : Int))) (wr.drew.drew.setCell ⟨wb, 1, none⟩ (.int .i64 ((q : Int) + 1)))) := by
                have hn : numL most (l.drop p) = (0, x, l.drop (q + 1)) := by
                  unfold numL
                  rw [hlast.out h128, if_neg (by simp only; omega)]
                exact ⟨ho1, by rw [hn], q + 1, by rw [hn]; exact hr1, by rw [hn]; simp⟩
              clear hgo hlast HX hle8 hE1 hr1 ho1
              go_wp2_with fail
              go_region_held3 (fun w' => w'.cell? ⟨wb, 1, none⟩ = some (.int .i64 q) ∧ w'.cell? ⟨wb, 0, none⟩ = some (.slice (some ⟨vb, vo, none⟩) l.length cap)) (exact ⟨hc1, hc0⟩) (fail)
              go_wp2_with fail
              go_region_held3 (fun w' => w'.cell? ⟨wb, 1, none⟩ = some (.int .i64 q) ∧ w'.cell? ⟨wb, 0, none⟩ = some (.slice (some ⟨vb, vo, none⟩) l.length cap) ∧ w'.cell? ⟨vb, vo + q, none⟩ = some (vU8 b)) (exact ⟨hc1, hc0, hld⟩) (fail)
              go_wp2
              go_ret
              exact hpost
          · have h9 := hle8 (by omega)
            have hgo := hid (hgo.out (by omega))
            have hS2 : (S : Int) * 128 = ((128 ^ (k + 1) : Nat) : Int) := by rw [HS.out, Nat.pow_succ]; push_cast; rfl
            have hSb : 128 ^ (k + 1) < 18446744073709551616 := by
              have : 128 ^ (k + 1) ≤ 128 ^ 9 := Nat.pow_le_pow_right (by omega) h9
              omega
            obtain ⟨S2, hS2e⟩ : ∃ S2, S2 = 128 ^ (k + 1) := ⟨_, rfl⟩
            rw [← hS2e] at hS2 hSb
            have HS2 := hid hS2e
            clear hlast hle8 hS2e hE1
            first
              | (exfalso; omega)
              | (go_wp2_with fail
                 go_region_held3 (fun w' => w'.cell? ⟨wb, 1, none⟩ = some (.int .i64 q) ∧ w'.cell? ⟨wb, 0, none⟩ = some (.slice (some ⟨vb, vo, none⟩) l.length cap)) (exact ⟨hc1, hc0⟩) (fail)
                 go_wp2_with fail
                 go_region_held3 (fun w' => w'.cell? ⟨wb, 1, none⟩ = some (.int .i64 q) ∧ w'.cell? ⟨wb, 0, none⟩ = some (.slice (some ⟨vb, vo, none⟩) l.length cap) ∧ w'.cell? ⟨vb, vo + q, none⟩ = some (vU8 b)) (exact ⟨hc1, hc0, hld⟩) (fail)
                 go_wp2
                 go_roundw
                 case rel => exact ⟨k + 1, x, S2, h9, by omega, by go_num, rfl, rfl, HS2, HX, by rw [← hqp]; exact hgo, by rw [← hqp]; exact hr1, ho1⟩
                 case measure => simp [intOf]; omega)
    · have hql : ¬ (q : Int) < (l.length : Int) := by omega
      have hge : (l.length : Int) ≤ (q : Int) := by omega
      have hpost : Hid (RfNum wb fb most l p w (.returned (.int .u64 0)) (wr.drew.setCell ⟨wb, 2, none⟩ (.int .i64 2))) := by
        have hn : numL most (l.drop p) = (2, 0, []) := by
          unfold numL
          rw [hF.out, List.drop_of_length_le (by omega), numF_short, if_neg (by simp)]
        refine ⟨ho.drew.setCell (.inl (by simp)) _, by rw [hn]; rfl, q, ?_, by rw [hn]; simp⟩
        rw [hn]
        exact (hr.kept0 (Only.refl [] wr).drew).setE 2
      clear hF hacc
      go_wp2_with fail
      go_region_held3 (fun w' => w'.cell? ⟨wb, 1, none⟩ = some (.int .i64 q) ∧ w'.cell? ⟨wb, 0, none⟩ = some (.slice a l.length cap)) (exact ⟨hc1, hc0⟩) (fail)
      go_wp2
      go_ret
      exact hpost
end Go.Proofs.Ytnlmeaijnfjakaa.Sh
