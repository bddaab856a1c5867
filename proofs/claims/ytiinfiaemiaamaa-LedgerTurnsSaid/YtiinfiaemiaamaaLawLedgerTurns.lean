/- A nonce is one's turn once, one behind the other; nobody else's nonce changes: the law's walk. -/
import Derived.Test.YtiinfiaemiaamaaLedL
import Derived.Test.YtiinfiaemiaamaaLedH
import Derived.Test.YtiinfiaemiaamaaRead
namespace Go.Proofs.Ytiinfiaemiaamaa.Sh
open Go Go.RowKit

def mT (k nx : Nat) : Lm := { initM [1, 2, 3] with n := upd (fun _ => 0) k nx }
theorem mT_inv (k nx : Nat) (h : nx ≤ 100) : LInv 6 (mT k nx) := by
  have h0 : LInv 6 (initM [1, 2, 3]) := initM_inv [1, 2, 3] (by decide)
  refine ⟨h0.few, h0.sum, h0.cap, h0.dep, fun i => ?_⟩
  simp only [mT]
  by_cases e : i = k
  · rw [e, upd_same]; omega
  · rw [upd_other _ _ e]; omega
theorem mT_zero (k : Nat) : mT k 0 = initM [1, 2, 3] := by
  simp only [mT]
  congr 1
  funext i
  by_cases e : i = k
  · rw [e, upd_same]
  · rw [upd_other _ _ e]
theorem mT_turn (k nx n : Nat) (hk : k < 3) (hn : n < 8) : turnE (mT k nx) (k : Int) n = if nx ≠ n then (11, mT k nx) else (0, mT k (nx + 1)) := by
  have hi : (mT k nx).is (k : Int) := by
    have : (mT k nx).k = 3 := rfl
    unfold Lm.is
    omega
  have e : (mT k nx).n k = nx := by show upd (fun _ => 0) k nx k = nx; exact upd_same _ _ _
  unfold turnE
  rw [if_pos hi, Int.toNat_natCast, e]
  by_cases h : nx ≠ n
  · rw [if_pos h, if_pos h]
  · rw [if_neg h, if_neg h, if_neg (by omega)]
    simp only [Lm.turn, mT, upd_upd, upd_same]

theorem ns_three (w : World) : Ns (w.alloc (Obj.cells #[.int .u64 1, .int .u64 2, .int .u64 3] 22)) (.slice (some ⟨w.heap.size, 0, none⟩) 3 3) [1, 2, 3] :=
  ⟨cs_built w [_, _, _] _ 1 3 _ rfl (by omega), by simp⟩

set_option maxRecDepth 20000 in
set_option maxHeartbeats 3200000 in
theorem ledgerTurns_walk (w : World) {v : Value} {l : List UInt8} {who : Int} (hv : Bs w v l) (hwho : (Lit.int .u8 who).wf = true) :
    Calls Try.prog 5 #[v, .int .u8 who] w fun e w' => e = .returned (.bool true) ∧ Only [] w w' := by
  obtain ⟨y, rfl⟩ := u8_of (wfu8 hwho)
  clear hwho
  obtain ⟨_, a, cap, rfl, h1, h2, h3, _⟩ := id hv
  have hyb := u8_bound y
  by_cases hl : 200 < l.length
  · go_enter Try.func5, Try.ntmps5
    go_wp2_with fail
    refine (awake13_any _).mono ?_
    rintro e w1 ⟨rfl, ho1⟩
    go_wp2_with fail
    refine (awake13_any _).mono ?_
    rintro e w2 ⟨rfl, ho2⟩
    go_wp2
    go_ret
    exact ⟨rfl, ho1.trans0 ho2⟩
  obtain ⟨k, hk⟩ : ∃ k, k = y.toNat % 3 := ⟨_, rfl⟩
  have hk3 : k < 3 := by omega
  have hmod : (y.toNat : Int) % 3 = (k : Int) := by omega
  obtain ⟨p, hp⟩ : ∃ p, p = (k + 1) % 3 := ⟨_, rfl⟩
  obtain ⟨q, hq⟩ : ∃ q, q = (k + 2) % 3 := ⟨_, rfl⟩
  have hp3 : p < 3 ∧ p ≠ k := by omega
  have hq3 : q < 3 ∧ q ≠ k := by omega
  have hmp : ((k : Int) + 1) % 3 = (p : Int) := by omega
  have hmq : ((k : Int) + 2) % 3 = (q : Int) := by omega
  have hz0 := hid (show newE [1, 2, 3] = 0 by decide)
  clear hk hp hq
  go_enter Try.func5, Try.ntmps5
  go_wp2_with fail
  refine (awake13_any _).mono ?_
  rintro e w1 ⟨rfl, ho1⟩
  go_wp2_with fail
  refine (new_any _ _ [1, 2, 3] (ns_three w1)).mono ?_
  rintro e w2 ⟨hp2, hcase⟩
  have ho2 : Only [] w w2 := ho1.trans0 (((Only.refl [] w1).alloc _).trans0 hp2)
  rcases hcase with ⟨hne, _⟩ | ⟨_, x, ab, mb, ⟨n1, n2, n3⟩, rfl, hL⟩
  · exact absurd hz0.out hne
  rw [← mT_zero k] at hL
  have hs1 := ho1.size
  have hsz : w.heap.size ≤ x ∧ w.heap.size ≤ ab ∧ w.heap.size ≤ mb := by simp at n1 n2 n3; omega
  clear n1 n2 n3
  go_wp2_with fail
  have hld : decide (200 < (l.length : Int)) = false := by simp; omega
  rw [hmod, hld]
  clear hld
  go_loopw [8, 30] (fun nx i wr => ∃ j c : Nat, j ≤ l.length ∧ i = .int .i64 j ∧ c ≤ 8 ∧ nx = .int .u64 (c : Int) ∧ Led wr x ab mb (mT k c) ∧ Only [] w wr) (fun _ i _ => l.length - (intOf i).toNat)
  case atStart => exact ⟨0, 0, Nat.zero_le _, rfl, by omega, rfl, hL, ho2⟩
  case round =>
    obtain ⟨j, c, hj, rfl, hc8, rfl, hLr, ho⟩ := hrel
    have hir := mT_inv k c (by omega)
    by_cases hlt : j < l.length
    · obtain ⟨vb, vo, rfl, hc⟩ := (hv.kept0 ho).at j hlt
      obtain ⟨z, hz⟩ : ∃ z, z = l[j] := ⟨_, rfl⟩
      rw [← hz] at hc
      have hzb := u8_bound z
      obtain ⟨n, hn⟩ : ∃ n, n = z.toNat % 8 := ⟨_, rfl⟩
      have hn8 : n < 8 := by omega
      have hzm : (z.toNat : Int) % 8 = (n : Int) := by omega
      have ht := turn_any wr x ab mb 6 _ hLr hir (k : Int) n (by omega)
      unfold HoldPost at ht
      rw [mT_turn k c n hk3 hn8] at ht
      clear hz hn
      by_cases hne : c ≠ n
      · rw [if_pos hne] at ht
        replace ht := hid ht
        have hb : ((n : Int) == (c : Int)) = false := by rw [beq_eq_false_iff_ne]; omega
        clear hne hir
        go_wp2_with fail
        refine ht.out.mono ?_
        rintro e w3 ⟨rfl, hL3, ho3⟩
        go_wp2_with fail
        go_roundw
        case rel => exact ⟨j + 1, c, by omega, by go_num, hc8, rfl, hL3, ho.trans ho3 (by simp) (by simp; omega)⟩
        case measure => simp [intOf]; omega
      · obtain rfl : c = n := by omega
        rw [if_neg hne] at ht
        replace ht := hid ht
        have hb : ((c : Int) == (c : Int)) = true := by simp
        clear hne hir
        go_wp2_with fail
        refine ht.out.mono ?_
        rintro e w3 ⟨rfl, hL3, ho3⟩
        go_wp2_with fail
        go_roundw
        case rel => exact ⟨j + 1, c + 1, by omega, by go_num, by omega, by go_num, hL3, ho.trans ho3 (by simp) (by simp; omega)⟩
        case measure => simp [intOf]; omega
    · obtain rfl : j = l.length := by omega
      have g1 := nonce_any wr x ab mb 6 _ hLr hir (k : Int)
      have g2 := nonce_any wr x ab mb 6 _ hLr hir (p : Int)
      have g3 := nonce_any wr x ab mb 6 _ hLr hir (q : Int)
      have his : ∀ i : Nat, i < 3 → nonE (mT k c) (i : Int) = upd (fun _ => 0) k c i := by
        intro i hi
        unfold nonE
        rw [if_pos (by have : (mT k c).k = 3 := rfl; unfold Lm.is; omega), Int.toNat_natCast]
        rfl
      rw [his k hk3, upd_same] at g1
      rw [his p hp3.1, upd_other _ _ hp3.2] at g2
      rw [his q hq3.1, upd_other _ _ hq3.2] at g3
      replace g1 := hid g1
      replace g2 := hid g2
      replace g3 := hid g3
      have hb : ((c : Int) == (c : Int)) = true := by simp
      clear hir his
      go_wp2_with fail
      refine g1.out.mono ?_
      rintro e w' ⟨rfl, rfl⟩
      go_wp2_with fail
      refine g2.out.mono ?_
      rintro e w' ⟨rfl, rfl⟩
      go_wp2_with fail
      refine g3.out.mono ?_
      rintro e w' ⟨rfl, rfl⟩
      go_wp2
      go_ret
      exact ⟨rfl, ho⟩
end Go.Proofs.Ytiinfiaemiaamaa.Sh
