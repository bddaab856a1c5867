/- The document's reader, with or without an error: walked. -/
import Derived.Test.YtiinfiaemiaamaaTxC
import Derived.Deep.QuietTactic
import Derived.BigQuiet
namespace Go.Proofs.Ytiinfiaemiaamaa.Sh
open Go Go.RowKit

set_option maxRecDepth 20000 in
set_option maxHeartbeats 800000 in
theorem refNum_err (wb fb most : Nat) (l : List UInt8) (p c : Nat) (w : World) (h : Rf w wb fb l p c) (hc : c ≠ 0) :
    Calls Try.prog 59 #[.pointer (some ⟨wb, 0, none⟩), .int .u64 most] w fun e w' => e = .returned (.int .u64 0) ∧ w' = w := by
  have hc2 := h.fE
  have hne : ((c : Int) == 0) = false := by rw [beq_eq_false_iff_ne]; omega
  clear hc h
  go_enter Try.func59, Try.ntmps59
  go_wp2_with fail
  go_loopw [5, 6, 7] (fun n sc i wr => n = .int .u64 0 ∧ sc = .int .u64 1 ∧ i = .int .i64 0 ∧ wr = w) (fun _ _ _ _ => 0)
  case atStart => exact ⟨rfl, rfl, rfl, rfl⟩
  case round =>
    obtain ⟨rfl, rfl, rfl, rfl⟩ := hrel
    go_wp2
    go_ret
    exact ⟨rfl, rfl⟩

theorem refNum_all (wb fb most : Nat) (l : List UInt8) (p c : Nat) (w : World) (h : Rf w wb fb l p c) (hm : most < 18446744073709551616) (hl : l.length ≤ 1000000) :
    Calls Try.prog 59 #[.pointer (some ⟨wb, 0, none⟩), .int .u64 most] w fun e w' =>
      ∃ v q c' : Nat, e = .returned (.int .u64 (v : Int)) ∧ v ≤ most ∧ Rf w' wb fb l q c' ∧ (c ≠ 0 → c' = c) ∧ (c = 0 → c' = (numL most (l.drop p)).1 ∧ (c' = 0 → v = (numL most (l.drop p)).2.1 ∧ l.drop q = (numL most (l.drop p)).2.2)) ∧ Only [wb] w w' := by
  by_cases hc : c = 0
  · subst hc
    refine (refNum_any wb fb most l p w h hm hl).mono ?_
    rintro e w' ⟨ho, rfl, q, hr, hq⟩
    refine ⟨_, q, _, rfl, ?_, hr, fun h => absurd rfl h, fun _ => ⟨rfl, fun h0 => ⟨rfl, hq h0⟩⟩, ho⟩
    by_cases hz : (numL most (l.drop p)).1 = 0
    · exact numL_most _ _ hz
    · rw [numL_err _ _ hz]; omega
  · refine (refNum_err wb fb most l p c w h hc).mono ?_
    rintro e w' ⟨rfl, rfl⟩
    exact ⟨0, p, c, rfl, by omega, h, fun _ => rfl, fun h => absurd h hc, Only.refl _ _⟩

set_option maxHeartbeats 800000 in
theorem refText_err (wb fb longest : Nat) (l : List UInt8) (p c : Nat) (w : World) (h : Rf w wb fb l p c) (hc : c ≠ 0) (hm : longest ≤ 10000) :
    Calls Try.prog 60 #[.pointer (some ⟨wb, 0, none⟩), .int .i64 longest] w fun e w' => e = .returned (.slice none 0 0) ∧ w' = w := by
  have h0 : (0 : Int) ≤ (longest : Int) := by omega
  have hn := hid (refNum_err wb fb longest l p c w h hc)
  have hb := hid (refBytes_err wb fb 0 l p c w h hc)
  clear hc h
  go_enter Try.func60, Try.ntmps60
  go_wp2_with fail
  with_reducible refine hn.out.mono ?_
  rintro e w1 ⟨rfl, rfl⟩
  go_wp2_with fail
  refine hb.out.mono ?_
  rintro e w2 ⟨rfl, rfl⟩
  go_wp2
  go_ret
  exact ⟨rfl, rfl⟩

set_option maxHeartbeats 800000 in
theorem refText_own (wb fb longest : Nat) (l : List UInt8) (p : Nat) (w : World) (h : Rf w wb fb l p 0) (hm : longest ≤ 10000) (hl : l.length ≤ 1000000) :
    Calls Try.prog 60 #[.pointer (some ⟨wb, 0, none⟩), .int .i64 longest] w fun e w' =>
      Only [wb] w w' ∧ ∃ v' q, e = .returned v' ∧ Bs w' v' (textL longest (l.drop p)).2.1 ∧ (∀ x, v'.ownBlock = some x → w.heap.size ≤ x) ∧ Rf w' wb fb l q (textL longest (l.drop p)).1 ∧ ((textL longest (l.drop p)).1 = 0 → l.drop q = (textL longest (l.drop p)).2.2) := by
  have h0 : (0 : Int) ≤ (longest : Int) := by omega
  go_enter Try.func60, Try.ntmps60
  go_wp2_with fail
  refine (refNum_any wb fb longest l p w h (by omega) hl).mono ?_
  rintro e w1 ⟨ho1, rfl, q, hr1, hq1⟩
  by_cases hz : (numL longest (l.drop p)).1 = 0
  · have hmost := numL_most _ _ hz
    have hq := hq1 hz
    rw [hz] at hr1
    have hqlen : (numL longest (l.drop p)).2.2.length = l.length - q := by rw [← hq, List.length_drop]
    obtain ⟨n, hn⟩ : ∃ n, n = (numL longest (l.drop p)).2.1 := ⟨_, rfl⟩
    rw [← hn] at hmost ⊢
    by_cases hs : l.length - q < n
    · have ht : Hid (textL longest (l.drop p) = (2, [], (numL longest (l.drop p)).2.2)) := by
        show textL longest (l.drop p) = _
        unfold textL
        rw [if_neg (by simp [hz]), if_pos (by rw [hqlen, ← hn]; exact hs)]
      clear hz hq1 hq hqlen hn
      go_wp2_with fail
      refine (refBytes_short wb fb n l q w1 hr1 hs hl (by omega)).mono ?_
      rintro e w2 ⟨rfl, hr2, hp2⟩
      go_wp2
      go_ret
      exact ⟨ho1.trans hp2 (by simp) (by simp), _, q, rfl, by rw [ht.out]; exact Bs.empty (by unfold maxLen; omega), fun x hx => by simp [Value.ownBlock] at hx, by rw [ht.out]; exact hr2, by rw [ht.out]; simp⟩
    · have ht : Hid (textL longest (l.drop p) = (0, (l.drop q).take n, l.drop (q + n))) := by
        show textL longest (l.drop p) = _
        unfold textL
        rw [if_neg (by simp [hz]), if_neg (by rw [hqlen, ← hn]; exact hs), ← hn, ← hq, List.drop_drop]
      clear hz hq1 hq hqlen hn
      go_wp2_with fail
      refine (refBytes_ok wb fb n l q w1 hr1 (by omega) hl).mono ?_
      rintro e w2 ⟨v2, rfl, hf2, hr2, hp2⟩
      go_wp2
      go_ret
      exact ⟨ho1.trans hp2 (by simp) (by simp), _, q + n, rfl, by rw [ht.out]; exact hf2.bs (by simp; omega), fun x hx => Nat.le_trans ho1.size (hf2.lt x hx).1, by rw [ht.out]; exact hr2, by rw [ht.out]; simp⟩
  · have hn := numL_err _ _ hz
    rw [hn]
    have ht : Hid (textL longest (l.drop p) = ((numL longest (l.drop p)).1, [], (numL longest (l.drop p)).2.2)) := by
      show textL longest (l.drop p) = _
      unfold textL
      rw [if_pos hz]
    clear hq1 hn
    go_wp2_with fail
    refine (refBytes_err wb fb 0 l q _ w1 hr1 hz).mono ?_
    rintro e w2 ⟨rfl, rfl⟩
    go_wp2
    go_ret
    exact ⟨ho1, _, q, rfl, by rw [ht.out]; exact Bs.empty (by unfold maxLen; omega), fun x hx => by simp [Value.ownBlock] at hx, by rw [ht.out]; exact hr1, by rw [ht.out]; exact fun h9 => absurd h9 hz⟩

theorem refText_all (wb fb longest : Nat) (l : List UInt8) (p c : Nat) (w : World) (h : Rf w wb fb l p c) (hm : longest ≤ 10000) (hl : l.length ≤ 1000000) :
    Calls Try.prog 60 #[.pointer (some ⟨wb, 0, none⟩), .int .i64 longest] w fun e w' =>
      ∃ v' q c' s, e = .returned v' ∧ Bs w' v' s ∧ (∀ x, v'.ownBlock = some x → w.heap.size ≤ x) ∧ Rf w' wb fb l q c' ∧ (c ≠ 0 → c' = c) ∧ (c = 0 → c' = (textL longest (l.drop p)).1 ∧ (c' = 0 → s = (textL longest (l.drop p)).2.1 ∧ l.drop q = (textL longest (l.drop p)).2.2)) ∧ Only [wb] w w' := by
  by_cases hc : c = 0
  · subst hc
    refine (refText_own wb fb longest l p w h hm hl).mono ?_
    rintro e w' ⟨ho, v', q, rfl, hB, hn, hr, hq⟩
    exact ⟨_, q, _, _, rfl, hB, hn, hr, fun h => absurd rfl h, fun _ => ⟨rfl, fun h0 => ⟨rfl, hq h0⟩⟩, ho⟩
  · refine (refText_err wb fb longest l p c w h hc hm).mono ?_
    rintro e w' ⟨rfl, rfl⟩
    exact ⟨_, p, c, [], rfl, Bs.empty (by unfold maxLen; omega), fun x hx => by simp [Value.ownBlock] at hx, h, fun _ => rfl, fun h => absurd h hc, Only.refl _ _⟩

theorem only_drewN (w : World) (n : Nat) (bs : List Nat) : Only bs w (w.drewN n) := by
  induction n with
  | zero => exact Only.refl _ _
  | succ n ih => exact ih.drew

set_option maxHeartbeats 800000 in
theorem refEnd_err (wb fb : Nat) (l : List UInt8) (p c : Nat) (w : World) (h : Rf w wb fb l p c) (hc : c ≠ 0) :
    Calls Try.prog 61 #[.pointer (some ⟨wb, 0, none⟩)] w fun e w' => e = .returned (.int .i64 (c : Int)) ∧ Only [wb] w w' := by
  have hc2 := h.fE
  have hc1 := h.fP
  obtain ⟨v, hc0, hB, hfb⟩ := h.fB
  obtain ⟨a, cap, rfl⟩ := bs_form' hB
  have hne : ((c : Int) == 0) = false := by rw [beq_eq_false_iff_ne]; omega
  clear hc h
  go_enter Try.func61, Try.ntmps61
  go_wp2_with fail
  go_quiet (fail)
  go_wp2
  go_ret
  exact ⟨rfl, only_drewN _ _ _⟩

theorem refEnd_all (wb fb : Nat) (l : List UInt8) (p c : Nat) (w : World) (h : Rf w wb fb l p c) :
    Calls Try.prog 61 #[.pointer (some ⟨wb, 0, none⟩)] w fun e w' => ∃ c' : Nat, e = .returned (.int .i64 (c' : Int)) ∧ (c ≠ 0 → c' = c) ∧ (c = 0 → c' = if l.drop p = [] then 0 else 3) ∧ Only [wb] w w' := by
  by_cases hc : c = 0
  · subst hc
    refine (refEnd_any wb fb l p w h).mono ?_
    rintro e w' ⟨rfl, ho⟩
    refine ⟨if l.drop p = [] then 0 else 3, ?_, fun h => absurd rfl h, fun _ => rfl, ho⟩
    split <;> rfl
  · refine (refEnd_err wb fb l p c w h hc).mono ?_
    rintro e w' ⟨rfl, ho⟩
    exact ⟨c, rfl, fun _ => rfl, fun h => absurd h hc, ho⟩
end Go.Proofs.Ytiinfiaemiaamaa.Sh
