/- Layer 8: held; texts read, by the document's reader and by the codec's. -/
import Derived.Test.YtnlmeaijnfjakaaCodecI
namespace Go.Proofs.Ytnlmeaijnfjakaa.Sh
set_option linter.unusedSimpArgs false
set_option linter.unusedVariables false
open Go Go.RowKit

theorem numF_err (l : List UInt8) : ∀ k acc, (numF k acc l).1 ≠ 0 → (numF k acc l).2.1 = 0 := by
  induction l with
  | nil => intro k acc _; rfl
  | cons b r ih =>
    intro k acc h
    rw [numF] at h ⊢
    split
    · rfl
    · rename_i h1
      rw [if_neg h1] at h
      split
      · rename_i h2
        rw [if_pos h2] at h
        exact absurd rfl h
      · rename_i h2
        rw [if_neg h2] at h
        exact ih _ _ h
theorem numL_err (most : Nat) (l : List UInt8) (h : (numL most l).1 ≠ 0) : (numL most l).2.1 = 0 := by
  unfold numL at *
  split at h
  · rename_i h1; rw [if_pos h1]
  · rename_i h1; rw [if_neg h1]; exact numF_err _ _ _ h
theorem numL_most (most : Nat) (l : List UInt8) (h : (numL most l).1 = 0) : (numL most l).2.1 ≤ most := by
  unfold numL at *
  split at h
  · cases h
  · rename_i h1
    rw [if_neg h1]
    omega

/-- A text: the error (0: none), its bytes, what is left. -/
def textL (longest : Nat) (l : List UInt8) : Nat × List UInt8 × List UInt8 :=
  if (numL longest l).1 ≠ 0 then ((numL longest l).1, [], (numL longest l).2.2)
  else if (numL longest l).2.2.length < (numL longest l).2.1 then (2, [], (numL longest l).2.2)
  else (0, (numL longest l).2.2.take (numL longest l).2.1, (numL longest l).2.2.drop (numL longest l).2.1)

def RfText (wb fb longest : Nat) (l : List UInt8) (p : Nat) (w : World) (e : Ending) (w' : World) : Prop :=
  Only [wb] w w' ∧ ∃ v' q, e = .returned v' ∧ Bs w' v' (textL longest (l.drop p)).2.1 ∧ Rf w' wb fb l q (textL longest (l.drop p)).1 ∧ ((textL longest (l.drop p)).1 = 0 → l.drop q = (textL longest (l.drop p)).2.2)

set_option maxHeartbeats 800000 in
theorem refText_any (wb fb longest : Nat) (l : List UInt8) (p : Nat) (w : World) (h : Rf w wb fb l p 0) (hm : longest ≤ 10000) (hl : l.length ≤ 1000000) :
    Calls Try.prog 45 #[.pointer (some ⟨wb, 0, none⟩), .int .i64 longest] w (RfText wb fb longest l p w) := by
  have h0 : (0 : Int) ≤ (longest : Int) := by omega
  go_enter Try.func45, Try.ntmps45
  go_wp2_with fail
  refine (refNum_any wb fb longest l p w h (by omega) hl).mono ?_
  rintro e w1 ⟨ho1, rfl, q, hr1, hq1⟩
  by_cases hz : (numL longest (l.drop p)).1 = 0
  · have hmost := numL_most _ _ hz
    have hq := hq1 hz
    rw [hz] at hr1
    have hqlen : (numL longest (l.drop p)).2.2.length = l.length - q := by rw [← hq, List.length_drop]
    obtain ⟨n, hn⟩ : ∃ n, n = (numL longest (l.drop p)).2.1 := ⟨_, rfl⟩
    rw [← hn] at hmost ⊢
    by_cases hs : l.length - q < n
    · have ht : Hid (textL longest (l.drop p) = (2, [], (numL longest (l.drop p)).2.2)) := by
        show textL longest (l.drop p) = _
        unfold textL
        rw [if_neg (by simp [hz]), if_pos (by rw [hqlen, ← hn]; exact hs)]
      clear hz hq1 hq hqlen hn
      go_wp2_with fail
      refine (refBytes_short wb fb n l q w1 hr1 hs hl (by omega)).mono ?_
      rintro e w2 ⟨rfl, hr2, hp2⟩
      go_wp2
      go_ret
      exact ⟨ho1.trans hp2 (by simp) (by simp), _, q, rfl, by rw [ht.out]; exact Bs.empty (by unfold maxLen; omega), by rw [ht.out]; exact hr2, by rw [ht.out]; simp⟩
    · have ht : Hid (textL longest (l.drop p) = (0, (l.drop q).take n, l.drop (q + n))) := by
        show textL longest (l.drop p) = _
        unfold textL
        rw [if_neg (by simp [hz]), if_neg (by rw [hqlen, ← hn]; exact hs), ← hn, ← hq, List.drop_drop]
      clear hz hq1 hq hqlen hn
      go_wp2_with fail
      refine (refBytes_ok wb fb n l q w1 hr1 (by omega) hl).mono ?_
      rintro e w2 ⟨v2, rfl, hf2, hr2, hp2⟩
      go_wp2
      go_ret
      exact ⟨ho1.trans hp2 (by simp) (by simp), _, q + n, rfl, by rw [ht.out]; exact hf2.bs (by simp; omega), by rw [ht.out]; exact hr2, by rw [ht.out]; simp⟩
  · have hn := numL_err _ _ hz
    rw [hn]
    have ht : Hid (textL longest (l.drop p) = ((numL longest (l.drop p)).1, [], (numL longest (l.drop p)).2.2)) := by
      show textL longest (l.drop p) = _
      unfold textL
      rw [if_pos hz]
    clear hq1 hn
    go_wp2_with fail
    refine (refBytes_err wb fb 0 l q _ w1 hr1 hz).mono ?_
    rintro e w2 ⟨rfl, rfl⟩
    go_wp2
    go_ret
    exact ⟨ho1, _, q, rfl, by rw [ht.out]; exact Bs.empty (by unfold maxLen; omega), by rw [ht.out]; exact hr1, by rw [ht.out]; exact fun h9 => absurd h9 hz⟩

set_option maxHeartbeats 800000 in
theorem refEnd_any (wb fb : Nat) (l : List UInt8) (p : Nat) (w : World) (h : Rf w wb fb l p 0) :
    Calls Try.prog 46 #[.pointer (some ⟨wb, 0, none⟩)] w fun e w' => e = .returned (.int .i64 (if l.drop p = [] then 0 else 3)) ∧ Only [wb] w w' := by
  have hc2 := h.fE
  have hc1 := h.fP
  have hle := h.le
  obtain ⟨hz0, hz1, hz2⟩ := h.soft
  obtain ⟨v, hc0, hB, hfb⟩ := h.fB
  obtain ⟨_, a, cap, rfl, h1, h2, h3, _⟩ := id hB
  have hsome : Hid (∃ x, w.cell? ⟨wb, 2, none⟩ = some x) := ⟨_, hc2⟩
  by_cases hlt : p < l.length
  · have hd : Hid (¬ l.drop p = []) := by
      intro h9
      have := congrArg List.length h9
      simp at this
      omega
    rw [if_neg hd]
    have hlt' : (p : Int) < (l.length : Int) := by omega
    have hcs := World.cell?_setCell_same w.drew ⟨wb, 2, none⟩ (.int .i64 3) (u := .int .i64 0) (by simpa using hc2)
    have hpost : Hid (Only [wb] w (w.drew.setCell ⟨wb, 2, none⟩ (.int .i64 3))) := (Only.refl [wb] w).drew.setCell (.inl (by simp)) _
    go_enter Try.func46, Try.ntmps46
    go_wp2_with fail
    go_region_held3 (fun w' => w'.cell? ⟨wb, 1, none⟩ = some (.int .i64 p) ∧ w'.cell? ⟨wb, 0, none⟩ = some (.slice a l.length cap) ∧ w'.cell? ⟨wb, 2, none⟩ = some (.int .i64 (0 : Nat))) (exact ⟨hc1, hc0, hc2⟩) (fail)
    go_wp2
    go_ret
    exact ⟨rfl, hpost⟩
  · have hd : l.drop p = [] := List.drop_of_length_le (by omega)
    rw [if_pos hd]
    have hlt' : ¬ (p : Int) < (l.length : Int) := by omega
    clear hd
    go_enter Try.func46, Try.ntmps46
    go_wp2_with fail
    go_region_held3 (fun w' => w'.cell? ⟨wb, 1, none⟩ = some (.int .i64 p) ∧ w'.cell? ⟨wb, 0, none⟩ = some (.slice a l.length cap) ∧ w'.cell? ⟨wb, 2, none⟩ = some (.int .i64 (0 : Nat))) (exact ⟨hc1, hc0, hc2⟩) (fail)
    go_wp2
    go_ret
    exact ⟨rfl, (Only.refl [wb] w).drew⟩
end Go.Proofs.Ytnlmeaijnfjakaa.Sh
