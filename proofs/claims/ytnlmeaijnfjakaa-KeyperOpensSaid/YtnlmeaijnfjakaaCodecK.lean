/- The codec's reader: Count, Text: walked. -/
import Derived.Test.YtnlmeaijnfjakaaCodecJ
namespace Go.Proofs.Ytnlmeaijnfjakaa.Sh
set_option linter.unusedSimpArgs false
set_option linter.unusedVariables false
open Go Go.RowKit

def CountPost (rb fb most : Nat) (l : List UInt8) (w : World) (e : Ending) (w' : World) : Prop :=
  Only [rb] w w' ∧ (∃ l', Rd w' rb fb l') ∧ ((numL most l).1 = 0 ∧ e = .returned (.int .i64 ((numL most l).2.1 : Int)) ∧ Rd w' rb fb (numL most l).2.2 ∨ (numL most l).1 ≠ 0 ∧ e = .panicked (ownEnd rb (numL most l).1))

set_option maxRecDepth 20000 in
theorem count_any (rb fb most : Nat) (l : List UInt8) (w : World) (h : Rd w rb fb l) (hm : most ≤ 10000) :
    Calls Try.prog 88 #[.pointer (some ⟨rb, 0, none⟩), .int .i64 most] w (CountPost rb fb most l w) := by
  have h0 : (0 : Int) ≤ (most : Int) := by omega
  go_enter Try.func88, Try.ntmps88
  go_wp2_with fail
  refine (number_any rb fb most l w h (by omega)).mono ?_
  rintro e w1 ⟨ho1, hr1, hcase⟩
  rcases hcase with ⟨hz, rfl, hr⟩ | ⟨hz, rfl⟩
  · have hle := numL_most _ _ hz
    have hpost : Hid (CountPost rb fb most l w (.returned (.int .i64 ((numL most l).2.1 : Int))) w1) := ⟨ho1, hr1, .inl ⟨hz, rfl, hr⟩⟩
    obtain ⟨n, hn⟩ : ∃ n, n = (numL most l).2.1 := ⟨_, rfl⟩
    rw [← hn] at hle hpost ⊢
    clear hn hz
    go_wp2
    go_ret
    exact hpost
  · exact ⟨rfl, ho1, hr1, .inr ⟨hz, rfl⟩⟩

def TextPost (rb fb longest : Nat) (l : List UInt8) (w : World) (e : Ending) (w' : World) : Prop :=
  Only [rb] w w' ∧ (∃ l', Rd w' rb fb l') ∧ ((textL longest l).1 = 0 ∧ (∃ v', e = .returned v' ∧ Fresh w w' v' (textL longest l).2.1) ∧ Rd w' rb fb (textL longest l).2.2 ∨ (textL longest l).1 ≠ 0 ∧ e = .panicked (ownEnd rb (textL longest l).1))

set_option maxRecDepth 20000 in
theorem text_any (rb fb longest : Nat) (l : List UInt8) (w : World) (h : Rd w rb fb l) (hm : longest ≤ 10000) :
    Calls Try.prog 62 #[.pointer (some ⟨rb, 0, none⟩), .int .i64 longest] w (TextPost rb fb longest l w) := by
  go_enter Try.func62, Try.ntmps62
  go_wp2_with fail
  refine (count_any rb fb longest l w h hm).mono ?_
  rintro e w1 ⟨ho1, hr1, hcase⟩
  rcases hcase with ⟨hz, rfl, hr⟩ | ⟨hz, rfl⟩
  · have hle := numL_most _ _ hz
    obtain ⟨n, hn⟩ : ∃ n, n = (numL longest l).2.1 := ⟨_, rfl⟩
    obtain ⟨r, hrr⟩ : ∃ r, r = (numL longest l).2.2 := ⟨_, rfl⟩
    rw [← hrr] at hr
    rw [← hn] at hle ⊢
    by_cases hs : r.length < n
    · have ht : textL longest l = (2, [], r) := by
        unfold textL
        rw [if_neg (by simp [hz]), ← hrr, ← hn, if_pos hs]
      have hpost : Hid (TextPost rb fb longest l w (.panicked (ownEnd rb 2)) w1) := ⟨ho1, hr1, .inr ⟨by rw [ht]; simp, by rw [ht]⟩⟩
      clear ht hz hn hrr
      go_wp2_with fail
      refine (take_short rb fb n r w1 hr hs (by omega)).mono ?_
      rintro e w2 ⟨rfl, rfl⟩
      exact ⟨rfl, hpost⟩
    · have ht : Hid (textL longest l = (0, r.take n, r.drop n)) := by
        show textL longest l = _
        unfold textL
        rw [if_neg (by simp [hz]), ← hrr, ← hn, if_neg hs]
      clear hz hn hrr
      go_wp2_with fail
      refine (take_ok rb fb n r w1 hr (by omega)).mono ?_
      rintro e w2 ⟨v2, rfl, hB2, hr2, hp2⟩
      have ho2 : Only [rb] w w2 := ho1.trans hp2 (by simp) (by simp)
      go_wp2_with fail
      refine (clone_any _ _ _ hB2 (by simp; omega)).mono ?_
      rintro e w3 ⟨v3, rfl, hf3, hp3⟩
      have ho3 : Only [rb] w w3 := ho2.trans hp3 (by simp) (by simp)
      have hr3 := hr2.kept0 hp3
      go_wp2
      go_ret
      exact ⟨ho3, ⟨_, hr3⟩, .inl ⟨by rw [ht.out], ⟨_, rfl, by rw [ht.out]; exact hf3.before ho2.size⟩, by rw [ht.out]; exact hr3⟩⟩
  · have ht : textL longest l = ((numL longest l).1, [], (numL longest l).2.2) := by
      unfold textL
      rw [if_pos hz]
    exact ⟨rfl, ho1, hr1, .inr ⟨by rw [ht]; exact hz, by rw [ht]⟩⟩
end Go.Proofs.Ytnlmeaijnfjakaa.Sh
