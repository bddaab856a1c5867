/- Any bytes are framed, and any frames read, as the document says, or there is its error: the law's walk. -/
import Derived.Test.YtcceiejfphokbaaCrcAwake
import Derived.Test.YtcceiejfphokbaaRefB
import Derived.Test.YtcceiejfphokbaaSame
namespace Go.Proofs.Ytcceiejfphokbaa.Sh
open Go Go.RowKit

/-- What a framing answers: the bytes, or none, and the error. -/
def FramePost (l : List UInt8) (w : World) (e : Ending) (w' : World) : Prop :=
  ∃ v' m, e = .returned (.tuple #[v', .int .i64 (if 1 ≤ l.length ∧ l.length ≤ 1000 then 0 else 1)]) ∧ m = (if 1 ≤ l.length ∧ l.length ≤ 1000 then frameL l else []) ∧ Fresh w w' v' m ∧ Only [] w w'

theorem frame_any (v : Value) (l : List UInt8) (w : World) (hB : Bs w v l) : Calls Try.prog 21 #[v] w (FramePost l w) := by
  by_cases h : 1 ≤ l.length ∧ l.length ≤ 1000
  · refine (frame_good v l w hB h.1 h.2).mono ?_
    rintro e w' ⟨v', rfl, hf, ho⟩
    exact ⟨v', _, by rw [if_pos h], rfl, by rw [if_pos h]; exact hf, ho⟩
  · refine (frame_bad v l w hB (by omega)).mono ?_
    rintro e w' ⟨rfl, rfl⟩
    exact ⟨_, _, by rw [if_neg h], rfl, by rw [if_neg h]; exact World.ownsRow_nil _ _ _ _, Only.refl _ _⟩

theorem refFrame_any (v : Value) (l : List UInt8) (w : World) (hB : Bs w v l) : Calls Try.prog 22 #[v] w (FramePost l w) := by
  by_cases h : 1 ≤ l.length ∧ l.length ≤ 1000
  · refine (refFrame_good v l w hB h.1 h.2).mono ?_
    rintro e w' ⟨v', rfl, hf, ho⟩
    exact ⟨v', _, by rw [if_pos h], rfl, by rw [if_pos h]; exact hf, ho⟩
  · refine (refFrame_bad v l w hB (by omega)).mono ?_
    rintro e w' ⟨rfl, rfl⟩
    exact ⟨_, _, by rw [if_neg h], rfl, by rw [if_neg h]; exact World.ownsRow_nil _ _ _ _, Only.refl _ _⟩

set_option maxHeartbeats 1600000 in
theorem crcFrames_mid (w : World) {v u : Value} {a b : List UInt8} (hv : Bs w v a) (hu : Bs w u b) (ha : a.length ≤ 1200) (hb : b.length ≤ 1200) :
    Calls Try.prog 6 #[v, u] w fun e w' => e = .returned (.bool true) ∧ Only [] w w' := by
  obtain ⟨_, xa, xc, rfl, h1, h2, h3, _⟩ := id hv
  obtain ⟨_, ya, yc, rfl, h1', h2', h3', _⟩ := id hu
  have hA1 : ¬ 1200 < a.length := by omega
  have hA2 : ¬ 1200 < b.length := by omega
  go_enter Try.func6, Try.ntmps6
  go_wp2_with fail
  refine (awake09_any w).mono ?_
  rintro e w1 ⟨rfl, ho1⟩
  go_wp2_with fail
  refine (frame_any _ a _ (hv.kept0 ho1)).mono ?_
  rintro e w2 ⟨v2, m, rfl, hm, hf2, hp2⟩
  have ho2 := ho1.trans0 hp2
  obtain ⟨err, herr⟩ : ∃ err : Int, err = (if 1 ≤ a.length ∧ a.length ≤ 1000 then 0 else 1) := ⟨_, rfl⟩
  rw [← herr]
  have hml : m.length ≤ 1006 := by
    rw [hm]; split
    · rw [frameL_length]; omega
    · simp
  have HE := hid herr
  have HM := hid hm
  clear herr hm
  go_wp2_with fail
  refine (refFrame_any _ a _ (hv.kept0 ho2)).mono ?_
  rintro e w3 ⟨v3, m3, rfl, hm3, hf3, hp3⟩
  have ho3 := ho2.trans0 hp3
  rw [← HE.out]
  obtain rfl : m3 = m := by rw [hm3, HM.out]
  clear hm3
  have hB2 := (hf2.bs (by omega)).kept0 hp3
  have hB3 := hf3.bs (by omega)
  go_wp2_with fail
  refine (next_any _ b _ (hu.kept0 ho3) (by omega)).mono ?_
  rintro e w4 ⟨v4, v4', rfl, hp4, hgood, hbad⟩
  have ho4 := ho3.trans0 hp4
  go_wp2_with fail
  refine (refNext_any _ b _ (hu.kept0 ho4)).mono ?_
  rintro e w5 ⟨rfl, hp5⟩
  have ho5 := ho4.trans0 hp5
  go_wp2_with fail
  refine (same_any _ _ m3 m3 _ ((hB2.kept0 hp4).kept0 hp5) ((hB3.kept0 hp4).kept0 hp5)).mono ?_
  rintro e w6 ⟨rfl, hp6⟩
  have ho6 := ho5.trans0 hp6
  rw [decide_eq_true (rfl : m3 = m3)]
  have hee : (err != err) = false := by simp
  have hff : (((firstL b).1 : Int) != ((firstL b).1 : Int)) = false := by simp
  by_cases hz : (firstL b).1 = 0
  · obtain ⟨hg1, hg2⟩ := hgood hz
    have hle := firstL_le b hz
    obtain ⟨n, hn⟩ : ∃ n, n = (firstL b).2 := ⟨_, rfl⟩
    rw [← hn] at hg1 hg2 hle ⊢
    rw [hz]
    have hbl : ((b.drop 6).take n).length = n := by simp; omega
    have hwr : IntKind.i64.wrap (6 + (n : Int)) = 6 + (n : Int) := IntWalk.i64_in _ (by omega)
    obtain ⟨yb, yo, yc', he, _, _, _, _⟩ := hu.form (by omega)
    obtain ⟨rfl, rfl⟩ : ya = some ⟨yb, yo, none⟩ ∧ yc = yc' := by simpa using he
    have hs1 := (hu.kept0 ho6).sub 6 n (by omega)
    have hG1 := ((hg1.bs (by rw [hbl]; omega)).kept0 hp5).kept0 hp6
    have hG2 := ((hg2.bs (by simp; omega)).kept0 hp5).kept0 hp6
    clear he hz hgood hbad hn hee hff
    by_cases hcap : yc = 6 + n
    · subst hcap
      have hll : b.length = 6 + n := by omega
      have hld : b.drop (6 + n) = [] := List.drop_of_length_le (by omega)
      have hz0 : b.length - (6 + (n : Int)).toNat = 0 := by omega
      have hz1 : b.length - (6 + n) = 0 := by omega
      rw [hld] at hG2
      clear hll hld
      rw [show 6 + n - 6 = n by omega] at hs1
      go_wp2_with fail
      refine (same_any _ _ ((b.drop 6).take n) ((b.drop 6).take n) _ hG1 ?_).mono ?_
      · simpa using hs1
      rintro e w7 ⟨rfl, hp7⟩
      rw [decide_eq_true rfl]
      go_wp2_with fail
      trace_state
      refine (same_any _ _ [] [] _ (hG2.kept0 hp7) (Bs.empty (by unfold maxLen; omega))).mono ?_
      rintro e w8 ⟨rfl, hp8⟩
      rw [decide_eq_true rfl]
      go_wp2
      go_ret
      exact ⟨rfl, ho6.trans0 (hp7.trans0 hp8)⟩
    · have hlc : 6 + n < yc := by omega
      have hs2 := (hu.kept0 ho6).tail (6 + n) (by omega)
      clear hcap
      go_wp2_with fail
      refine (same_any _ _ _ _ _ hG1 hs1).mono ?_
      rintro e w7 ⟨rfl, hp7⟩
      rw [decide_eq_true rfl]
      go_wp2_with fail
      refine (same_any _ _ _ _ _ (hG2.kept0 hp7) (hs2.kept0 hp7)).mono ?_
      rintro e w8 ⟨rfl, hp8⟩
      rw [decide_eq_true rfl]
      go_wp2
      go_ret
      exact ⟨rfl, ho6.trans0 (hp7.trans0 hp8)⟩
  · obtain ⟨rfl, rfl⟩ := hbad hz
    have hne : (((firstL b).1 : Int) != 0) = true := by rw [bne_iff_ne]; omega
    clear hgood hbad hz
    go_wp2
    go_ret
    exact ⟨rfl, ho6⟩

set_option maxHeartbeats 800000 in
theorem crcFrames_walk (w : World) {v u : Value} {a b : List UInt8} (hv : Bs w v a) (hu : Bs w u b) :
    Calls Try.prog 6 #[v, u] w fun e w' => e = .returned (.bool true) ∧ Only [] w w' := by
  by_cases hA : a.length ≤ 1200 ∧ b.length ≤ 1200
  · exact crcFrames_mid w hv hu hA.1 hA.2
  · obtain ⟨_, xa, xc, rfl, h1, h2, h3, _⟩ := id hv
    obtain ⟨_, ya, yc, rfl, h1', h2', h3', _⟩ := id hu
    by_cases hA1 : 1200 < a.length
    all_goals
      have hA2 : ¬ 1200 < a.length → 1200 < b.length := by omega
      try have hA2 := hA2 hA1
      clear hA
      go_enter Try.func6, Try.ntmps6
      go_wp2_with fail
      refine (awake09_any w).mono ?_
      rintro e w1 ⟨rfl, ho1⟩
      go_wp2_with fail
      refine (awake09_any _).mono ?_
      rintro e w2 ⟨rfl, ho2⟩
      go_wp2
      go_ret
      exact ⟨rfl, ho1.trans0 ho2⟩
end Go.Proofs.Ytcceiejfphokbaa.Sh
