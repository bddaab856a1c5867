/- Layer 14: what is awake; are orders alike? what was encoded is decoded: walked, and plain. -/
import Derived.Test.YtiinfiaemiaamaaTxE
import Derived.Test.YtiinfiaemiaamaaReadT
namespace Go.Proofs.Ytiinfiaemiaamaa.Sh
open Go Go.RowKit

/-- The bytes of an order: the error, the bytes. -/
def encE (k t : Int) (a : Nat) (m : List UInt8) : Nat × List UInt8 := if rightB k t a m.length = true then (0, encB k.toNat t.toNat a m) else (1, [])

theorem encE_small (k t : Int) (a : Nat) (m : List UInt8) (ha : a < 18446744073709551616) : (encE k t a m).2.length ≤ 60 := by
  unfold encE
  split
  · rename_i h
    obtain ⟨kn, tn, rfl, rfl, h1, h2, h3, h4⟩ := right_nat h
    have := partB_small kn tn a (by omega) (by omega) ha 3
    have hn := numB_length 10 m.length (by omega) (by omega)
    unfold encB textB
    unfold partB at this
    simp only [Int.toNat_natCast, List.length_append] at this ⊢
    omega
  · simp

theorem encode_any (w : World) (k t : Int) (a : Nat) (mv : Value) (m : List UInt8) (hm : Bs w mv m) (ha : a < 18446744073709551616) :
    Calls Try.prog 28 #[txV k t a mv] w fun e w' => ∃ v', e = .returned (.tuple #[v', .int .i64 ((encE k t a m).1 : Int)]) ∧ Bs w' v' (encE k t a m).2 ∧ Only [] w w' := by
  have hs := encE_small k t a m ha
  by_cases h : rightB k t a m.length = true
  · obtain ⟨kn, tn, rfl, rfl, h1, h2, h3, h4⟩ := right_nat h
    have he : encE (kn : Int) (tn : Int) a m = (0, encB kn tn a m) := by unfold encE; rw [if_pos h]; simp
    rw [he] at hs ⊢
    refine (encode_good w kn tn a mv m hm h ha).mono ?_
    rintro e w' ⟨v', rfl, hO, ho⟩
    exact ⟨v', rfl, Cs.of_own hO (by simp only at hs ⊢; omega), ho⟩
  · have he : encE k t a m = (1, []) := by unfold encE; rw [if_neg h]
    rw [he]
    refine (encode_bad w k t a mv m hm (by simpa using h)).mono ?_
    rintro e w' ⟨rfl, ho⟩
    exact ⟨_, rfl, Bs.empty (by unfold maxLen; omega), ho⟩

theorem rencode_any (w : World) (k t : Int) (a : Nat) (mv : Value) (m : List UInt8) (hm : Bs w mv m) (ha : a < 18446744073709551616) :
    Calls Try.prog 29 #[txV k t a mv] w fun e w' => ∃ v', e = .returned (.tuple #[v', .int .i64 ((encE k t a m).1 : Int)]) ∧ Bs w' v' (encE k t a m).2 ∧ Only [] w w' := by
  have hs := encE_small k t a m ha
  by_cases h : rightB k t a m.length = true
  · obtain ⟨kn, tn, rfl, rfl, h1, h2, h3, h4⟩ := right_nat h
    have he : encE (kn : Int) (tn : Int) a m = (0, encB kn tn a m) := by unfold encE; rw [if_pos h]; simp
    rw [he] at hs ⊢
    refine (rencode_good w kn tn a mv m hm h ha).mono ?_
    rintro e w' ⟨v', rfl, hO, ho⟩
    exact ⟨v', rfl, Cs.of_own hO (by simp only at hs ⊢; omega), ho⟩
  · have he : encE k t a m = (1, []) := by unfold encE; rw [if_neg h]
    rw [he]
    refine (rencode_bad w k t a mv m hm (by simpa using h)).mono ?_
    rintro e w' ⟨rfl, ho⟩
    exact ⟨_, rfl, Bs.empty (by unfold maxLen; omega), ho⟩

/-- What was encoded is decoded. -/
theorem decE_encB (k t a : Nat) (m : List UInt8) (h : rightB (k : Int) (t : Int) a m.length = true) (ha : a < 18446744073709551616) : decE (encB k t a m) = (0, k, t, a, m) := by
  obtain ⟨kn, tn, h1, h2, h3, h4, h5, h6⟩ := right_nat h
  have e1 := numL_numB 2 k (numB t ++ (numB a ++ textB m)) (by omega) (by omega)
  have e2 := numL_numB 5 t (numB a ++ textB m) (by omega) (by omega)
  have e3 := numL_numB 18446744073709551615 a (textB m) (by omega) ha
  have e4 := textL_textB 16 m [] h6 (by omega)
  rw [List.append_nil] at e4
  have hs : decS (encB k t a m) = (0, k, t, a, m, []) := by
    unfold decS encB
    simp only [List.append_assoc, e1, e2, e3, e4, ne_eq, not_true_eq_false, if_false]
  unfold decE
  rw [hs]
  simp only [ne_eq, not_true_eq_false, if_false, h]
  simp

/-- What is decoded was encoded so. -/
theorem encE_decE (b : List UInt8) (h : (decE b).1 = 0) : encE ((decE b).2.1 : Int) ((decE b).2.2.1 : Int) (decE b).2.2.2.1 (decE b).2.2.2.2 = (0, b) := by
  have hd : (decS b).1 = 0 ∧ (decS b).2.2.2.2.2 = [] ∧ rightB ((decS b).2.1 : Int) ((decS b).2.2.1 : Int) (decS b).2.2.2.1 (decS b).2.2.2.2.1.length = true ∧ decE b = (0, (decS b).2.1, (decS b).2.2.1, (decS b).2.2.2.1, (decS b).2.2.2.2.1) := by
    unfold decE at h
    split at h
    · rename_i h1; exact absurd h h1
    · rename_i h1
      split at h
      · cases h
      · rename_i h2
        split at h
        · cases h
        · rename_i h3
          refine ⟨by simpa using h1, by simpa using h2, by simpa using h3, ?_⟩
          unfold decE
          rw [if_neg h1, if_neg h2, if_neg h3]
  obtain ⟨h1, h2, h3, h4⟩ := hd
  rw [h4]
  unfold encE
  simp only [h3, if_true, Int.toNat_natCast]
  congr 1
  unfold decS at h1 h2 ⊢
  split at h1
  · rename_i z; exact absurd h1 z
  rename_i z1
  rw [if_neg z1] at h2
  simp only [if_neg z1]
  split at h1
  · rename_i z; exact absurd h1 z
  rename_i z2
  rw [if_neg z2] at h2
  simp only [if_neg z2]
  split at h1
  · rename_i z; exact absurd h1 z
  rename_i z3
  rw [if_neg z3] at h2
  simp only [if_neg z3]
  split at h1
  · rename_i z; exact absurd h1 z
  rename_i z4
  rw [if_neg z4] at h2
  simp only [if_neg z4]
  simp only [ne_eq, Decidable.not_not] at z1 z2 z3 z4 h2
  have g1 := numL_inv 2 b z1
  have g2 := numL_inv 5 _ z2
  have g3 := numL_inv 18446744073709551615 _ z3
  have g4 := textL_inv 16 _ z4
  rw [h2, List.append_nil] at g4
  unfold encB
  rw [← g4, List.append_assoc, List.append_assoc, ← g3, ← g2]
  exact g1.symm

theorem decE_bound (b : List UInt8) : (decE b).2.1 ≤ 2 ∧ (decE b).2.2.1 ≤ 5 ∧ (decE b).2.2.2.1 ≤ 18446744073709551615 ∧ (decE b).2.2.2.2.length ≤ 16 := by
  unfold decE
  split
  · simp
  rename_i h1
  split
  · simp
  split
  · simp
  rename_i h3
  simp only [Bool.not_eq_false] at h3
  obtain ⟨kn, tn, e1, e2, _, e3, e4, e5⟩ := right_nat h3
  refine ⟨by simp only; omega, by simp only; omega, ?_, e5⟩
  simp only [ne_eq, Decidable.not_not] at h1
  show (decS b).2.2.2.1 ≤ _
  unfold decS at h1 ⊢
  split at h1
  · rename_i z; exact absurd h1 z
  rename_i z1
  simp only [if_neg z1]
  split at h1
  · rename_i z; exact absurd h1 z
  rename_i z2
  simp only [if_neg z2]
  split at h1
  · rename_i z; exact absurd h1 z
  rename_i z3
  simp only [if_neg z3]
  split at h1
  · rename_i z; exact absurd h1 z
  rename_i z4
  simp only [if_neg z4]
  simp only [ne_eq, Decidable.not_not] at z3
  exact numL_most _ _ z3

/-- Are orders alike? -/
def alikeB (k t : Int) (a : Nat) (m : List UInt8) (k' t' : Int) (a' : Nat) (m' : List UInt8) : Bool := decide (k = k') && decide (t = t') && decide (a = a') && decide (m = m')

theorem enc_alike (k t : Int) (a : Nat) (m : List UInt8) (k' t' : Int) (a' : Nat) (m' : List UInt8) (h : rightB k t a m.length = true) (h' : rightB k' t' a' m'.length = true) (ha : a < 18446744073709551616) (ha' : a' < 18446744073709551616) :
    decide ((encE k t a m).2 = (encE k' t' a' m').2) = alikeB k t a m k' t' a' m' := by
  obtain ⟨kn, tn, rfl, rfl, _⟩ := right_nat h
  obtain ⟨kn', tn', rfl, rfl, _⟩ := right_nat h'
  have e1 := decE_encB kn tn a m h ha
  have e2 := decE_encB kn' tn' a' m' h' ha'
  unfold encE alikeB
  rw [if_pos h, if_pos h']
  simp only [Int.toNat_natCast]
  by_cases he : encB kn tn a m = encB kn' tn' a' m'
  · rw [he, e2] at e1
    simp only [Prod.mk.injEq, true_and] at e1
    obtain ⟨rfl, rfl, rfl, rfl⟩ := e1
    simp
  · rw [decide_eq_false he]
    symm
    rw [← Bool.not_eq_true]
    intro h9
    simp only [Bool.and_eq_true, decide_eq_true_eq] at h9
    obtain ⟨⟨⟨h1, h2⟩, rfl⟩, rfl⟩ := h9
    obtain rfl : kn = kn' := by omega
    obtain rfl : tn = tn' := by omega
    exact he rfl

set_option maxRecDepth 20000 in
set_option maxHeartbeats 1600000 in
theorem same14_any (w : World) (k t : Int) (a : Nat) (mv : Value) (m : List UInt8) (k' t' : Int) (a' : Nat) (mv' : Value) (m' : List UInt8) (hm : Bs w mv m) (hm' : Bs w mv' m') :
    Calls Try.prog 33 #[txV k t a mv, txV k' t' a' mv'] w fun e w' => e = .returned (.bool (alikeB k t a m k' t' a' m')) ∧ Only [] w w' := by
  obtain ⟨ma, mc, rfl⟩ := bs_form' hm
  obtain ⟨ma', mc', rfl⟩ := bs_form' hm'
  have hO : Only [] w ((w.alloc (Obj.cells #[.int .i64 k, .int .i64 t, .int .u64 (a : Int), .slice ma m.length mc] 40)).alloc (Obj.cells #[.int .i64 k', .int .i64 t', .int .u64 (a' : Int), .slice ma' m'.length mc'] 37)) := ((Only.refl [] w).alloc _).alloc _
  unfold alikeB
  by_cases h1 : k = k'
  · subst h1
    by_cases h2 : t = t'
    · subst h2
      by_cases h3 : a = a'
      · subst h3
        simp only [decide_true, Bool.true_and]
        have hs := hid (same_any _ _ m m' _ (hm.kept0 hO) (hm'.kept0 hO))
        obtain ⟨r, hr⟩ : ∃ r, r = decide (m = m') := ⟨_, rfl⟩
        rw [← hr] at hs ⊢
        have q1 : (k == k) = true := by simp
        have q2 : (t == t) = true := by simp
        have q3 : ((a : Int) == (a : Int)) = true := by simp
        clear hr
        go_enter Try.func33, Try.ntmps33
        go_wp2_with fail
        refine hs.out.mono ?_
        rintro e w1 ⟨rfl, o1⟩
        go_wp2
        go_ret
        exact ⟨rfl, hO.trans0 o1⟩
      · rw [decide_eq_false h3]
        simp only [decide_true, Bool.true_and, Bool.false_and]
        have q1 : (k == k) = true := by simp
        have q2 : (t == t) = true := by simp
        have q3 : ((a : Int) == (a' : Int)) = false := by rw [beq_eq_false_iff_ne]; omega
        clear h3
        go_enter Try.func33, Try.ntmps33
        go_wp2
        go_ret
        exact ⟨rfl, hO⟩
    · rw [decide_eq_false h2]
      simp only [decide_true, Bool.true_and, Bool.false_and]
      have q1 : (k == k) = true := by simp
      have q2 : (t == t') = false := by rw [beq_eq_false_iff_ne]; exact h2
      clear h2
      go_enter Try.func33, Try.ntmps33
      go_wp2
      go_ret
      exact ⟨rfl, hO⟩
  · rw [decide_eq_false h1]
    simp only [Bool.false_and]
    have q1 : (k == k') = false := by rw [beq_eq_false_iff_ne]; exact h1
    clear h1
    go_enter Try.func33, Try.ntmps33
    go_wp2
    go_ret
    exact ⟨rfl, hO⟩

theorem enc_awake : encE 1 2 300 [] = (0, [1, 2, 172, 2, 0]) := by
  have h : rightB 1 2 300 ([] : List UInt8).length = true := by decide
  unfold encE
  rw [if_pos h]
  have e1 : numB 300 = [172, 2] := by
    rw [numB, if_neg (by omega), numB, if_pos (by omega)]
    rfl
  show (0, encB 1 2 300 []) = _
  unfold encB textB
  rw [numB_small 1 (by omega), numB_small 2 (by omega), e1, show ([] : List UInt8).length = 0 from rfl, numB_small 0 (by omega)]
  rfl
theorem dec_awake : decE [1, 2, 172, 2, 0] = (0, 1, 2, 300, []) := by decide +kernel

set_option maxRecDepth 20000 in
set_option maxHeartbeats 1600000 in
theorem awake14_any (w : World) : Calls Try.prog 27 #[] w fun e w' => e = .returned (.bool true) ∧ Only [] w w' := by
  have he := encode_any w 1 2 300 (.slice none 0 0) [] (Bs.empty (by unfold maxLen; omega)) (by omega)
  rw [enc_awake] at he
  have hd := fun W v (h : Bs W v [1, 2, 172, 2, 0]) => decode_any W v _ h
  unfold DecPost at hd
  simp only [dec_awake] at hd
  replace he := hid he
  replace hd := hid hd
  go_enter Try.func27, Try.ntmps27
  go_wp2_with fail
  refine he.out.mono ?_
  rintro e w1 ⟨v1, rfl, b1, o1⟩
  obtain ⟨xa, xc, rfl⟩ := bs_form' b1
  go_wp2_with fail
  refine (hd.out _ _ b1).mono ?_
  rintro e w2 ⟨o2, mv, rfl, bm⟩
  have b2 := b1.kept0 o2
  obtain ⟨ma, mc, rfl⟩ := bs_form' bm
  have hO2 := o1.trans0 o2
  clear he hd
  obtain ⟨w3, hw3⟩ : ∃ w3, w3 = (w2.alloc (Obj.cells #[.int .i64 1, .int .i64 2, .int .u64 300, .slice ma 0 mc] 40)).alloc (Obj.cells #[.int .u8 1, .int .u8 2, .int .u8 172, .int .u8 2, .int .u8 0] 5) := ⟨_, rfl⟩
  have o3 : Only [] w2 w3 := by rw [hw3]; exact ((Only.refl [] w2).alloc _).alloc _
  have c2 : w3.cell? ⟨w2.heap.size, 2, none⟩ = some (.int .u64 300) := by rw [hw3]; simp [go_sem]
  have bs : Bs w3 (.slice (some ⟨w2.heap.size + 1, 0, none⟩) 5 5) [1, 2, 172, 2, 0] := by
    have := cs_built (w2.alloc (Obj.cells #[.int .i64 1, .int .i64 2, .int .u64 300, .slice ma 0 mc] 40)) [.int .u8 1, .int .u8 2, .int .u8 172, .int .u8 2, .int .u8 0] 5 1 5 (0, 0) rfl (by omega)
    rw [World.size_alloc] at this
    rw [hw3]
    exact this
  have hsm := hid (same_any _ _ [1, 2, 172, 2, 0] [1, 2, 172, 2, 0] w3 (b2.kept0 o3) bs)
  go_wp2_with fail
  rw [← hw3]
  clear hw3
  refine hsm.out.mono ?_
  rintro e w4 ⟨rfl, o4⟩
  replace c2 := o4.cell c2 (by simp)
  clear hsm
  go_wp2
  go_ret
  exact ⟨rfl, (hO2.trans0 o3).trans0 o4⟩
end Go.Proofs.Ytiinfiaemiaamaa.Sh
