/- All frames: plain laws. -/
import Derived.Test.YtnlmeaijnfjakaaRefB
import Derived.Test.YtnlmeaijnfjakaaCrcE
namespace Go.Proofs.Ytnlmeaijnfjakaa.Sh
set_option linter.unusedSimpArgs false
set_option linter.unusedVariables false
open Go Go.RowKit

theorem firstL_frame (l : List UInt8) (h : (firstL l).1 = 0) : frameL ((l.drop 6).take (firstL l).2) = l.take (6 + (firstL l).2) := by
  have hb := firstL_le l h
  have hn : (firstL l).2 = (getF (l.take 2)).toNat ∧ getF ((l.drop 2).take 4) = crcOf ((l.drop 6).take (firstL l).2) := by
    unfold firstL at *
    split at h
    · cases h
    split at h
    · cases h
    split at h
    · cases h
    split at h
    · rename_i h1 h2 h3 h4
      rw [if_neg h1, if_neg h2, if_neg h3, if_pos h4]
      exact ⟨rfl, h4⟩
    · cases h
  obtain ⟨n, hnn⟩ : ∃ n, n = (firstL l).2 := ⟨_, rfl⟩
  rw [← hnn] at hn hb ⊢
  unfold frameL
  have hlen : ((l.drop 6).take n).length = n := by simp; omega
  rw [hlen, ← hn.2]
  obtain ⟨a, b, c, d, he⟩ := four_form ((l.drop 2).take 4) (by simp; omega)
  rw [he, put_get, ← he, hn.1, two_form l (by omega), put_get2, ← two_form l (by omega), ← hn.1]
  rw [show 6 + n = 2 + (4 + n) by omega, List.take_add, List.take_add, List.drop_drop, List.append_assoc]

theorem allL_flat (n : Nat) : ∀ l : List UInt8, l.length ≤ n → ((allL l).1.map frameL).flatten = l.take (allL l).2 ∧ ∀ x ∈ (allL l).1, 1 ≤ x.length ∧ x.length ≤ 1000 := by
  induction n with
  | zero =>
    intro l hl
    have : l = [] := List.eq_nil_of_length_eq_zero (by omega)
    subst this
    rw [allL_bad [] (by simp [firstL])]
    simp
  | succ n ih =>
    intro l hl
    by_cases h : (firstL l).1 = 0
    · have hb := firstL_le l h
      obtain ⟨h1, h2⟩ := ih (l.drop (6 + (firstL l).2)) (by simp; omega)
      rw [allL_good l h]
      constructor
      · simp only [List.map_cons, List.flatten_cons]
        rw [h1, firstL_frame l h, ← List.take_add]
      · intro x hx
        simp only [List.mem_cons] at hx
        rcases hx with rfl | hx
        · simp; omega
        · exact h2 x hx
    · rw [allL_bad l h]; simp

/-- A frame ahead of anything is read as it was. -/
theorem firstL_append (x r : List UInt8) (h1 : 1 ≤ x.length) (h2 : x.length ≤ 1000) : firstL (frameL x ++ r) = (0, x.length) := by
  have hp2 := putL_length x.length 2
  have hp4 := putL_length (crcOf x).toNat 4
  have e1 : (frameL x ++ r).take 2 = putL x.length 2 := by
    unfold frameL
    rw [List.append_assoc, List.append_assoc, List.take_left' hp2]
  have e2 : ((frameL x ++ r).drop 2).take 4 = putL (crcOf x).toNat 4 := by
    unfold frameL
    rw [List.append_assoc, List.append_assoc, List.drop_left' hp2, List.take_left' hp4]
  have e3 : ((frameL x ++ r).drop 6).take x.length = x := by
    unfold frameL
    rw [List.append_assoc, List.drop_left' (by simp [hp2, hp4]), List.take_left' rfl]
  have hlen : (frameL x ++ r).length = 6 + x.length + r.length := by rw [List.length_append, frameL_length]
  unfold firstL
  rw [e1, get_put2 _ (by omega), e2, get_put, e3, if_neg (by omega), if_neg (by omega), if_neg (by omega), if_pos rfl]

theorem allL_append (x r : List UInt8) (h1 : 1 ≤ x.length) (h2 : x.length ≤ 1000) : allL (frameL x ++ r) = (x :: (allL r).1, 6 + x.length + (allL r).2) := by
  have hf := firstL_append x r h1 h2
  rw [allL_good _ (by rw [hf]), hf]
  have e3 : ((frameL x ++ r).drop 6).take x.length = x := by
    unfold frameL
    rw [List.append_assoc, List.drop_left' (by simp [putL_length]), List.take_left' rfl]
  rw [e3, List.drop_left' (by rw [frameL_length])]

/-- A part of a frame, cut ahead of its end, is no frame. -/
theorem firstL_cut (x r : List UInt8) (k : Nat) (h1 : 1 ≤ x.length) (h2 : x.length ≤ 1000) (hk : k < 6 + x.length) : (firstL ((frameL x ++ r).take k)).1 ≠ 0 := by
  intro h
  have hb := firstL_le _ h
  have hl : ((frameL x ++ r).take k).length = k := by
    rw [List.length_take, List.length_append, frameL_length]; omega
  have hn : (firstL ((frameL x ++ r).take k)).2 = (getF (((frameL x ++ r).take k).take 2)).toNat := by
    unfold firstL at *
    split at h
    · cases h
    split at h
    · cases h
    split at h
    · cases h
    split at h
    · rename_i g1 g2 g3 g4
      rw [if_neg g1, if_neg g2, if_neg g3, if_pos g4]
    · cases h
  have e1 : ((frameL x ++ r).take k).take 2 = putL x.length 2 := by
    rw [List.take_take, show min 2 k = 2 by omega]
    unfold frameL
    rw [List.append_assoc, List.append_assoc, List.take_left' (putL_length _ _)]
  rw [e1, get_put2 _ (by omega)] at hn
  omega

/-- How many of the frames end at or ahead of a place, and where the last of these ends. -/
def wholeL (at_ k : Nat) : List (List UInt8) → Nat × Nat
  | [] => (0, at_)
  | x :: r => if at_ + (6 + x.length) ≤ k then ((wholeL (at_ + (6 + x.length)) k r).1 + 1, (wholeL (at_ + (6 + x.length)) k r).2) else (0, at_)

theorem allL_cut (ls : List (List UInt8)) (k : Nat) (h : ∀ x ∈ ls, 1 ≤ x.length ∧ x.length ≤ 1000) : ∀ at_ : Nat, at_ ≤ k → allL ((ls.map frameL).flatten.take (k - at_)) = (ls.take (wholeL at_ k ls).1, (wholeL at_ k ls).2 - at_) := by
  induction ls with
  | nil =>
    intro at_ hk
    simp [wholeL, allL_bad [] (by simp [firstL])]
  | cons x r ih =>
    intro at_ hk
    have hx := h x (by simp)
    simp only [List.map_cons, List.flatten_cons, wholeL]
    split
    · rename_i hle
      have hfl := frameL_length x
      have ih' := ih (fun y hy => h y (by simp [hy])) (at_ + (6 + x.length)) hle
      rw [List.take_append, List.take_of_length_le (by omega), allL_append _ _ hx.1 hx.2, hfl, show k - at_ - (6 + x.length) = k - (at_ + (6 + x.length)) by omega, ih']
      have hge : ∀ (r : List (List UInt8)) (a : Nat), a ≤ (wholeL a k r).2 := by
        intro r
        induction r with
        | nil => intro a; simp [wholeL]
        | cons y r ih2 =>
          intro a
          simp only [wholeL]
          split
          · have := ih2 (a + (6 + y.length)); simp only; omega
          · simp
      have := hge r (at_ + (6 + x.length))
      simp only [List.take_succ_cons, Prod.mk.injEq, true_and]
      omega
    · rename_i hle
      rw [allL_bad _ (firstL_cut x _ (k - at_) hx.1 hx.2 (by omega))]
      simp

theorem allL_frames (ls : List (List UInt8)) (h : ∀ x ∈ ls, 1 ≤ x.length ∧ x.length ≤ 1000) : allL (ls.map frameL).flatten = (ls, (ls.map frameL).flatten.length) := by
  induction ls with
  | nil => simp [allL_bad [] (by simp [firstL])]
  | cons x r ih =>
    have hx := h x (by simp)
    have ih' := ih (fun y hy => h y (by simp [hy]))
    simp only [List.map_cons, List.flatten_cons]
    rw [allL_append _ _ hx.1 hx.2, ih']
    simp [frameL_length]
end Go.Proofs.Ytnlmeaijnfjakaa.Sh
