/- Frames laid one behind the other: plain. (Parted out of LawCrcAll, LawCrcBack, whose marks want shroudlaw09.) -/
import Derived.Test.YtnlmeaijnfjakaaPlAll
namespace Go.Proofs.Ytnlmeaijnfjakaa.Sh
set_option linter.unusedSimpArgs false
set_option linter.unusedVariables false
open Go Go.RowKit

def flatL (ls : List (List UInt8)) : List UInt8 := (ls.map frameL).flatten
theorem flatL_succ (ls : List (List UInt8)) (k : Nat) (h : k < ls.length) : flatL (ls.take (k + 1)) = flatL (ls.take k) ++ frameL ls[k] := by
  unfold flatL
  rw [List.take_succ_eq_append_getElem h, List.map_append, List.flatten_append]
  simp
theorem flatL_le (ls : List (List UInt8)) (k : Nat) : (flatL (ls.take k)).length ≤ (flatL ls).length := by
  have : flatL ls = flatL (ls.take k) ++ flatL (ls.drop k) := by
    unfold flatL
    rw [← List.flatten_append, ← List.map_append, List.take_append_drop]
  rw [this, List.length_append]; omega

theorem flatL_cons (x : List UInt8) (r : List (List UInt8)) : flatL (x :: r) = frameL x ++ flatL r := by simp [flatL]
theorem flatL_append (x r : List (List UInt8)) : flatL (x ++ r) = flatL x ++ flatL r := by simp [flatL]

theorem allL_pre (ls : List (List UInt8)) (r : List UInt8) (h : ∀ x ∈ ls, 1 ≤ x.length ∧ x.length ≤ 1000) : allL (flatL ls ++ r) = (ls ++ (allL r).1, (flatL ls).length + (allL r).2) := by
  induction ls with
  | nil => simp [flatL]
  | cons x t ih =>
    have hx := h x (by simp)
    rw [flatL_cons, List.append_assoc, allL_append _ _ hx.1 hx.2, ih (fun y hy => h y (by simp [hy]))]
    simp [frameL_length, Nat.add_assoc]

/-- What is whole of frames cut off. -/
theorem allL_cutAt (ls : List (List UInt8)) (h : ∀ x ∈ ls, 1 ≤ x.length ∧ x.length ≤ 1000) (k m : Nat) (hm : (flatL (ls.take m)).length ≤ k) (hn : m < ls.length → k < (flatL (ls.take (m + 1))).length) :
    allL ((flatL ls).take k) = (ls.take m, (flatL (ls.take m)).length) := by
  have e : flatL ls = flatL (ls.take m) ++ flatL (ls.drop m) := by rw [← flatL_append, List.take_append_drop]
  rw [e, List.take_append, List.take_of_length_le hm, allL_pre _ _ (fun x hx => h x (List.mem_of_mem_take hx))]
  by_cases hl : m < ls.length
  · have hx := h _ (List.getElem_mem hl)
    have := hn hl
    rw [flatL_succ ls m hl, List.length_append, frameL_length] at this
    rw [List.drop_eq_getElem_cons hl, flatL_cons, allL_bad _ (firstL_cut _ _ _ hx.1 hx.2 (by omega))]
    simp
  · rw [List.drop_of_length_le (by omega)]
    simp [flatL, allL_bad [] (by simp [firstL])]

theorem Bss.pre {w : World} {a : Option Addr} {cap n : Nat} {ls : List (List UInt8)} (h : Bss w (.slice a n cap) ls) (m : Nat) (hm : m ≤ ls.length) : Bss w (.slice a m cap) (ls.take m) := by
  obtain ⟨vs, ⟨hl, a', cap', he, h1, h2, h3, h4⟩, hall⟩ := h
  simp only [Value.slice.injEq] at he
  obtain ⟨rfl, _, rfl⟩ := he
  have hml : (ls.take m).length = m := by simp; omega
  refine ⟨vs.take m, ⟨by simp; omega, a, cap, by rw [hml], by omega, h2, by omega, ?_⟩, hall.take m⟩
  rcases h4 with h4 | ⟨b, o, rfl, h4⟩
  · left; simp [h4]
  · right
    refine ⟨b, o, rfl, fun j u hj => h4 j u ?_⟩
    rw [List.getElem?_take] at hj
    split at hj
    · exact hj
    · cases hj

theorem flatL_small (ls : List (List UInt8)) (h : ∀ x ∈ ls, 1 ≤ x.length ∧ x.length ≤ 60) : (flatL ls).length ≤ 66 * ls.length := by
  induction ls with
  | nil => simp [flatL]
  | cons x t ih =>
    have := ih (fun y hy => h y (by simp [hy]))
    have hx := h x (by simp)
    rw [flatL_cons, List.length_append, frameL_length, List.length_cons]
    omega
end Go.Proofs.Ytnlmeaijnfjakaa.Sh
