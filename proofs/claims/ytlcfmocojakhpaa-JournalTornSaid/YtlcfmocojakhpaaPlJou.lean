/- A log's bytes cut off behind what is fast: plain. -/
import Derived.Test.YtlcfmocojakhpaaPlFlat
namespace Go.Proofs.Ytlcfmocojakhpaa.Sh
open Go Go.RowKit

theorem whole_at (ls : List (List UInt8)) (K : Nat) : ∀ d q, q + d = ls.length → (flatL (ls.take q)).length ≤ K → ∃ q', q ≤ q' ∧ q' ≤ ls.length ∧ (flatL (ls.take q')).length ≤ K ∧ (q' < ls.length → K < (flatL (ls.take (q' + 1))).length) := by
  intro d
  induction d with
  | zero => intro q hq h; exact ⟨q, Nat.le_refl _, by omega, h, fun h => by omega⟩
  | succ d ih =>
    intro q hq h
    by_cases hk : K < (flatL (ls.take (q + 1))).length
    · exact ⟨q, Nat.le_refl _, by omega, h, fun _ => hk⟩
    · obtain ⟨q', h1, h2⟩ := ih (q + 1) (by omega) (by omega)
      exact ⟨q', by omega, h2⟩

/-- What is there behind a cut: whole frames, all that were fast among them. -/
theorem cut_prefix (ls : List (List UInt8)) (h : ∀ x ∈ ls, 1 ≤ x.length ∧ x.length ≤ 1000) (j p : Nat) (f l : List UInt8) (hj : j ≤ ls.length) (hf : f = flatL (ls.take j)) (hfl : f ++ l = flatL ls) (hp : p ≤ l.length) :
    ∃ q, j ≤ q ∧ q ≤ ls.length ∧ allL (f ++ l.take p) = (ls.take q, (flatL (ls.take q)).length) ∧ (f ++ l.take p).take (flatL (ls.take q)).length = flatL (ls.take q) := by
  have e : f ++ l.take p = (flatL ls).take (f.length + p) := by
    rw [← hfl, List.take_append, List.take_of_length_le (l := f) (by omega), Nat.add_sub_cancel_left]
  obtain ⟨q, h1, h2, h3, h4⟩ := whole_at ls (f.length + p) (ls.length - j) j (by omega) (by rw [← hf]; omega)
  refine ⟨q, h1, h2, by rw [e]; exact allL_cutAt ls h _ q h3 h4, ?_⟩
  rw [e, List.take_take, Nat.min_eq_left h3]
  have e2 : flatL ls = flatL (ls.take q) ++ flatL (ls.drop q) := by rw [← flatL_append, List.take_append_drop]
  rw [e2, List.take_append, List.take_of_length_le (Nat.le_refl _), Nat.sub_self, List.take_zero, List.append_nil]
end Go.Proofs.Ytlcfmocojakhpaa.Sh
