/- The block behind a slice of bytes. -/
import Derived.Test.YtnlmeaijnfjakaaCodecE
namespace Go.Proofs.Ytnlmeaijnfjakaa.Sh
set_option linter.unusedSimpArgs false
set_option linter.unusedVariables false
open Go Go.RowKit

theorem Bs.fb {w : World} {v : Value} {l : List UInt8} (h : Bs w v l) : ∃ fb, (∀ b, v.ownBlock = some b → l = [] ∨ b = fb) ∧ fb ≤ w.heap.size ∧ (l = [] ∨ fb < w.heap.size) := by
  by_cases hl : 0 < l.length
  · obtain ⟨b, o, c, rfl, _, _, _, hat⟩ := h.form hl
    have := World.block_lt_of_cell? w _ (hat 0 (vU8 l[0]) (bytes_get hl))
    simp only at this
    exact ⟨b, fun b' hb' => .inr (by simpa [Value.ownBlock] using hb'.symm), by omega, .inr this⟩
  · have : l = [] := List.eq_nil_of_length_eq_zero (by omega)
    exact ⟨0, fun _ _ => .inl this, by omega, .inl this⟩
end Go.Proofs.Ytnlmeaijnfjakaa.Sh
