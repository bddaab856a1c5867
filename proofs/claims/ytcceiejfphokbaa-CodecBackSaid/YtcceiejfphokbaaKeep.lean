/- Small words: cells and marks that stay. -/
import Derived.Test.YtcceiejfphokbaaBase
namespace Go.Proofs.Ytcceiejfphokbaa.Sh
open Go Go.RowKit
theorem frozen_kept {w w' : World} {bs : List Nat} (ho : Only bs w w') {p : Addr} {v : Value} (hc : w.cell? p = some v) (hn : p.block ∉ bs) (hf : w.frozen? p = false) : w'.frozen? p = false := by
  rw [ho.frozen' (World.block_lt_of_cell? w p hc) hn]; exact hf
theorem cell_kept {w w' : World} {bs : List Nat} (ho : Only bs w w') {p : Addr} {v : Value} (hn : p.block ∉ bs) (h : w.cell? p = some v ∧ w.frozen? p = false) : w'.cell? p = some v ∧ w'.frozen? p = false :=
  ⟨ho.cell h.1 hn, frozen_kept ho h.1 hn h.2⟩
theorem set_cell {w : World} {b o : Nat} {u v : Value} (p : Addr) (hb : w.cell? ⟨b, o, none⟩ = some u ∧ w.frozen? ⟨b, o, none⟩ = false) {c : Value} (hp : w.cell? p = some c ∧ w.frozen? p = false) (hne : p ≠ ⟨b, o, none⟩) : (w.setCell ⟨b, o, none⟩ v).cell? p = some c ∧ (w.setCell ⟨b, o, none⟩ v).frozen? p = false :=
  ⟨by rw [World.cell?_setCell_other _ _ _ _ hne.symm]; exact hp.1, by simpa [go_sem] using hp.2⟩
theorem lt_cell {w : World} {b o : Nat} {v : Value} (h : w.cell? ⟨b, o, none⟩ = some v) : b < w.heap.size := by simpa using World.block_lt_of_cell? w _ h
end Go.Proofs.Ytcceiejfphokbaa.Sh
