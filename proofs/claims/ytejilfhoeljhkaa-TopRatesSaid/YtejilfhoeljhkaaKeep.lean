/- Small words: cells and marks that stay. -/
import Derived.Test.YtejilfhoeljhkaaBase
namespace Go.Proofs.Ytejilfhoeljhkaa.Sh
open Go Go.RowKit
theorem frozen_kept {w w' : World} {bs : List Nat} (ho : Only bs w w') {p : Addr} {v : Value} (hc : w.cell? p = some v) (hn : p.block ∉ bs) (hf : w.frozen? p = false) : w'.frozen? p = false := by
  rw [ho.frozen' (World.block_lt_of_cell? w p hc) hn]; exact hf
theorem cell_kept {w w' : World} {bs : List Nat} (ho : Only bs w w') {p : Addr} {v : Value} (hn : p.block ∉ bs) (h : w.cell? p = some v ∧ w.frozen? p = false) : w'.cell? p = some v ∧ w'.frozen? p = false :=
  ⟨ho.cell h.1 hn, frozen_kept ho h.1 hn h.2⟩
theorem set_cell {w : World} {b o : Nat} {u v : Value} (p : Addr) (hb : w.cell? ⟨b, o, none⟩ = some u ∧ w.frozen? ⟨b, o, none⟩ = false) {c : Value} (hp : w.cell? p = some c ∧ w.frozen? p = false) (hne : p ≠ ⟨b, o, none⟩) : (w.setCell ⟨b, o, none⟩ v).cell? p = some c ∧ (w.setCell ⟨b, o, none⟩ v).frozen? p = false :=
  ⟨by rw [World.cell?_setCell_other _ _ _ _ hne.symm]; exact hp.1, by simpa [go_sem] using hp.2⟩
theorem lt_cell {w : World} {b o : Nat} {v : Value} (h : w.cell? ⟨b, o, none⟩ = some v) : b < w.heap.size := by simpa using World.block_lt_of_cell? w _ h
theorem wfu64 {n : Int} (h : (Lit.int .u64 n).wf = true) : 0 ≤ n ∧ n < 18446744073709551616 := by
  simp only [Lit.wf, Bool.and_eq_true, decide_eq_true_eq] at h
  have h1 : IntKind.u64.min = 0 := rfl
  have h2 : IntKind.u64.max = 18446744073709551615 := rfl
  omega
theorem wfu8 {n : Int} (h : (Lit.int .u8 n).wf = true) : 0 ≤ n ∧ n < 256 := by
  simp only [Lit.wf, Bool.and_eq_true, decide_eq_true_eq] at h
  have h1 : IntKind.u8.min = 0 := rfl
  have h2 : IntKind.u8.max = 255 := rfl
  omega
theorem wfi64 {n : Int} (h : (Lit.int .i64 n).wf = true) : -9223372036854775808 ≤ n ∧ n ≤ 9223372036854775807 := by
  simp only [Lit.wf, Bool.and_eq_true, decide_eq_true_eq] at h
  have h1 : IntKind.i64.min = -9223372036854775808 := rfl
  have h2 : IntKind.i64.max = 9223372036854775807 := rfl
  omega
theorem u8_of {z : Int} (h : 0 ≤ z ∧ z < 256) : ∃ x : UInt8, z = (x.toNat : Int) := by
  refine ⟨UInt8.ofNat z.toNat, ?_⟩
  rw [UInt8.toNat_ofNat']
  omega
end Go.Proofs.Ytejilfhoeljhkaa.Sh
