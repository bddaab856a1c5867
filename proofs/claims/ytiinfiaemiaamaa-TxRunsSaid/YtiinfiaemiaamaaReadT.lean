/- Structs by value, read: orders. -/
import Derived.Test.YtiinfiaemiaamaaTxA
import Derived.Test.YtiinfiaemiaamaaRead
import Derived.Lib.SmallJoins
import Derived.ProofKit
namespace Go.Proofs.Ytiinfiaemiaamaa.Sh
open Go Go.RowKit Go.ChangeShapes Go.WideShapes

structure TxM where
  k : Int
  t : Int
  a : Nat
  m : List UInt8

/-- A value that is an order. -/
def TxRep (w : World) (v : Value) (T : TxM) : Prop := ∃ mv, v = txV T.k T.t T.a mv ∧ Bs w mv T.m ∧ (-9223372036854775808 ≤ T.k ∧ T.k ≤ 9223372036854775807) ∧ (-9223372036854775808 ≤ T.t ∧ T.t ≤ 9223372036854775807) ∧ T.a < 18446744073709551616

section
variable {H : Type} {enc : TypeId × Value → H} {P : Program} {w : World} {base : Nat} {spare : Nat → Bool} {held : Bool}
theorem read_tx {t ti tn tb te : TypeId} {f0 f1 f2 f3 : Field} {r : Reach} {b0 : Nat} {v : Value} {d : DataW H} {p : List MemPlace} (hs : P.underlying t = some (.struct #[f0, f1, f2, f3])) (hone : Deep.oneCellFields P #[f0, f1, f2, f3] = true) (hC : P.cellsOf t = 4)
    (t0 : f0.type = ti) (t1 : f1.type = ti) (t2 : f2.type = tn) (t3 : f3.type = tb) (hi : P.underlying ti = some (.int .i64)) (hn : P.underlying tn = some (.int .u64)) (hb : P.underlying tb = some (.slice te)) (he : P.underlying te = some (.int .u8)) (hce : P.cellsOf te = 1)
    (hv : Value.okWide P w r b0 t v) (h : DataW.Trod enc P w base spare held t v d p) : ∃ T : TxM, TxRep w v T := by
  obtain ⟨c0, c1, c2, c3, y0, y1, y2, y3, m, rfl, rfl, rfl, g0, g1, g2, g3⟩ := Joins.open_agg4 hs hone hC hv h
  rw [t0] at g0
  rw [t1] at g1
  rw [t2] at g2
  rw [t3] at g3
  obtain ⟨k0, hk0, _, hw0⟩ := DataW.trod_int hi g0
  obtain ⟨k1, hk1, _, hw1⟩ := DataW.trod_int hi g1
  obtain ⟨k2, hk2, _, hw2⟩ := DataW.trod_int hn g2
  obtain ⟨l, hl⟩ := read_bs hb he hce g3
  simp only [List.cons.injEq, and_true] at hk0 hk1 hk2
  subst hk0; subst hk1; subst hk2
  have v0 := wfi64 hw0
  have v1 := wfi64 hw1
  have v2 := wfu64 hw2
  refine ⟨⟨k0, k1, k2.toNat, l⟩, c3, ?_, hl, v0, v1, by show k2.toNat < _; omega⟩
  show Value.agg _ = Value.agg #[.int .i64 k0, .int .i64 k1, .int .u64 ((k2.toNat : Nat) : Int), c3]
  rw [show ((k2.toNat : Nat) : Int) = k2 by omega]
end
end Go.Proofs.Ytiinfiaemiaamaa.Sh
