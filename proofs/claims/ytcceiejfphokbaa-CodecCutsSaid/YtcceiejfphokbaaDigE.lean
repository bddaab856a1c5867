/- Digests compared; steps read out of the form. -/
import Derived.Test.YtcceiejfphokbaaDigC
import Derived.Deep.Slices
import Derived.Laws.StructEq
import Derived.ProofKit
import Derived.ChangeArms
namespace Go.Proofs.Ytcceiejfphokbaa.Sh
open Go Go.RowKit Go.ChangeShapes Go.WideShapes Go.Deep

theorem eql_dig (a b : List UInt8) (ha : a.length = 32) (hb : b.length = 32) (w : World) : (binOp .eql 62 (vD a) (vD b)).run Try.prog w = .ok (.bool (a == b)) w := by
  have h : (Op.equalIn (9998 + 2) 62 (vD a) (vD b)).run Try.prog w = .ok (a == b) w :=
    run_equalIn_bytes w 9998 62 5 32 Try.underlying62 Try.underlying5 (fun w => by kernel_rfl) a b ha hb
  exact (run_eql_struct (P := Try.prog) (w := w) _ _ _).trans (by rw [show (Op.equalIn 10000 62 (.agg (bytes a).toArray) (.agg (bytes b).toArray)).run Try.prog w = .ok (a == b) w from h]; rfl)

section
variable {H : Type} {enc : TypeId × Value → H} {P : Program} {w : World} {base : Nat} {spare : Nat → Bool} {held : Bool}

/-- Steps, read. -/
theorem read_steps {t e tk tn ts tb : TypeId} {f0 f1 f2 : Field} {fuel : Nat} {v : Value} {x : DataW H × List MemPlace} (ht : P.underlying t = some (.slice e)) (he : P.underlying e = some (.struct #[f0, f1, f2])) (hc : P.cellsOf e = 3)
    (o0 : f0.offset = 0) (o1 : f1.offset = 1) (o2 : f2.offset = 2) (t0 : f0.type = tk) (t1 : f1.type = tn) (t2 : f2.type = ts)
    (hk : P.underlying tk = some (.int .i64)) (hn : P.underlying tn = some (.int .u64)) (hs : P.underlying ts = some (.slice tb)) (hb : P.underlying tb = some (.int .u8)) (c0 : P.cellsOf tk = 1) (c1 : P.cellsOf tn = 1) (c2 : P.cellsOf ts = 1) (cb : P.cellsOf tb = 1)
    (h : DataW.trod enc P w base spare held fuel t [v] = some x) : ∃ l, Steps w v l := by
  rcases open_slice ht h with ⟨h0, _⟩ | ⟨a, len, cap, m, n, D, Pl, h0, _, hl, hm, hmm, _, hx⟩
  · obtain rfl : v = .slice none 0 0 := by simpa using h0
    exact ⟨[], none, 0, rfl, by simp, by unfold maxLen; omega, by simp, by simp, .inl rfl⟩
  · obtain rfl : v = .slice (some a) len cap := by simpa using h0
    have hml : len ≤ m := by rw [hmm]; split <;> omega
    have hone : ∀ i, i < len → ∃ st : Stp, st.ok ∧ w.cell? ((a.add (i * 3)).add 0) = some (.int .i64 st.kind) ∧ w.cell? ((a.add (i * 3)).add 1) = some (.int .u64 st.n) ∧ ∃ y, w.cell? ((a.add (i * 3)).add 2) = some y ∧ Bs w y st.s := by
      intro i hi
      obtain ⟨cs', h1, h2⟩ := hx i (by omega)
      rw [hc] at h1
      obtain ⟨_, hlen, hat⟩ := World.cells?_some h1
      obtain ⟨ys, n', _, _, _, hyl, hf⟩ := DataW.trod_struct he h2
      match cs', hlen with
      | [u0, u1, u2], _ =>
        have g0 := hf 0 f0 rfl
        have g1 := hf 1 f1 rfl
        have g2 := hf 2 f2 rfl
        rw [o0, t0, c0] at g0
        rw [o1, t1, c1] at g1
        rw [o2, t2, c2] at g2
        have hy : ys.length = 3 := hyl
        obtain ⟨y0, y1, y2, rfl⟩ : ∃ y0 y1 y2, ys = [y0, y1, y2] := by
          match ys, hy with
          | [p, q, r], _ => exact ⟨p, q, r, rfl⟩
        obtain ⟨k0, hk0, _, hw0⟩ := DataW.trod_int hk g0
        obtain ⟨k1, hk1, _, hw1⟩ := DataW.trod_int hn g1
        obtain ⟨b2, hb2⟩ := read_bs hs hb cb g2
        simp only [List.drop_zero, List.take_succ_cons, List.take_zero, List.cons.injEq, and_true] at hk0
        simp only [List.drop_succ_cons, List.drop_zero, List.take_succ_cons, List.take_zero, List.cons.injEq, and_true] at hk1
        subst hk0; subst hk1
        simp only [Lit.wf, Bool.and_eq_true, decide_eq_true_eq] at hw0 hw1
        have m1 : IntKind.i64.min = -9223372036854775808 := rfl
        have m2 : IntKind.i64.max = 9223372036854775807 := rfl
        have m3 : IntKind.u64.min = 0 := rfl
        have m4 : IntKind.u64.max = 18446744073709551615 := rfl
        refine ⟨⟨k0, k1.toNat, b2⟩, ⟨by show -9223372036854775808 ≤ k0; omega, by show k0 ≤ 9223372036854775807; omega, by show k1.toNat < 18446744073709551616; omega⟩, hat 0 (by omega), ?_, u2, hat 2 (by omega), hb2⟩
        rw [hat 1 (by omega)]
        simp only [List.getElem?_cons_succ, List.getElem?_cons_zero, Option.some.injEq, Value.int.injEq, true_and]
        omega
    obtain ⟨l, hl2⟩ := all2_of (R := fun (i : Nat) (st : Stp) => st.ok ∧ w.cell? ((a.add (i * 3)).add 0) = some (.int .i64 st.kind) ∧ w.cell? ((a.add (i * 3)).add 1) = some (.int .u64 st.n) ∧ ∃ y, w.cell? ((a.add (i * 3)).add 2) = some y ∧ Bs w y st.s) (List.range len) (fun i hi => hone i (by simpa using hi))
    have hlen : l.length = len := by
      have := hl2.length
      simpa using this.symm
    have hget : ∀ (i : Nat) (hi : i < l.length), l[i].ok ∧ w.cell? ((a.add (i * 3)).add 0) = some (.int .i64 l[i].kind) ∧ w.cell? ((a.add (i * 3)).add 1) = some (.int .u64 l[i].n) ∧ ∃ y, w.cell? ((a.add (i * 3)).add 2) = some y ∧ Bs w y l[i].s := by
      intro i hi
      obtain ⟨j, hj, hR⟩ := hl2.get hi
      have : j = i := by
        rw [List.getElem?_range (by omega)] at hj
        simpa using hj.symm
      subst this
      exact hR
    refine ⟨l, some a, cap, by rw [hlen], by omega, hm, by unfold maxLen at hm; omega, ?_, ?_⟩
    · intro st hst
      obtain ⟨i, hi, rfl⟩ := List.getElem_of_mem hst
      exact (hget i hi).1
    · by_cases h0 : len = 0
      · left; exact List.eq_nil_of_length_eq_zero (by omega)
      · right
        obtain ⟨b, o, sp⟩ := a
        have hsp : sp = none := by
          have := spot_none (hget 0 (by omega)).2.1
          simpa [Addr.add] using this
        subst hsp
        refine ⟨b, o, rfl, fun i hi => ?_⟩
        obtain ⟨_, q0, q1, y, q2, q3⟩ := hget i hi
        rw [Addr.add_mid, Addr.add_mid] at q0 q1 q2
        exact ⟨q0, q1, y, q2, q3⟩
end
end Go.Proofs.Ytcceiejfphokbaa.Sh
