/- Arguments, read: numbers, lists of calls. -/
import Derived.Test.YtiinfiaemiaamaaLedL
import Derived.Test.YtiinfiaemiaamaaRead
import Derived.Deep.Slices
import Derived.ProofKit
import Derived.ChangeArms
namespace Go.Proofs.Ytiinfiaemiaamaa.Sh
open Go Go.RowKit Go.ChangeShapes Go.WideShapes Go.Deep

section
variable {H : Type} {enc : TypeId × Value → H} {P : Program} {w : World} {base : Nat} {spare : Nat → Bool} {held : Bool}

theorem read_ns {t e : TypeId} {fuel : Nat} {v : Value} {x : DataW H × List MemPlace} (ht : P.underlying t = some (.slice e)) (he : P.underlying e = some (.int .u64)) (hc : P.cellsOf e = 1)
    (h : DataW.trod enc P w base spare held fuel t [v] = some x) : ∃ l, Ns w v l := by
  rcases open_ints ht he hc h with ⟨hcs, _⟩ | ⟨a, len, cap, zs, hcs, _, hl, hm, hz, _, hcell, hwz⟩
  · obtain rfl : v = .slice none 0 0 := by simpa using hcs
    exact ⟨[], ⟨by simp, none, 0, rfl, by simp, by unfold maxLen; omega, by simp, .inl rfl⟩, by simp⟩
  · obtain rfl : v = .slice (some a) len cap := by simpa using hcs
    have hzl : len ≤ zs.length := by rw [hz]; split <;> omega
    have hlen : ((zs.take len).map fun z => z.toNat).length = len := by simp; omega
    refine ⟨(zs.take len).map fun z => z.toNat, ⟨by simp, some a, cap, by rw [hlen], by omega, hm, by unfold maxLen at hm; omega, ?_⟩, ?_⟩
    · by_cases h0 : len = 0
      · left; subst h0; simp
      · right
        obtain ⟨b, o, sp⟩ := a
        have hs : sp = none := by simpa [Addr.add] using spot_none (hcell 0 (by omega))
        subst hs
        refine ⟨b, o, rfl, ?_⟩
        intro j u hj
        have hjl : j < len := by
          have := (List.getElem?_eq_some_iff.1 hj).1
          simp at this
          omega
        have h1 := hcell j (by omega)
        rw [Addr.add_mid] at h1
        rw [h1]
        have hzj : zs[j]? = some (zs[j]'(by omega)) := List.getElem?_eq_getElem (by omega)
        have hw := wfu64 (hwz (zs[j]'(by omega)) (List.getElem_mem _))
        have hg : zs.getD j 0 = zs[j]'(by omega) := by simp [List.getD, hzj]
        simp only [List.map_map, List.getElem?_map, List.getElem?_take, if_pos hjl, hzj, Option.map_some, Option.some.injEq, Function.comp] at hj
        rw [← hj, hg]
        congr 2
        omega
    · intro z hz'
      obtain ⟨y, hy, rfl⟩ := List.mem_map.1 hz'
      have hw := wfu64 (hwz y (List.mem_of_mem_take hy))
      omega

/-- Calls, read. -/
theorem read_ops {t e ti tn : TypeId} {f0 f1 f2 f3 : Field} {fuel : Nat} {v : Value} {x : DataW H × List MemPlace} (ht : P.underlying t = some (.slice e)) (he : P.underlying e = some (.struct #[f0, f1, f2, f3])) (hc : P.cellsOf e = 4)
    (o0 : f0.offset = 0) (o1 : f1.offset = 1) (o2 : f2.offset = 2) (o3 : f3.offset = 3) (t0 : f0.type = ti) (t1 : f1.type = ti) (t2 : f2.type = ti) (t3 : f3.type = tn)
    (hk : P.underlying ti = some (.int .i64)) (hn : P.underlying tn = some (.int .u64)) (c0 : P.cellsOf ti = 1) (c3 : P.cellsOf tn = 1)
    (h : DataW.trod enc P w base spare held fuel t [v] = some x) : ∃ l, Sh.Ops w v l := by
  rcases open_slice ht h with ⟨h0, _⟩ | ⟨a, len, cap, m, n, D, Pl, h0, _, hl, hm, hmm, _, hx⟩
  · obtain rfl : v = .slice none 0 0 := by simpa using h0
    exact ⟨[], none, 0, rfl, by simp, by unfold maxLen; omega, by simp, by simp, .inl rfl⟩
  · obtain rfl : v = .slice (some a) len cap := by simpa using h0
    have hml : len ≤ m := by rw [hmm]; split <;> omega
    have hone : ∀ i, i < len → ∃ st : LOp, st.ok ∧ w.cell? ((a.add (i * 4)).add 0) = some (.int .i64 st.kind) ∧ w.cell? ((a.add (i * 4)).add 1) = some (.int .i64 st.who) ∧ w.cell? ((a.add (i * 4)).add 2) = some (.int .i64 st.to) ∧ w.cell? ((a.add (i * 4)).add 3) = some (u64 st.n) := by
      intro i hi
      obtain ⟨cs', h1, h2⟩ := hx i (by omega)
      rw [hc] at h1
      obtain ⟨_, hlen, hat⟩ := World.cells?_some h1
      obtain ⟨ys, n', _, _, _, hyl, hf⟩ := DataW.trod_struct he h2
      match cs', hlen with
      | [u0, u1, u2, u3], _ =>
        have g0 := hf 0 f0 rfl
        have g1 := hf 1 f1 rfl
        have g2 := hf 2 f2 rfl
        have g3 := hf 3 f3 rfl
        rw [o0, t0, c0] at g0
        rw [o1, t1, c0] at g1
        rw [o2, t2, c0] at g2
        rw [o3, t3, c3] at g3
        have hy : ys.length = 4 := hyl
        obtain ⟨y0, y1, y2, y3, rfl⟩ : ∃ y0 y1 y2 y3, ys = [y0, y1, y2, y3] := by
          match ys, hy with
          | [p, q, r, s], _ => exact ⟨p, q, r, s, rfl⟩
        obtain ⟨k0, hk0, _, hw0⟩ := DataW.trod_int hk g0
        obtain ⟨k1, hk1, _, hw1⟩ := DataW.trod_int hk g1
        obtain ⟨k2, hk2, _, hw2⟩ := DataW.trod_int hk g2
        obtain ⟨k3, hk3, _, hw3⟩ := DataW.trod_int hn g3
        simp only [List.drop_zero, List.take_succ_cons, List.take_zero, List.cons.injEq, and_true] at hk0
        simp only [List.drop_succ_cons, List.drop_zero, List.take_succ_cons, List.take_zero, List.cons.injEq, and_true] at hk1 hk2 hk3
        subst hk0; subst hk1; subst hk2; subst hk3
        have v0 := wfi64 hw0
        have v1 := wfi64 hw1
        have v2 := wfi64 hw2
        have v3 := wfu64 hw3
        refine ⟨⟨k0, k1, k2, k3.toNat⟩, ⟨v0, v1, v2, by show k3.toNat < _; omega⟩, hat 0 (by omega), hat 1 (by omega), hat 2 (by omega), ?_⟩
        rw [hat 3 (by omega)]
        simp only [List.getElem?_cons_succ, List.getElem?_cons_zero, Option.some.injEq, Value.int.injEq, true_and]
        omega
    obtain ⟨l, hl2⟩ := all2_of (R := fun (i : Nat) (st : LOp) => st.ok ∧ w.cell? ((a.add (i * 4)).add 0) = some (.int .i64 st.kind) ∧ w.cell? ((a.add (i * 4)).add 1) = some (.int .i64 st.who) ∧ w.cell? ((a.add (i * 4)).add 2) = some (.int .i64 st.to) ∧ w.cell? ((a.add (i * 4)).add 3) = some (u64 st.n)) (List.range len) (fun i hi => hone i (by simpa using hi))
    have hlen : l.length = len := by
      have := hl2.length
      simpa using this.symm
    have hget : ∀ (i : Nat) (hi : i < l.length), l[i].ok ∧ w.cell? ((a.add (i * 4)).add 0) = some (.int .i64 l[i].kind) ∧ w.cell? ((a.add (i * 4)).add 1) = some (.int .i64 l[i].who) ∧ w.cell? ((a.add (i * 4)).add 2) = some (.int .i64 l[i].to) ∧ w.cell? ((a.add (i * 4)).add 3) = some (u64 l[i].n) := by
      intro i hi
      obtain ⟨j, hj, hR⟩ := hl2.get hi
      have : j = i := by
        rw [List.getElem?_range (by omega)] at hj
        simpa using hj.symm
      subst this
      exact hR
    refine ⟨l, some a, cap, by rw [hlen], by omega, hm, by unfold maxLen at hm; omega, ?_, ?_⟩
    · intro st hst
      obtain ⟨i, hi, rfl⟩ := List.getElem_of_mem hst
      exact (hget i hi).1
    · by_cases h0 : len = 0
      · left; exact List.eq_nil_of_length_eq_zero (by omega)
      · right
        obtain ⟨b, o, sp⟩ := a
        have hsp : sp = none := by
          have := spot_none (hget 0 (by omega)).2.1
          simpa [Addr.add] using this
        subst hsp
        refine ⟨b, o, rfl, fun i hi => ?_⟩
        obtain ⟨_, q0, q1, q2, q3⟩ := hget i hi
        rw [Addr.add_mid, Addr.add_mid] at q0 q1 q2 q3
        exact ⟨q0, q1, q2, q3⟩
end
end Go.Proofs.Ytiinfiaemiaamaa.Sh
