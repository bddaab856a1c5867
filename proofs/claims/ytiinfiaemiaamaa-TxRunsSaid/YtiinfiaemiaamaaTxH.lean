/- Lists of orders, read; the document's orders, done: walked. -/
import Derived.Test.YtiinfiaemiaamaaTxG
import Derived.Test.YtiinfiaemiaamaaLedI
import Derived.Deep.Slices
import Derived.ChangeArms
namespace Go.Proofs.Ytiinfiaemiaamaa.Sh
open Go Go.RowKit Go.ChangeShapes Go.WideShapes Go.Deep

def TxM.ok (x : TxM) : Prop := (-9223372036854775808 ≤ x.k ∧ x.k ≤ 9223372036854775807) ∧ (-9223372036854775808 ≤ x.t ∧ x.t ≤ 9223372036854775807) ∧ x.a < 18446744073709551616

/-- An element of a list of orders. -/
def TxEl (w : World) (b o : Nat) (x : TxM) : Prop :=
  w.cell? ⟨b, o, none⟩ = some (.int .i64 x.k) ∧ w.cell? ⟨b, o + 1, none⟩ = some (.int .i64 x.t) ∧ w.cell? ⟨b, o + 2, none⟩ = some (.int .u64 (x.a : Int)) ∧ ∃ mv, w.cell? ⟨b, o + 3, none⟩ = some mv ∧ Bs w mv x.m
/-- A slice of orders. -/
def Txs (w : World) (v : Value) (l : List TxM) : Prop :=
  ∃ a cap, v = .slice a l.length cap ∧ l.length ≤ cap ∧ cap ≤ maxLen ∧ l.length ≤ 9223372036854775807 ∧ (∀ x ∈ l, x.ok) ∧
    (l = [] ∨ ∃ b o, a = some ⟨b, o, none⟩ ∧ ∀ (i : Nat) (h : i < l.length), TxEl w b (o + i * 4) l[i])
theorem Txs.at {w : World} {a : Option Addr} {n cap : Nat} {l : List TxM} (h : Txs w (.slice a n cap) l) (k : Nat) (hk : k < l.length) : ∃ b o, a = some ⟨b, o, none⟩ ∧ TxEl w b (o + k * 4) l[k] := by
  obtain ⟨a', cap', he, _, _, _, _, h5⟩ := h
  simp only [Value.slice.injEq] at he
  obtain ⟨rfl, _, rfl⟩ := he
  rcases h5 with h5 | ⟨b, o, rfl, h5⟩
  · subst h5; simp at hk
  · exact ⟨b, o, rfl, h5 k hk⟩
theorem Txs.form {w : World} {v : Value} {l : List TxM} (h : Txs w v l) : ∃ a cap, v = .slice a l.length cap ∧ l.length ≤ cap ∧ cap ≤ maxLen ∧ l.length ≤ 9223372036854775807 := by
  obtain ⟨a, cap, rfl, h1, h2, h3, _⟩ := h
  exact ⟨a, cap, rfl, h1, h2, h3⟩

section
variable {H : Type} {enc : TypeId × Value → H} {P : Program} {w : World} {base : Nat} {spare : Nat → Bool} {held : Bool}
theorem read_txs {t e ti tn ts tb : TypeId} {f0 f1 f2 f3 : Field} {fuel : Nat} {v : Value} {x : DataW H × List MemPlace} (ht : P.underlying t = some (.slice e)) (he : P.underlying e = some (.struct #[f0, f1, f2, f3])) (hc : P.cellsOf e = 4)
    (o0 : f0.offset = 0) (o1 : f1.offset = 1) (o2 : f2.offset = 2) (o3 : f3.offset = 3) (t0 : f0.type = ti) (t1 : f1.type = ti) (t2 : f2.type = tn) (t3 : f3.type = ts)
    (hk : P.underlying ti = some (.int .i64)) (hn : P.underlying tn = some (.int .u64)) (hs : P.underlying ts = some (.slice tb)) (hb : P.underlying tb = some (.int .u8)) (c0 : P.cellsOf ti = 1) (c2 : P.cellsOf tn = 1) (c3 : P.cellsOf ts = 1) (cb : P.cellsOf tb = 1)
    (h : DataW.trod enc P w base spare held fuel t [v] = some x) : ∃ l, Txs w v l := by
  rcases open_slice ht h with ⟨h0, _⟩ | ⟨a, len, cap, m, n, D, Pl, h0, _, hl, hm, hmm, _, hx⟩
  · obtain rfl : v = .slice none 0 0 := by simpa using h0
    exact ⟨[], none, 0, rfl, by simp, by unfold maxLen; omega, by simp, by simp, .inl rfl⟩
  · obtain rfl : v = .slice (some a) len cap := by simpa using h0
    have hml : len ≤ m := by rw [hmm]; split <;> omega
    have hone : ∀ i, i < len → ∃ st : TxM, st.ok ∧ w.cell? ((a.add (i * 4)).add 0) = some (.int .i64 st.k) ∧ w.cell? ((a.add (i * 4)).add 1) = some (.int .i64 st.t) ∧ w.cell? ((a.add (i * 4)).add 2) = some (.int .u64 (st.a : Int)) ∧ ∃ y, w.cell? ((a.add (i * 4)).add 3) = some y ∧ Bs w y st.m := by
      intro i hi
      obtain ⟨cs', h1, h2⟩ := hx i (by omega)
      rw [hc] at h1
      obtain ⟨_, hlen, hat⟩ := World.cells?_some h1
      obtain ⟨ys, n', _, _, _, hyl, hf⟩ := DataW.trod_struct he h2
      match cs', hlen with
      | [u0, u1, u2, u3], _ =>
        have g0 := hf 0 f0 rfl
        have g1 := hf 1 f1 rfl
        have g2 := hf 2 f2 rfl
        have g3 := hf 3 f3 rfl
        rw [o0, t0, c0] at g0
        rw [o1, t1, c0] at g1
        rw [o2, t2, c2] at g2
        rw [o3, t3, c3] at g3
        have hy : ys.length = 4 := hyl
        obtain ⟨y0, y1, y2, y3, rfl⟩ : ∃ y0 y1 y2 y3, ys = [y0, y1, y2, y3] := by
          match ys, hy with
          | [p, q, r, s], _ => exact ⟨p, q, r, s, rfl⟩
        obtain ⟨k0, hk0, _, hw0⟩ := DataW.trod_int hk g0
        obtain ⟨k1, hk1, _, hw1⟩ := DataW.trod_int hk g1
        obtain ⟨k2, hk2, _, hw2⟩ := DataW.trod_int hn g2
        obtain ⟨b3, hb3⟩ := read_bs hs hb cb g3
        simp only [List.drop_zero, List.take_succ_cons, List.take_zero, List.cons.injEq, and_true] at hk0
        simp only [List.drop_succ_cons, List.drop_zero, List.take_succ_cons, List.take_zero, List.cons.injEq, and_true] at hk1 hk2
        subst hk0; subst hk1; subst hk2
        have v0 := wfi64 hw0
        have v1 := wfi64 hw1
        have v2 := wfu64 hw2
        refine ⟨⟨k0, k1, k2.toNat, b3⟩, ⟨v0, v1, by show k2.toNat < _; omega⟩, hat 0 (by omega), hat 1 (by omega), ?_, u3, hat 3 (by omega), hb3⟩
        rw [hat 2 (by omega)]
        simp only [List.getElem?_cons_succ, List.getElem?_cons_zero, Option.some.injEq, Value.int.injEq, true_and]
        omega
    obtain ⟨l, hl2⟩ := all2_of (R := fun (i : Nat) (st : TxM) => st.ok ∧ w.cell? ((a.add (i * 4)).add 0) = some (.int .i64 st.k) ∧ w.cell? ((a.add (i * 4)).add 1) = some (.int .i64 st.t) ∧ w.cell? ((a.add (i * 4)).add 2) = some (.int .u64 (st.a : Int)) ∧ ∃ y, w.cell? ((a.add (i * 4)).add 3) = some y ∧ Bs w y st.m) (List.range len) (fun i hi => hone i (by simpa using hi))
    have hlen : l.length = len := by
      have := hl2.length
      simpa using this.symm
    have hget : ∀ (i : Nat) (hi : i < l.length), l[i].ok ∧ w.cell? ((a.add (i * 4)).add 0) = some (.int .i64 l[i].k) ∧ w.cell? ((a.add (i * 4)).add 1) = some (.int .i64 l[i].t) ∧ w.cell? ((a.add (i * 4)).add 2) = some (.int .u64 (l[i].a : Int)) ∧ ∃ y, w.cell? ((a.add (i * 4)).add 3) = some y ∧ Bs w y l[i].m := by
      intro i hi
      obtain ⟨j, hj, hR⟩ := hl2.get hi
      have : j = i := by
        rw [List.getElem?_range (by omega)] at hj
        simpa using hj.symm
      subst this
      exact hR
    refine ⟨l, some a, cap, by rw [hlen], by omega, hm, by unfold maxLen at hm; omega, ?_, ?_⟩
    · intro st hst
      obtain ⟨i, hi, rfl⟩ := List.getElem_of_mem hst
      exact (hget i hi).1
    · by_cases h0 : len = 0
      · left; exact List.eq_nil_of_length_eq_zero (by omega)
      · right
        obtain ⟨b, o, sp⟩ := a
        have hsp : sp = none := by
          have := spot_none (hget 0 (by omega)).2.1
          simpa [Addr.add] using this
        subst hsp
        refine ⟨b, o, rfl, fun i hi => ?_⟩
        obtain ⟨_, q0, q1, q2, y, q3, q4⟩ := hget i hi
        rw [Addr.add_mid, Addr.add_mid] at q0 q1 q2 q3
        exact ⟨q0, q1, q2, y, q3, q4⟩
end

set_option maxRecDepth 20000 in
set_option maxHeartbeats 1600000 in
theorem rrun_any (w : World) (y b1 b2 b3 b4 T : Nat) (m : Lm) (h : RLed w y b1 b2 b3 b4 m) (hi : LInv T m) (s k t : Int) (a : Nat) (mv : Value) (memo : List UInt8) (hm : Bs w mv memo) (ha : a < 18446744073709551616) :
    Calls Try.prog 44 #[.pointer (some ⟨y, 0, none⟩), .int .i64 s, txV k t a mv] w (RPost w y b1 b2 b3 b4 (runE m s k t a memo.length)) := by
  obtain ⟨ma, mc, rfl⟩ := bs_form' hm
  have hk6 := hi.few.2
  obtain ⟨w1, hw1⟩ : ∃ w1, w1 = w.alloc (Obj.cells #[.int .i64 k, .int .i64 t, .int .u64 (a : Int), .slice ma memo.length mc] 37) := ⟨_, rfl⟩
  have o1 : Only [] w w1 := by rw [hw1]; exact (Only.refl [] w).alloc _
  have c0 : w1.cell? ⟨w.heap.size, 0, none⟩ = some (.int .i64 k) := by rw [hw1]; simp [go_sem]
  have c1 : w1.cell? ⟨w.heap.size, 1, none⟩ = some (.int .i64 t) := by rw [hw1]; simp [go_sem]
  have c2 : w1.cell? ⟨w.heap.size, 2, none⟩ = some (.int .u64 (a : Int)) := by rw [hw1]; simp [go_sem]
  have hri := rright_any w1 k t a _ memo (hm.kept0 o1)
  obtain ⟨r, hr⟩ : ∃ r, r = rightB k t a memo.length := ⟨_, rfl⟩
  rw [← hr] at hri
  unfold runE
  rw [← hr]
  clear hr
  cases r with
  | false =>
    rw [if_neg (by simp)]
    replace hri := hid hri
    go_enter Try.func44, Try.ntmps44
    go_wp2_with fail
    rw [← hw1]
    clear hw1
    refine hri.out.mono ?_
    rintro e w2 ⟨rfl, o2⟩
    go_wp2
    go_ret
    exact ⟨rfl, (h.kept0 o1).kept0 o2, (o1.trans0 o2).mono (by simp)⟩
  | true =>
    rw [if_pos rfl]
    replace hri := hid hri
    by_cases k1 : k = 1
    · subst k1
      rw [if_pos rfl]
      have hmv := hid (fun W (hL : RLed W y b1 b2 b3 b4 m) => rmove_any W y b1 b2 b3 b4 T m hL hi s t a ha)
      go_enter Try.func44, Try.ntmps44
      go_wp2_with fail
      rw [← hw1]
      clear hw1
      refine hri.out.mono ?_
      rintro e w2 ⟨rfl, o2⟩
      replace c0 := o2.cell c0 (by simp)
      replace c1 := o2.cell c1 (by simp)
      replace c2 := o2.cell c2 (by simp)
      go_wp2_with fail
      refine (hmv.out _ ((h.kept0 o1).kept0 o2)).mono ?_
      rintro e w3 ⟨rfl, hL3, o3⟩
      go_wp2
      go_ret
      exact ⟨rfl, hL3, (o1.trans0 o2).trans o3 (by simp) (by simp)⟩
    · rw [if_neg k1]
      have k1' : (k == 1) = false := by rw [beq_eq_false_iff_ne]; exact k1
      by_cases his : m.is s
      · obtain ⟨hs1, hs2⟩ := is_nat his
        rw [if_pos his]
        obtain ⟨sn, hsn⟩ : ∃ sn, sn = s.toNat := ⟨_, rfl⟩
        rw [← hsn] at hs1 hs2
        subst hs2
        have hy := hid (fun W (hL : RLed W y b1 b2 b3 b4 m) => ris_yes W y b1 b2 b3 b4 m hL hk6 sn hs1)
        clear k1 his hsn
        go_enter Try.func44, Try.ntmps44
        go_wp2_with fail
        rw [← hw1]
        clear hw1
        refine hri.out.mono ?_
        rintro e w2 ⟨rfl, o2⟩
        replace c0 := o2.cell c0 (by simp)
        go_wp2_with fail
        refine (hy.out _ ((h.kept0 o1).kept0 o2)).mono ?_
        rintro e w3 ⟨rfl, rfl⟩
        go_wp2
        go_ret
        exact ⟨rfl, (h.kept0 o1).kept0 o2, (o1.trans0 o2).mono (by simp)⟩
      · rw [if_neg his]
        have hy := hid (fun W (hL : RLed W y b1 b2 b3 b4 m) => ris_no W y b1 b2 b3 b4 m hL hk6 s his)
        clear k1 his
        go_enter Try.func44, Try.ntmps44
        go_wp2_with fail
        rw [← hw1]
        clear hw1
        refine hri.out.mono ?_
        rintro e w2 ⟨rfl, o2⟩
        replace c0 := o2.cell c0 (by simp)
        go_wp2_with fail
        refine (hy.out _ ((h.kept0 o1).kept0 o2)).mono ?_
        rintro e w3 ⟨rfl, rfl⟩
        go_wp2
        go_ret
        exact ⟨rfl, (h.kept0 o1).kept0 o2, (o1.trans0 o2).mono (by simp)⟩
end Go.Proofs.Ytiinfiaemiaamaa.Sh
