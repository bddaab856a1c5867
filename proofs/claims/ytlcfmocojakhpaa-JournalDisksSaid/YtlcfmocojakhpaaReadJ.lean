/- The journal's arguments, read: disks, lists of calls; few: walked. -/
import Derived.Test.YtlcfmocojakhpaaRJouF
import Derived.Test.YtlcfmocojakhpaaRead
import Derived.Lib.SmallJoins
import Derived.Deep.Slices
import Derived.ChangeArms
namespace Go.Proofs.Ytlcfmocojakhpaa.Sh
open Go Go.RowKit Go.ChangeShapes Go.WideShapes Go.Deep

/-- A value that is a disk. -/
def DskRep (w : World) (v : Value) (d : List UInt8 × List UInt8) : Prop := ∃ fv lv, v = dskV fv lv ∧ Bs w fv d.1 ∧ Bs w lv d.2

structure JOp where
  kind : Int
  keep : Int
  torn : UInt8
  b : List UInt8
def JOp.ok (o : JOp) : Prop := (-9223372036854775808 ≤ o.kind ∧ o.kind ≤ 9223372036854775807) ∧ (-9223372036854775808 ≤ o.keep ∧ o.keep ≤ 9223372036854775807)
def JEl (w : World) (b o : Nat) (x : JOp) : Prop :=
  w.cell? ⟨b, o, none⟩ = some (.int .i64 x.kind) ∧ w.cell? ⟨b, o + 1, none⟩ = some (.int .i64 x.keep) ∧ w.cell? ⟨b, o + 2, none⟩ = some (.int .u8 (x.torn.toNat : Int)) ∧ ∃ mv, w.cell? ⟨b, o + 3, none⟩ = some mv ∧ Bs w mv x.b
def JOps (w : World) (v : Value) (l : List JOp) : Prop :=
  ∃ a cap, v = .slice a l.length cap ∧ l.length ≤ cap ∧ cap ≤ maxLen ∧ l.length ≤ 9223372036854775807 ∧ (∀ x ∈ l, x.ok) ∧
    (l = [] ∨ ∃ b o, a = some ⟨b, o, none⟩ ∧ ∀ (i : Nat) (h : i < l.length), JEl w b (o + i * 4) l[i])
theorem JOps.at {w : World} {a : Option Addr} {n cap : Nat} {l : List JOp} (h : JOps w (.slice a n cap) l) (k : Nat) (hk : k < l.length) : ∃ b o, a = some ⟨b, o, none⟩ ∧ JEl w b (o + k * 4) l[k] := by
  obtain ⟨a', cap', he, _, _, _, _, h5⟩ := h
  simp only [Value.slice.injEq] at he
  obtain ⟨rfl, _, rfl⟩ := he
  rcases h5 with h5 | ⟨b, o, rfl, h5⟩
  · subst h5; simp at hk
  · exact ⟨b, o, rfl, h5 k hk⟩
theorem JOps.form {w : World} {v : Value} {l : List JOp} (h : JOps w v l) : ∃ a cap, v = .slice a l.length cap ∧ l.length ≤ cap ∧ cap ≤ maxLen ∧ l.length ≤ 9223372036854775807 := by
  obtain ⟨a, cap, rfl, h1, h2, h3, _⟩ := h
  exact ⟨a, cap, rfl, h1, h2, h3⟩
theorem JOps.kept0 {w w' : World} {v : Value} {l : List JOp} (h : JOps w v l) (ho : Only [] w w') : JOps w' v l := by
  obtain ⟨a, cap, rfl, h1, h2, h3, h4, h5⟩ := h
  refine ⟨a, cap, rfl, h1, h2, h3, h4, ?_⟩
  rcases h5 with h5 | ⟨b, o, rfl, h5⟩
  · exact .inl h5
  · refine .inr ⟨b, o, rfl, fun i hi => ?_⟩
    obtain ⟨c1, c2, c3, x, c4, hB⟩ := h5 i hi
    exact ⟨ho.cell c1 (by simp), ho.cell c2 (by simp), ho.cell c3 (by simp), x, ho.cell c4 (by simp), hB.kept0 ho⟩

section
variable {H : Type} {enc : TypeId × Value → H} {P : Program} {w : World} {base : Nat} {spare : Nat → Bool} {held : Bool}
theorem read_disk {t tb te : TypeId} {f0 f1 : Field} {r : Reach} {b0 : Nat} {v : Value} {d : DataW H} {p : List MemPlace} (hs : P.underlying t = some (.struct #[f0, f1])) (hone : Deep.oneCellFields P #[f0, f1] = true) (hC : P.cellsOf t = 2)
    (t0 : f0.type = tb) (t1 : f1.type = tb) (hb : P.underlying tb = some (.slice te)) (he : P.underlying te = some (.int .u8)) (hce : P.cellsOf te = 1)
    (hv : Value.okWide P w r b0 t v) (h : DataW.Trod enc P w base spare held t v d p) : ∃ D : List UInt8 × List UInt8, DskRep w v D := by
  obtain ⟨c0, c1, y0, y1, m, rfl, rfl, rfl, g0, g1⟩ := Joins.open_agg2 hs hone hC hv h
  rw [t0] at g0
  rw [t1] at g1
  obtain ⟨l0, h0⟩ := read_bs hb he hce g0
  obtain ⟨l1, h1⟩ := read_bs hb he hce g1
  exact ⟨(l0, l1), c0, c1, rfl, h0, h1⟩

theorem read_jops {t e ti tn ts tb : TypeId} {f0 f1 f2 f3 : Field} {fuel : Nat} {v : Value} {x : DataW H × List MemPlace} (ht : P.underlying t = some (.slice e)) (he : P.underlying e = some (.struct #[f0, f1, f2, f3])) (hc : P.cellsOf e = 4)
    (o0 : f0.offset = 0) (o1 : f1.offset = 1) (o2 : f2.offset = 2) (o3 : f3.offset = 3) (t0 : f0.type = ti) (t1 : f1.type = ti) (t2 : f2.type = tn) (t3 : f3.type = ts)
    (hk : P.underlying ti = some (.int .i64)) (hn : P.underlying tn = some (.int .u8)) (hs : P.underlying ts = some (.slice tb)) (hb : P.underlying tb = some (.int .u8)) (c0 : P.cellsOf ti = 1) (c2 : P.cellsOf tn = 1) (c3 : P.cellsOf ts = 1) (cb : P.cellsOf tb = 1)
    (h : DataW.trod enc P w base spare held fuel t [v] = some x) : ∃ l, JOps w v l := by
  rcases open_slice ht h with ⟨h0, _⟩ | ⟨a, len, cap, m, n, D, Pl, h0, _, hl, hm, hmm, _, hx⟩
  · obtain rfl : v = .slice none 0 0 := by simpa using h0
    exact ⟨[], none, 0, rfl, by simp, by unfold maxLen; omega, by simp, by simp, .inl rfl⟩
  · obtain rfl : v = .slice (some a) len cap := by simpa using h0
    have hml : len ≤ m := by rw [hmm]; split <;> omega
    have hone : ∀ i, i < len → ∃ st : JOp, st.ok ∧ w.cell? ((a.add (i * 4)).add 0) = some (.int .i64 st.kind) ∧ w.cell? ((a.add (i * 4)).add 1) = some (.int .i64 st.keep) ∧ w.cell? ((a.add (i * 4)).add 2) = some (.int .u8 (st.torn.toNat : Int)) ∧ ∃ y, w.cell? ((a.add (i * 4)).add 3) = some y ∧ Bs w y st.b := by
      intro i hi
      obtain ⟨cs', h1, h2⟩ := hx i (by omega)
      rw [hc] at h1
      obtain ⟨_, hlen, hat⟩ := World.cells?_some h1
      obtain ⟨ys, n', _, _, _, hyl, hf⟩ := DataW.trod_struct he h2
      match cs', hlen with
      | [u0, u1, u2, u3], _ =>
        have g0 := hf 0 f0 rfl
        have g1 := hf 1 f1 rfl
        have g2 := hf 2 f2 rfl
        have g3 := hf 3 f3 rfl
        rw [o0, t0, c0] at g0
        rw [o1, t1, c0] at g1
        rw [o2, t2, c2] at g2
        rw [o3, t3, c3] at g3
        have hy : ys.length = 4 := hyl
        obtain ⟨y0, y1, y2, y3, rfl⟩ : ∃ y0 y1 y2 y3, ys = [y0, y1, y2, y3] := by
          match ys, hy with
          | [p, q, r, s], _ => exact ⟨p, q, r, s, rfl⟩
        obtain ⟨k0, hk0, _, hw0⟩ := DataW.trod_int hk g0
        obtain ⟨k1, hk1, _, hw1⟩ := DataW.trod_int hk g1
        obtain ⟨k2, hk2, _, hw2⟩ := DataW.trod_int hn g2
        obtain ⟨b3, hb3⟩ := read_bs hs hb cb g3
        simp only [List.drop_zero, List.take_succ_cons, List.take_zero, List.cons.injEq, and_true] at hk0
        simp only [List.drop_succ_cons, List.drop_zero, List.take_succ_cons, List.take_zero, List.cons.injEq, and_true] at hk1 hk2
        subst hk0; subst hk1; subst hk2
        have v0 := wfi64 hw0
        have v1 := wfi64 hw1
        obtain ⟨tn, rfl⟩ := u8_of (wfu8 hw2)
        exact ⟨⟨k0, k1, tn, b3⟩, ⟨v0, v1⟩, hat 0 (by omega), hat 1 (by omega), hat 2 (by omega), u3, hat 3 (by omega), hb3⟩
    obtain ⟨l, hl2⟩ := all2_of (R := fun (i : Nat) (st : JOp) => st.ok ∧ w.cell? ((a.add (i * 4)).add 0) = some (.int .i64 st.kind) ∧ w.cell? ((a.add (i * 4)).add 1) = some (.int .i64 st.keep) ∧ w.cell? ((a.add (i * 4)).add 2) = some (.int .u8 (st.torn.toNat : Int)) ∧ ∃ y, w.cell? ((a.add (i * 4)).add 3) = some y ∧ Bs w y st.b) (List.range len) (fun i hi => hone i (by simpa using hi))
    have hlen : l.length = len := by
      have := hl2.length
      simpa using this.symm
    have hget : ∀ (i : Nat) (hi : i < l.length), l[i].ok ∧ w.cell? ((a.add (i * 4)).add 0) = some (.int .i64 l[i].kind) ∧ w.cell? ((a.add (i * 4)).add 1) = some (.int .i64 l[i].keep) ∧ w.cell? ((a.add (i * 4)).add 2) = some (.int .u8 (l[i].torn.toNat : Int)) ∧ ∃ y, w.cell? ((a.add (i * 4)).add 3) = some y ∧ Bs w y l[i].b := by
      intro i hi
      obtain ⟨j, hj, hR⟩ := hl2.get hi
      have : j = i := by
        rw [List.getElem?_range (by omega)] at hj
        simpa using hj.symm
      subst this
      exact hR
    refine ⟨l, some a, cap, by rw [hlen], by omega, hm, by unfold maxLen at hm; omega, ?_, ?_⟩
    · intro st hst
      obtain ⟨i, hi, rfl⟩ := List.getElem_of_mem hst
      exact (hget i hi).1
    · by_cases h0 : len = 0
      · left; exact List.eq_nil_of_length_eq_zero (by omega)
      · right
        obtain ⟨b, o, sp⟩ := a
        have hsp : sp = none := by
          have := spot_none (hget 0 (by omega)).2.1
          simpa [Addr.add] using this
        subst hsp
        refine ⟨b, o, rfl, fun i hi => ?_⟩
        obtain ⟨_, q0, q1, q2, y, q3, q4⟩ := hget i hi
        rw [Addr.add_mid, Addr.add_mid] at q0 q1 q2 q3
        exact ⟨q0, q1, q2, y, q3, q4⟩
end

def fewJ (l : List JOp) : Bool := l.all (fun x => decide (x.b.length ≤ 60)) && decide (l.length ≤ 40)

set_option maxHeartbeats 800000 in
theorem few12_any (v : Value) (l : List JOp) (w : World) (hl : JOps w v l) :
    Calls Try.prog 24 #[v] w fun e w' => e = .returned (.bool (fewJ l)) ∧ w' = w := by
  obtain ⟨a, cap, rfl, h1, h2, h3⟩ := hl.form
  go_enter Try.func24, Try.ntmps24
  go_wp2
  go_loop [6] (fun i => ∃ k : Nat, k ≤ l.length ∧ i = .int .i64 k ∧ Hid (∀ j (h : j < l.length), j < k → l[j].b.length ≤ 60)) (fun i => l.length - (intOf i).toNat)
  case atStart => exact ⟨0, Nat.zero_le _, rfl, hid (fun j _ h => absurd h (Nat.not_lt_zero _))⟩
  case round =>
    obtain ⟨k, hk, rfl, hall⟩ := hrel
    by_cases hlt : k < l.length
    · obtain ⟨b, o, rfl, c1, c2, c3, x, c4, hB⟩ := hl.at k hlt
      obtain ⟨xa, xc, rfl⟩ := bs_form hB
      have hlong := hid (show 60 < l[k].b.length → fewJ l = false by
        intro h
        have : l.all (fun x => decide (x.b.length ≤ 60)) = false := by
          rw [List.all_eq_false]
          exact ⟨l[k], List.getElem_mem hlt, by simpa using h⟩
        unfold fewJ
        rw [this]
        rfl)
      have hall2 : Hid (l[k].b.length ≤ 60 → ∀ j (h : j < l.length), j < k + 1 → l[j].b.length ≤ 60) := by
        intro hs j h hj
        by_cases e : j = k
        · subst e; exact hs
        · exact hall.out j h (by omega)
      obtain ⟨B, hB'⟩ : ∃ B, B = l[k].b.length := ⟨_, rfl⟩
      rw [← hB'] at hlong hall2 c4
      clear hall c1 c2 c3 hB'
      by_cases h60 : 60 < B
      · have hf := hid (hlong.out h60)
        go_wp2
        go_ret
        exact ⟨by rw [hf.out]; rfl, rfl⟩
      · have hall3 := hid (hall2.out (by omega))
        clear hlong hall2
        go_wp2
        go_round
        case rel => exact ⟨k + 1, by omega, by go_num, hall3⟩
        case measure => simp [intOf]; omega
    · obtain rfl : k = l.length := by omega
      have hfin : fewJ l = decide (l.length ≤ 40) := by
        have : l.all (fun x => decide (x.b.length ≤ 60)) = true := by
          rw [List.all_eq_true]
          intro y hy
          obtain ⟨i, hi, rfl⟩ := List.getElem_of_mem hy
          simpa using hall.out i hi hi
        unfold fewJ
        rw [this]
        rfl
      clear hall
      by_cases h40 : l.length ≤ 40
      · rw [decide_eq_true h40] at hfin
        replace hfin := hid hfin
        have hd : decide ((l.length : Int) ≤ 40) = true := by simp; omega
        clear h40
        go_wp2
        go_ret
        exact ⟨by rw [hfin.out]; rfl, rfl⟩
      · rw [decide_eq_false h40] at hfin
        replace hfin := hid hfin
        have hd : decide ((l.length : Int) ≤ 40) = false := by simp; omega
        clear h40
        go_wp2
        go_ret
        exact ⟨by rw [hfin.out]; rfl, rfl⟩
theorem fewJ_ok {l : List JOp} (h : fewJ l = true) : (∀ x ∈ l, x.b.length ≤ 60) ∧ l.length ≤ 40 := by
  unfold fewJ at h
  simp only [Bool.and_eq_true, List.all_eq_true, decide_eq_true_eq] at h
  exact h
end Go.Proofs.Ytlcfmocojakhpaa.Sh
