/- Texts of this proof, merged: ReadK, KqB, RJouA, RJouB, RefC, RJouC, RJouD. -/
import Derived.Test.YtnlmeaijnfjakaaZ3
import Derived.Test.YtnlmeaijnfjakaaRead
import Derived.Test.YtnlmeaijnfjakaaJouG
import Derived.Test.YtnlmeaijnfjakaaRefB
import Derived.Test.YtnlmeaijnfjakaaCrcE
import Derived.Lib.SmallJoins
import Derived.Deep.Slices
import Derived.ChangeArms
import Derived.Deep.RegionLaw
/- The keyper's calls, read; few: walked. -/
namespace Go.Proofs.Ytnlmeaijnfjakaa.Sh
set_option linter.unusedSimpArgs false
set_option linter.unusedVariables false
open Go Go.RowKit Go.ChangeShapes Go.WideShapes Go.Deep

structure KOp where
  kind : Int
  keep : Int
  a : UInt8
  torn : UInt8
  share : List UInt8
  slot : Nat
  l : List UInt8
def KOp.ok (o : KOp) : Prop := (-9223372036854775808 ≤ o.kind ∧ o.kind ≤ 9223372036854775807) ∧ (-9223372036854775808 ≤ o.keep ∧ o.keep ≤ 9223372036854775807) ∧ o.slot < 18446744073709551616
def KEl (w : World) (b o : Nat) (x : KOp) : Prop :=
  (w.cell? ⟨b, o, none⟩ = some (.int .i64 x.kind) ∧ w.cell? ⟨b, o + 1, none⟩ = some (.int .i64 x.keep) ∧ w.cell? ⟨b, o + 2, none⟩ = some (vU8 x.a) ∧ w.cell? ⟨b, o + 3, none⟩ = some (vU8 x.torn) ∧ w.cell? ⟨b, o + 5, none⟩ = some (.int .u64 (x.slot : Int))) ∧ (∃ mv, w.cell? ⟨b, o + 4, none⟩ = some mv ∧ Bs w mv x.share) ∧ ∃ mv, w.cell? ⟨b, o + 6, none⟩ = some mv ∧ Bs w mv x.l
def KOps (w : World) (v : Value) (l : List KOp) : Prop :=
  ∃ a cap, v = .slice a l.length cap ∧ l.length ≤ cap ∧ cap ≤ maxLen ∧ l.length ≤ 9223372036854775807 ∧ (∀ x ∈ l, x.ok) ∧
    (l = [] ∨ ∃ b o, a = some ⟨b, o, none⟩ ∧ ∀ (i : Nat) (h : i < l.length), KEl w b (o + i * 7) l[i])
theorem KOps.at {w : World} {a : Option Addr} {n cap : Nat} {l : List KOp} (h : KOps w (.slice a n cap) l) (k : Nat) (hk : k < l.length) : ∃ b o, a = some ⟨b, o, none⟩ ∧ KEl w b (o + k * 7) l[k] := by
  obtain ⟨a', cap', he, _, _, _, _, h5⟩ := h
  simp only [Value.slice.injEq] at he
  obtain ⟨rfl, _, rfl⟩ := he
  rcases h5 with h5 | ⟨b, o, rfl, h5⟩
  · subst h5; simp at hk
  · exact ⟨b, o, rfl, h5 k hk⟩
theorem KOps.form {w : World} {v : Value} {l : List KOp} (h : KOps w v l) : ∃ a cap, v = .slice a l.length cap ∧ l.length ≤ cap ∧ cap ≤ maxLen ∧ l.length ≤ 9223372036854775807 := by
  obtain ⟨a, cap, rfl, h1, h2, h3, _⟩ := h
  exact ⟨a, cap, rfl, h1, h2, h3⟩
theorem KOps.ok {w : World} {v : Value} {l : List KOp} (h : KOps w v l) : ∀ x ∈ l, x.ok := by
  obtain ⟨a, cap, rfl, h1, h2, h3, h4, _⟩ := h
  exact h4
theorem KEl.kept0 {w w' : World} {b o : Nat} {x : KOp} (h : KEl w b o x) (ho : Only [] w w') : KEl w' b o x := by
  obtain ⟨⟨c0, c1, c2, c3, c5⟩, ⟨x4, c4, h4⟩, x6, c6, h6⟩ := h
  exact ⟨⟨ho.cell c0 (by simp), ho.cell c1 (by simp), ho.cell c2 (by simp), ho.cell c3 (by simp), ho.cell c5 (by simp)⟩, ⟨x4, ho.cell c4 (by simp), h4.kept0 ho⟩, x6, ho.cell c6 (by simp), h6.kept0 ho⟩
theorem KOps.kept0 {w w' : World} {v : Value} {l : List KOp} (h : KOps w v l) (ho : Only [] w w') : KOps w' v l := by
  obtain ⟨a, cap, rfl, h1, h2, h3, h4, h5⟩ := h
  refine ⟨a, cap, rfl, h1, h2, h3, h4, ?_⟩
  rcases h5 with h5 | ⟨b, o, rfl, h5⟩
  · exact .inl h5
  · exact .inr ⟨b, o, rfl, fun i hi => (h5 i hi).kept0 ho⟩

section
variable {H : Type} {enc : TypeId × Value → H} {P : Program} {w : World} {base : Nat} {spare : Nat → Bool} {held : Bool}

theorem read_kops {t e ti tn ts tl tb : TypeId} {f0 f1 f2 f3 f4 f5 f6 : Field} {fuel : Nat} {v : Value} {x : DataW H × List MemPlace} (ht : P.underlying t = some (.slice e)) (he : P.underlying e = some (.struct #[f0, f1, f2, f3, f4, f5, f6])) (hc : P.cellsOf e = 7)
    (o0 : f0.offset = 0) (o1 : f1.offset = 1) (o2 : f2.offset = 2) (o3 : f3.offset = 3) (o4 : f4.offset = 4) (o5 : f5.offset = 5) (o6 : f6.offset = 6) (t0 : f0.type = ti) (t1 : f1.type = ti) (t2 : f2.type = tn) (t3 : f3.type = tn) (t4 : f4.type = ts) (t5 : f5.type = tl) (t6 : f6.type = ts)
    (hk : P.underlying ti = some (.int .i64)) (hn : P.underlying tn = some (.int .u8)) (hL : P.underlying tl = some (.int .u64)) (hs : P.underlying ts = some (.slice tb)) (hb : P.underlying tb = some (.int .u8)) (c0 : P.cellsOf ti = 1) (c2 : P.cellsOf tn = 1) (c5 : P.cellsOf tl = 1) (c3 : P.cellsOf ts = 1) (cb : P.cellsOf tb = 1)
    (h : DataW.trod enc P w base spare held fuel t [v] = some x) : ∃ l, KOps w v l := by
  rcases open_slice ht h with ⟨h0, _⟩ | ⟨a, len, cap, m, n, D, Pl, h0, _, hl, hm, hmm, _, hx⟩
  · obtain rfl : v = .slice none 0 0 := by simpa using h0
    exact ⟨[], none, 0, rfl, by simp, by unfold maxLen; omega, by simp, by simp, .inl rfl⟩
  · obtain rfl : v = .slice (some a) len cap := by simpa using h0
    have hml : len ≤ m := by rw [hmm]; split <;> omega
    have hone : ∀ i, i < len → ∃ st : KOp, st.ok ∧ (w.cell? ((a.add (i * 7)).add 0) = some (.int .i64 st.kind) ∧ w.cell? ((a.add (i * 7)).add 1) = some (.int .i64 st.keep) ∧ w.cell? ((a.add (i * 7)).add 2) = some (vU8 st.a) ∧ w.cell? ((a.add (i * 7)).add 3) = some (vU8 st.torn) ∧ w.cell? ((a.add (i * 7)).add 5) = some (.int .u64 (st.slot : Int))) ∧ (∃ y, w.cell? ((a.add (i * 7)).add 4) = some y ∧ Bs w y st.share) ∧ ∃ y, w.cell? ((a.add (i * 7)).add 6) = some y ∧ Bs w y st.l := by
      intro i hi
      obtain ⟨cs', h1, h2⟩ := hx i (by omega)
      rw [hc] at h1
      obtain ⟨_, hlen, hat⟩ := World.cells?_some h1
      obtain ⟨ys, n', _, _, _, hyl, hf⟩ := DataW.trod_struct he h2
      match cs', hlen with
      | [u0, u1, u2, u3, u4, u5, u6], _ =>
        have g0 := hf 0 f0 rfl
        have g1 := hf 1 f1 rfl
        have g2 := hf 2 f2 rfl
        have g3 := hf 3 f3 rfl
        have g4 := hf 4 f4 rfl
        have g5 := hf 5 f5 rfl
        have g6 := hf 6 f6 rfl
        rw [o0, t0, c0] at g0
        rw [o1, t1, c0] at g1
        rw [o2, t2, c2] at g2
        rw [o3, t3, c2] at g3
        rw [o4, t4, c3] at g4
        rw [o5, t5, c5] at g5
        rw [o6, t6, c3] at g6
        have hy : ys.length = 7 := hyl
        obtain ⟨y0, y1, y2, y3, y4, y5, y6, rfl⟩ : ∃ y0 y1 y2 y3 y4 y5 y6, ys = [y0, y1, y2, y3, y4, y5, y6] := by
          match ys, hy with
          | [p, q, r, s, t, u, v], _ => exact ⟨p, q, r, s, t, u, v, rfl⟩
        obtain ⟨k0, hk0, _, hw0⟩ := DataW.trod_int hk g0
        obtain ⟨k1, hk1, _, hw1⟩ := DataW.trod_int hk g1
        obtain ⟨k2, hk2, _, hw2⟩ := DataW.trod_int hn g2
        obtain ⟨k3, hk3, _, hw3⟩ := DataW.trod_int hn g3
        obtain ⟨k5, hk5, _, hw5⟩ := DataW.trod_int hL g5
        obtain ⟨b4, hb4⟩ := read_bs hs hb cb g4
        obtain ⟨b6, hb6⟩ := read_bs hs hb cb g6
        simp only [List.drop_zero, List.take_succ_cons, List.take_zero, List.cons.injEq, and_true] at hk0
        simp only [List.drop_succ_cons, List.drop_zero, List.take_succ_cons, List.take_zero, List.cons.injEq, and_true] at hk1 hk2 hk3 hk5
        subst hk0; subst hk1; subst hk2; subst hk3; subst hk5
        have v0 := wfi64 hw0
        have v1 := wfi64 hw1
        have v5 := wfu64 hw5
        obtain ⟨n2, rfl⟩ := u8_of (wfu8 hw2)
        obtain ⟨n3, rfl⟩ := u8_of (wfu8 hw3)
        obtain ⟨n5, rfl⟩ : ∃ n : Nat, k5 = (n : Int) := ⟨k5.toNat, by omega⟩
        exact ⟨⟨k0, k1, n2, n3, b4, n5, b6⟩, ⟨v0, v1, by show n5 < _; omega⟩, ⟨hat 0 (by omega), hat 1 (by omega), hat 2 (by omega), hat 3 (by omega), hat 5 (by omega)⟩, ⟨u4, hat 4 (by omega), hb4⟩, u6, hat 6 (by omega), hb6⟩
    obtain ⟨l, hl2⟩ := all2_of (R := fun (i : Nat) (st : KOp) => st.ok ∧ (w.cell? ((a.add (i * 7)).add 0) = some (.int .i64 st.kind) ∧ w.cell? ((a.add (i * 7)).add 1) = some (.int .i64 st.keep) ∧ w.cell? ((a.add (i * 7)).add 2) = some (vU8 st.a) ∧ w.cell? ((a.add (i * 7)).add 3) = some (vU8 st.torn) ∧ w.cell? ((a.add (i * 7)).add 5) = some (.int .u64 (st.slot : Int))) ∧ (∃ y, w.cell? ((a.add (i * 7)).add 4) = some y ∧ Bs w y st.share) ∧ ∃ y, w.cell? ((a.add (i * 7)).add 6) = some y ∧ Bs w y st.l) (List.range len) (fun i hi => hone i (by simpa using hi))
    have hlen : l.length = len := by
      have := hl2.length
      simpa using this.symm
    have hget : ∀ (i : Nat) (hi : i < l.length), l[i].ok ∧ (w.cell? ((a.add (i * 7)).add 0) = some (.int .i64 l[i].kind) ∧ w.cell? ((a.add (i * 7)).add 1) = some (.int .i64 l[i].keep) ∧ w.cell? ((a.add (i * 7)).add 2) = some (vU8 l[i].a) ∧ w.cell? ((a.add (i * 7)).add 3) = some (vU8 l[i].torn) ∧ w.cell? ((a.add (i * 7)).add 5) = some (.int .u64 (l[i].slot : Int))) ∧ (∃ y, w.cell? ((a.add (i * 7)).add 4) = some y ∧ Bs w y l[i].share) ∧ ∃ y, w.cell? ((a.add (i * 7)).add 6) = some y ∧ Bs w y l[i].l := by
      intro i hi
      obtain ⟨j, hj, hR⟩ := hl2.get hi
      have : j = i := by
        rw [List.getElem?_range (by omega)] at hj
        simpa using hj.symm
      subst this
      exact hR
    refine ⟨l, some a, cap, by rw [hlen], by omega, hm, by unfold maxLen at hm; omega, ?_, ?_⟩
    · intro st hst
      obtain ⟨i, hi, rfl⟩ := List.getElem_of_mem hst
      exact (hget i hi).1
    · by_cases h0 : len = 0
      · left; exact List.eq_nil_of_length_eq_zero (by omega)
      · right
        obtain ⟨b, o, sp⟩ := a
        have hsp : sp = none := by
          have := spot_none (hget 0 (by omega)).2.1.1
          simpa [Addr.add] using this
        subst hsp
        refine ⟨b, o, rfl, fun i hi => ?_⟩
        obtain ⟨_, ⟨q0, q1, q2, q3, q5⟩, ⟨y4, q4, r4⟩, y6, q6, r6⟩ := hget i hi
        rw [Addr.add_mid, Addr.add_mid] at q0 q1 q2 q3 q4 q5 q6
        exact ⟨⟨q0, q1, q2, q3, q5⟩, ⟨y4, q4, r4⟩, y6, q6, r6⟩
end

def fewK (l : List KOp) : Bool := l.all (fun x => decide (x.share.length ≤ 60) && decide (x.l.length ≤ 60)) && decide (l.length ≤ 60)

set_option maxHeartbeats 1600000 in
theorem few20_any (v : Value) (l : List KOp) (w : World) (hl : KOps w v l) :
    Calls Try.prog 10 #[v] w fun e w' => e = .returned (.bool (fewK l)) ∧ w' = w := by
  obtain ⟨a, cap, rfl, h1, h2, h3⟩ := hl.form
  go_enter Try.func10, Try.ntmps10
  go_wp2
  go_loop [6] (fun i => ∃ k : Nat, k ≤ l.length ∧ i = .int .i64 k ∧ Hid (∀ j (h : j < l.length), j < k → l[j].share.length ≤ 60 ∧ l[j].l.length ≤ 60)) (fun i => l.length - (intOf i).toNat)
  case atStart => exact ⟨0, Nat.zero_le _, rfl, hid (fun j _ h => absurd h (Nat.not_lt_zero _))⟩
  case round =>
    obtain ⟨k, hk, rfl, hall⟩ := hrel
    by_cases hlt : k < l.length
    · obtain ⟨b, o, rfl, ⟨c0, c1, c2, c3, c5⟩, ⟨x4, c4, hB⟩, x6, c6, hG⟩ := hl.at k hlt
      obtain ⟨xa, xc, rfl⟩ := bs_form hB
      obtain ⟨ya, yc, rfl⟩ := bs_form hG
      have hlong := hid (show 60 < l[k].share.length ∨ 60 < l[k].l.length → fewK l = false by
        intro h
        have : l.all (fun x => decide (x.share.length ≤ 60) && decide (x.l.length ≤ 60)) = false := by
          rw [List.all_eq_false]
          refine ⟨l[k], List.getElem_mem hlt, ?_⟩
          simp only [Bool.and_eq_true, decide_eq_true_eq]
          omega
        unfold fewK
        rw [this]
        rfl)
      have hall2 : Hid (l[k].share.length ≤ 60 → l[k].l.length ≤ 60 → ∀ j (h : j < l.length), j < k + 1 → l[j].share.length ≤ 60 ∧ l[j].l.length ≤ 60) := by
        intro hs hs2 j h hj
        by_cases e : j = k
        · subst e; exact ⟨hs, hs2⟩
        · exact hall.out j h (by omega)
      obtain ⟨B, hB'⟩ : ∃ B, B = l[k].share.length := ⟨_, rfl⟩
      obtain ⟨G, hG'⟩ : ∃ G, G = l[k].l.length := ⟨_, rfl⟩
      rw [← hB', ← hG'] at hlong hall2
      rw [← hB'] at c4
      rw [← hG'] at c6
      clear hall c0 c1 c2 c3 c5 hB' hG' hB hG
      by_cases h60 : 60 < B
      · have hf := hid (hlong.out (.inl h60))
        go_wp2
        go_ret
        exact ⟨by rw [hf.out]; rfl, rfl⟩
      · by_cases g60 : 60 < G
        · have hf := hid (hlong.out (.inr g60))
          clear hlong hall2
          go_wp2
          go_ret
          exact ⟨by rw [hf.out]; rfl, rfl⟩
        · have hall3 := hid (hall2.out (by omega) (by omega))
          clear hlong hall2
          go_wp2
          go_round
          case rel => exact ⟨k + 1, by omega, by go_num, hall3⟩
          case measure => simp [intOf]; omega
    · obtain rfl : k = l.length := by omega
      have hfin : fewK l = decide (l.length ≤ 60) := by
        have : l.all (fun x => decide (x.share.length ≤ 60) && decide (x.l.length ≤ 60)) = true := by
          rw [List.all_eq_true]
          intro y hy
          obtain ⟨i, hi, rfl⟩ := List.getElem_of_mem hy
          simpa using hall.out i hi hi
        unfold fewK
        rw [this]
        rfl
      clear hall
      by_cases h40 : l.length ≤ 60
      · rw [decide_eq_true h40] at hfin
        replace hfin := hid hfin
        have hd : decide ((l.length : Int) ≤ 60) = true := by simp; omega
        clear h40
        go_wp2
        go_ret
        exact ⟨by rw [hfin.out]; rfl, rfl⟩
      · rw [decide_eq_false h40] at hfin
        replace hfin := hid hfin
        have hd : decide ((l.length : Int) ≤ 60) = false := by simp; omega
        clear h40
        go_wp2
        go_ret
        exact ⟨by rw [hfin.out]; rfl, rfl⟩
theorem fewK_ok {l : List KOp} (h : fewK l = true) : (∀ x ∈ l, x.share.length ≤ 60 ∧ x.l.length ≤ 60) ∧ l.length ≤ 60 := by
  unfold fewK at h
  simp only [Bool.and_eq_true, List.all_eq_true, decide_eq_true_eq] at h
  exact h
end Go.Proofs.Ytnlmeaijnfjakaa.Sh
/- What both laws of a keyper alone need: a crash and what is opened behind it; the orders that were told. -/
namespace Go.Proofs.Ytnlmeaijnfjakaa.Sh
set_option linter.unusedSimpArgs false
set_option linter.unusedVariables false
open Go Go.RowKit
open Go.Maps (Keyed)

theorem crashL_none (f : List UInt8) (keep : Int) (torn : UInt8) : crashL f [] keep torn = f := by
  have h : keepN keep ([] : List UInt8).length = 0 := by unfold keepN; simp; omega
  unfold crashL
  rw [h]
  simp
theorem open_flat (rs : List (List UInt8)) (h : ∀ r ∈ rs, 1 ≤ r.length ∧ r.length ≤ 1000) : (allL (flatL rs ++ [])).1 = rs := by
  rw [List.append_nil]
  have := allL_frames rs h
  show (allL (rs.map frameL).flatten).1 = rs
  rw [this]

section
variable (w W : World) (k : Nat) (rs : List (List UInt8)) (B : List Nat) (n : Nat)
theorem ky_disk (h : Ky w W k rs B) (hn : Few n rs) (hn2 : n ≤ 200) :
    Calls Try.prog 19 #[.pointer (some ⟨k, 0, none⟩)] W fun e w' => ∃ fv lv, e = .returned (dskV fv lv) ∧ Fresh W w' fv (flatL rs) ∧ Fresh W w' lv [] ∧ Only [] W w' := by
  have h1 := hn.1
  exact mdisk_any W k rs B h.kb (by omega)
theorem ky_crash (hn : Few n rs) (hn2 : n ≤ 200) (fv lv : Value) (hf : Bs W fv (flatL rs)) (hl : Bs W lv []) (keep : Int) (hk : -9223372036854775808 ≤ keep ∧ keep ≤ 9223372036854775807) (torn : UInt8) :
    Calls Try.prog 27 #[dskV fv lv, .int .i64 keep, .int .u8 (torn.toNat : Int)] W fun e w' => ∃ fv', e = .returned (dskV fv' (.slice none 0 0)) ∧ Bs w' fv' (flatL rs) ∧ Only [] W w' := by
  have h1 := hn.1
  refine (dcrash_any W fv lv (flatL rs) [] keep torn hf hl hk (by simp; omega)).mono ?_
  rintro e w' ⟨fv', rfl, h2, h3⟩
  rw [crashL_none] at h2
  exact ⟨fv', rfl, h2.bs (by omega), h3⟩
theorem ky_reopen (ho : Only [] w W) (hn : Few n rs) (hn2 : n ≤ 200) (h1 : ∀ r ∈ rs, 1 ≤ r.length ∧ r.length ≤ 1000) (fv : Value) (hf : Bs W fv (flatL rs)) :
    Calls Try.prog 11 #[dskV fv (.slice none 0 0)] W fun e w' => ∃ k B, e = .returned (.pointer (some ⟨k, 0, none⟩)) ∧ Ky w w' k rs B ∧ (∀ i ∈ B, W.heap.size ≤ i) ∧ Only [] W w' := by
  have h2 := hn.1
  have := ky_open w W ho fv (.slice none 0 0) (flatL rs) [] hf (Bs.empty (by unfold maxLen; omega)) (by simp; omega)
  rwa [open_flat rs h1] at this
end

/-! the orders that were told -/
def encO (p : Nat × List UInt8) : Value × Value := (.int .u64 (p.1 : Int), .string (strB p.2))
structure OrdI (m : Km) (os : List (Nat × List UInt8)) : Prop where
  nodup : (os.map (·.1)).Nodup
  all : ∀ p ∈ os, p.1 < 18446744073709551616 ∧ p.1 ≤ m.slot ∧ m.told = true ∧ (p.1 = m.slot → p.2.map nm = m.ids)
theorem keyed_u64 : Keyed Try.prog 30 := Go.Maps.int_keyed Try.underlying30
theorem key_u64 (a : Nat) (h : a < 18446744073709551616) : keyOf Try.prog 30 (.int .u64 (a : Int)) = some (.int .u64 (a : Int)) :=
  Go.Maps.keyOf_int_mk Try.underlying30 (WalkArith.wf_u64 (by omega))
theorem zero_str (w : World) : (zeroValue 9).run Try.prog w = .ok (.string ByteArray.empty) w := by kernel_rfl
theorem encO_keys {os : List (Nat × List UInt8)} (h : (os.map (·.1)).Nodup) : ((os.map encO).map (·.1)).Nodup := by
  rw [List.map_map]
  have : os.map ((fun x => x.1) ∘ encO) = (os.map (·.1)).map (fun (a : Nat) => Value.int .u64 (a : Int)) := by rw [List.map_map]; rfl
  rw [this]
  refine List.Pairwise.map _ (fun a b hne e => hne ?_) h
  simp only [Value.int.injEq, true_and] at e
  omega
theorem commitK_ok {m : Km} {slot : Nat} {ids : List (List UInt8)} (h : (commitK m slot ids).1.2 = 0) :
    ¬ (m.told = true ∧ slot < m.slot) ∧ ((m.told = true ∧ slot = m.slot ∧ ids = m.ids ∧ (commitK m slot ids).2 = m) ∨ (¬ (m.told = true ∧ slot = m.slot) ∧ (commitK m slot ids).2 = { m with slot := slot, ids := ids, told := true })) := by
  unfold commitK at h ⊢
  split at h
  · simp at h
  · rename_i h1
    split at h
    · simp at h
    · rename_i h2
      rw [if_neg h1, if_neg h2]
      refine ⟨h2, ?_⟩
      split at h
      · rename_i h3
        rw [if_pos h3]
        split at h
        · rename_i h4
          rw [if_pos h4]
          exact .inl ⟨h3.1, h3.2, h4, rfl⟩
        · simp at h
      · rename_i h3
        rw [if_neg h3]
        exact .inr ⟨h3, rfl⟩
theorem commitK_bad {m : Km} {slot : Nat} {ids : List (List UInt8)} (h : (commitK m slot ids).1.2 ≠ 0) : (commitK m slot ids).2 = m := by
  apply commitK_ne
  unfold commitK at h ⊢
  split
  · rfl
  · rename_i h1
    rw [if_neg h1] at h
    split
    · rfl
    · rename_i h2
      rw [if_neg h2] at h
      split
      · split <;> rfl
      · rename_i h3
        rw [if_neg h3] at h
        simp at h

theorem OrdI.step {w : World} {mb : Nat} {m : Km} {os : List (Nat × List UInt8)} (hm : Mp Try.prog 30 w mb (os.map encO)) (h : OrdI m os) (slot : Nat) (hs : slot < 18446744073709551616) (L : List UInt8) (hc : (commitK m slot (L.map nm)).1.2 = 0) :
    ∃ (v : ByteArray) (ok : Bool), (∀ W, Only [] w W → (Instr.lookup 62 (.map (some mb)) (.int .u64 (slot : Int)) true).run Try.prog W = .ok (.tuple #[.string v, .bool ok]) W) ∧ (ok = true → v = strB L ∧ m.told = true) ∧ ¬ (m.told = true ∧ slot < m.slot) ∧
      ∀ W, Only [] w W → ∃ W' os', (Instr.mapUpdate 62 (.map (some mb)) (.int .u64 (slot : Int)) (.string (strB L))).run Try.prog W = .ok () W' ∧ Mp Try.prog 30 W' mb (os'.map encO) ∧ OrdI (commitK m slot (L.map nm)).2 os' ∧ Only [mb] W W' ∧ W'.heap.size = W.heap.size := by
  obtain ⟨hlt, hcase⟩ := commitK_ok hc
  have ht := Try.underlying62
  by_cases hin : slot ∈ os.map (·.1)
  · obtain ⟨p, hp, hpe⟩ := List.mem_map.1 hin
    obtain ⟨q1, q2, q3, q4⟩ := h.all p hp
    have hsl : slot = m.slot := by
      rcases Nat.lt_or_ge slot m.slot with h9 | h9
      · exact absurd ⟨q3, h9⟩ hlt
      · omega
    have hL : p.2 = L ∧ (commitK m slot (L.map nm)).2 = m := by
      rcases hcase with ⟨_, _, h3, h4⟩ | ⟨h3, _⟩
      · exact ⟨nms_inj (by rw [q4 (by omega), ← h3]), h4⟩
      · exact absurd ⟨q3, hsl⟩ h3
    obtain ⟨i, hi⟩ := List.getElem?_of_mem hp
    have hpp : p = (slot, L) := by rw [← hpe, ← hL.1]
    have hie : (os.map encO)[i]? = some (.int .u64 (slot : Int), .string (strB L)) := by rw [List.getElem?_map, hi, hpp]; rfl
    refine ⟨strB L, true, fun W hW => ?_, fun _ => ⟨rfl, q3⟩, hlt, fun W hW => ?_⟩
    · have := (hm.kept0 hW).look_some keyed_u64 ht (key_u64 slot hs) (encO_keys h.nodup) hie true
      simpa using this
    · obtain ⟨W', h1, h2, h3, h4⟩ := (hm.kept0 hW).put_old keyed_u64 ht (key_u64 slot hs) (encO_keys h.nodup) hie (.string (strB L))
      refine ⟨W', os, h1, ?_, by rw [hL.2]; exact h, h3, h4⟩
      obtain ⟨hil, hie'⟩ := List.getElem?_eq_some_iff.1 hie
      rw [← hie', List.set_getElem_self] at h2
      exact h2
  · have hnot : ∀ p ∈ os.map encO, p.1 ≠ .int .u64 (slot : Int) := by
      intro p hp e
      obtain ⟨q, hq, rfl⟩ := List.mem_map.1 hp
      simp only [encO, Value.int.injEq, true_and] at e
      exact hin (List.mem_map.2 ⟨q, hq, by omega⟩)
    refine ⟨ByteArray.empty, false, fun W hW => ?_, (by simp), hlt, fun W hW => ?_⟩
    · have := (hm.kept0 hW).look_none keyed_u64 ht (zero_str W) (key_u64 slot hs) hnot true
      simpa using this
    · obtain ⟨W', h1, h2, h3, h4⟩ := (hm.kept0 hW).put_new keyed_u64 ht (key_u64 slot hs) hnot (.string (strB L))
      refine ⟨W', os ++ [(slot, L)], h1, by rw [List.map_append]; exact h2, ⟨?_, ?_⟩, h3, h4⟩
      · rw [List.map_append]
        refine List.nodup_append.2 ⟨h.nodup, by simp, ?_⟩
        intro a ha b hb
        simp only [List.map_cons, List.map_nil, List.mem_singleton] at hb
        subst hb
        intro e
        subst e
        exact hin ha
      · rcases hcase with ⟨c1, c2, c3, c4⟩ | ⟨c1, c2⟩
        · rw [c4]
          intro p hp
          rcases List.mem_append.1 hp with hp | hp
          · exact h.all p hp
          · obtain rfl : p = (slot, L) := by simpa using hp
            exact ⟨hs, by simp only; omega, c1, fun _ => c3⟩
        · rw [c2]
          intro p hp
          rcases List.mem_append.1 hp with hp | hp
          · obtain ⟨q1, q2, q3, q4⟩ := h.all p hp
            have hne : p.1 ≠ slot := fun e => hin (List.mem_map.2 ⟨p, hp, e⟩)
            have h9 : ¬ slot < m.slot := fun h9 => hlt ⟨q3, h9⟩
            have h8 : slot ≠ m.slot := fun h8 => c1 ⟨q3, h8⟩
            exact ⟨q1, by simp only; omega, rfl, fun e => absurd e (by simp only; omega)⟩
          · obtain rfl : p = (slot, L) := by simpa using hp
            exact ⟨hs, by simp, rfl, fun _ => rfl⟩
theorem OrdI.same {m m' : Km} {os : List (Nat × List UInt8)} (h : OrdI m os) (h1 : m'.slot = m.slot) (h2 : m'.told = m.told) (h3 : m'.ids = m.ids) : OrdI m' os := ⟨h.nodup, fun p hp => by rw [h1, h2, h3]; exact h.all p hp⟩
theorem keepK_rest (m : Km) (d s : List UInt8) : (keepK m d s).2.slot = m.slot ∧ (keepK m d s).2.told = m.told ∧ (keepK m d s).2.ids = m.ids := by
  unfold keepK
  split
  · exact ⟨rfl, rfl, rfl⟩
  · cases getS m.sh d with
    | some t => simp only; split <;> exact ⟨rfl, rfl, rfl⟩
    | none => simp only; split <;> exact ⟨rfl, rfl, rfl⟩
theorem forget_rest (rs ids : List (List UInt8)) (hd : ∀ d ∈ ids, d.length = 32) : (openK (mforgetE rs ids).2).slot = (openK rs).slot ∧ (openK (mforgetE rs ids).2).told = (openK rs).told ∧ (openK (mforgetE rs ids).2).ids = (openK rs).ids := by
  rw [openK_forget rs ids hd]
  split <;> exact ⟨rfl, rfl, rfl⟩
end Go.Proofs.Ytnlmeaijnfjakaa.Sh
/- The document's disks: all bytes: walked. -/
namespace Go.Proofs.Ytnlmeaijnfjakaa.Sh
set_option linter.unusedSimpArgs false
set_option linter.unusedVariables false
open Go Go.RowKit

set_option maxRecDepth 20000 in
set_option maxHeartbeats 1600000 in
theorem rall_any (w : World) (fv lv : Value) (f l : List UInt8) (hf : Bs w fv f) (hl : Bs w lv l) (hlen : f.length + l.length ≤ 500000) :
    Calls Try.prog 77 #[dskV fv lv] w fun e w' => ∃ v', e = .returned v' ∧ Fresh w w' v' (f ++ l) ∧ Only [] w w' := by
  obtain ⟨fa, fc, rfl⟩ := bs_form hf
  obtain ⟨la, lc, rfl⟩ := bs_form hl
  obtain ⟨w1, hw1⟩ : ∃ w1, w1 = w.alloc (Obj.cells #[.slice fa f.length fc, .slice la l.length lc] 49) := ⟨_, rfl⟩
  have o1 : Only [] w w1 := by rw [hw1]; exact (Only.refl [] w).alloc _
  have c0 : w1.cell? ⟨w.heap.size, 0, none⟩ = some (.slice fa f.length fc) := by rw [hw1]; simp [go_sem]
  have c1 : w1.cell? ⟨w.heap.size, 1, none⟩ = some (.slice la l.length lc) := by rw [hw1]; simp [go_sem]
  have hs1 : w1.heap.size = w.heap.size + 1 := by rw [hw1]; simp
  have hf1 := hf.kept0 o1
  have hl1 := hl.kept0 o1
  go_enter Try.func77, Try.ntmps77
  go_wp2_with fail
  rw [← hw1]
  clear hw1
  have hod : Only [] w1 (w1.alloc (Obj.cells #[] 5)).drew := ((Only.refl [] w1).alloc _).drew
  have ob : (w1.alloc (Obj.cells #[] 5)).drew.ownsRow w1.heap.size 5 1 (.slice (some ⟨w1.heap.size, 0, none⟩) 0 0) 0 [] := ownsRow_drew (own_built w1 [] 5 1 0 rfl (by unfold maxLen; omega))
  have HS1 := hid hs1
  clear hs1
  have e0 := hod.cell c0 (by simp)
  have e1 := hod.cell c1 (by simp)
  go_region_law (first
    | ((refine step_app (by rfl) _ _ 27 (by rfl) w1.heap.size 5 1 1 el_u8 (by rfl) ob (by rfl) (hf1.kept0 hod) (bytes_one f) (by omega) (by omega) (by simp) ?_); intro v2 w2 own2 app2; rw [Nat.zero_add, List.nil_append] at own2; have p2 : Only [] w1 w2 := hod.app app2 (fun i hi => .inr (ob.lt i hi).1); obtain ⟨xa, xc, rfl⟩ := own_form own2; have d0 := p2.cell c0 (by simp); have d1 := p2.cell c1 (by simp))
    | ((refine step_app (by rfl) _ _ 27 (by rfl) w1.heap.size 5 1 1 el_u8 (by rfl) own2 (by rfl) (hl1.kept0 p2) (bytes_one l) (by omega) (by omega) (by have := p2.size; omega) ?_); intro v3 w3 own3 app3; have p3 : Only [] w1 w3 := p2.app app3 (fun i hi => .inr (own2.lt i hi).1); obtain ⟨ya, yc, rfl⟩ := own_form own3))
  all_goals
    go_wp2
    go_ret
    exact ⟨_, rfl, own_lower (own_cast own3 (by simp) (by simp)) (by have := HS1.out; omega), o1.trans0 p3⟩
end Go.Proofs.Ytnlmeaijnfjakaa.Sh
/- The document's disks: crashed: walked. (Printed by gen_rjoub.py.) -/
namespace Go.Proofs.Ytnlmeaijnfjakaa.Sh
set_option linter.unusedSimpArgs false
set_option linter.unusedVariables false
open Go Go.RowKit

set_option maxRecDepth 20000 in
set_option maxHeartbeats 3200000 in
theorem rcrash_any (w : World) (fv lv : Value) (f l : List UInt8) (keep : Int) (torn : UInt8) (hf : Bs w fv f) (hl : Bs w lv l) (hk : -9223372036854775808 ≤ keep ∧ keep ≤ 9223372036854775807) (hlen : f.length + l.length ≤ 500000) :
    Calls Try.prog 28 #[dskV fv lv, .int .i64 keep, .int .u8 (torn.toNat : Int)] w fun e w' => ∃ fv', e = .returned (dskV fv' (.slice none 0 0)) ∧ Fresh w w' fv' (crashL f l keep torn) ∧ Only [] w w' := by
  obtain ⟨_, fa, fc, rfl, f1, f2, f3, _⟩ := id hf
  obtain ⟨_, la, lc, rfl, l1, l2, l3, _⟩ := id hl
  obtain ⟨w1, hw1⟩ : ∃ w1, w1 = (w.alloc (Obj.cells #[.slice fa f.length fc, .slice la l.length lc] 49)).alloc (Obj.cells #[.slice none 0 0, .slice none 0 0] 49) := ⟨_, rfl⟩
  have ho1 : Only [] w w1 := by rw [hw1]; exact ((Only.refl [] w).alloc _).alloc _
  have c0 : w1.cell? ⟨w.heap.size, 0, none⟩ = some (.slice fa f.length fc) := by rw [hw1]; simp [go_sem]
  have c1 : w1.cell? ⟨w.heap.size, 1, none⟩ = some (.slice la l.length lc) := by rw [hw1]; simp [go_sem]
  have r0 : w1.cell? ⟨w.heap.size + 1, 0, none⟩ = some (.slice none 0 0) ∧ w1.frozen? ⟨w.heap.size + 1, 0, none⟩ = false := by rw [hw1]; constructor <;> simp [go_sem]
  have r1 : w1.cell? ⟨w.heap.size + 1, 1, none⟩ = some (.slice none 0 0) ∧ w1.frozen? ⟨w.heap.size + 1, 1, none⟩ = false := by rw [hw1]; constructor <;> simp [go_sem]
  have hs1 : w1.heap.size = w.heap.size + 2 := by rw [hw1]; simp
  obtain ⟨n, hn⟩ : ∃ n, n = keepN keep l.length := ⟨_, rfl⟩
  have hnl : n ≤ l.length := by rw [hn]; unfold keepN; omega
  obtain ⟨z, hz⟩ : ∃ z, z = f ++ l.take n := ⟨_, rfl⟩
  have hzl : z.length = f.length + n := by rw [hz]; simp; omega
  have hlt := (hl.kept0 ho1).pre n hnl
  have hf1 := hf.kept0 ho1
  obtain ⟨T, hT⟩ : ∃ T, T = l.take n := ⟨_, rfl⟩
  rw [← hT] at hlt hz
  have hTl : T.length = n := by rw [hT]; simp; omega
  obtain ⟨Z, hZ⟩ : ∃ Z, Z = crashL f l keep torn := ⟨_, rfl⟩
  rw [← hZ]
  have hcr : Hid (Z = if 0 < n then z.set (z.length - 1) (z.getD (z.length - 1) 0 ^^^ torn) else z) := by
    show _ = _
    rw [hZ]
    unfold crashL
    rw [← hn, ← hT, ← hz, hzl]
  clear hZ hT
  have hnk : (keep < 0 ∧ n = 0) ∨ (keep = 0 ∧ 0 < l.length ∧ n = 0) ∨ (0 < keep ∧ l = [] ∧ n = 0) ∨ (keep = 0 ∧ l = [] ∧ n = 0) ∨ (0 < n ∧ n < l.length ∧ keep = (n : Int)) ∨ (0 < l.length ∧ keep = (l.length : Int) ∧ n = l.length) ∨ (0 < l.length ∧ (l.length : Int) < keep ∧ n = l.length) := by
    have h0 : l.length = 0 → l = [] := List.eq_nil_of_length_eq_zero
    rw [hn]; unfold keepN
    by_cases h : l.length = 0
    · have := h0 h
      subst this
      simp
      omega
    · omega
  have HS1 := hid hs1
  have HZL := hid hzl
  have HZ := hid hz
  have HTL := hid hTl
  have hTs : T.length ≤ 500000 := by omega
  have hod : Only [] w1 (w1.alloc (Obj.cells #[] 5)).drew := ((Only.refl [] w1).alloc _).drew
  have ob : (w1.alloc (Obj.cells #[] 5)).drew.ownsRow w1.heap.size 5 1 (.slice (some ⟨w1.heap.size, 0, none⟩) 0 0) 0 [] := ownsRow_drew (own_built w1 [] 5 1 0 rfl (by unfold maxLen; omega))
  have e0 := hod.cell c0 (by simp)
  have e1 := hod.cell c1 (by simp)
  clear hn hz hs1 hzl hTl
  rcases hnk with ⟨k1, rfl⟩ | ⟨rfl, k2, rfl⟩ | ⟨k1, rfl, rfl⟩ | ⟨rfl, rfl, rfl⟩ | ⟨k1, k2, rfl⟩ | ⟨k1, rfl, rfl⟩ | ⟨k1, k2, rfl⟩
  · skip
    go_enter Try.func28, Try.ntmps28
    go_wp2_with fail
    rw [← hw1]
    clear hw1
    go_region_law (first
      | ((refine step_app (by rfl) _ _ 27 (by rfl) w1.heap.size 5 1 1 el_u8 (by rfl) ob (by rfl) (hf1.kept0 hod) (bytes_one f) (by omega) (by omega) (by simp) ?_); intro v2 w2 own2 app2; rw [Nat.zero_add, List.nil_append] at own2; have p2 : Only [] w1 w2 := hod.app app2 (fun i hi => .inr (ob.lt i hi).1); obtain ⟨xa, xc, rfl⟩ := own_form own2; have d0 := p2.cell c0 (by simp); have d1 := p2.cell c1 (by simp))
      | ((refine step_app (by rfl) _ _ 27 (by rfl) w1.heap.size 5 1 1 el_u8 (by rfl) own2 (by rfl) (hlt.kept0 p2) (bytes_one T) (by omega) (by omega) (by have := p2.size; omega) ?_); intro v3 w3 own3 app3; have p3 : Only [] w1 w3 := p2.app app3 (fun i hi => .inr (own2.lt i hi).1); replace own3 := own_cast (n' := z.length) (xs' := bytes z) own3 (by rw [HZL.out, HTL.out]) (by rw [HZ.out]; simp [bytes]); obtain ⟨ya, yc, rfl⟩ := own_form own3))
    all_goals
      obtain ⟨p0, p1⟩ := cell_kept p3 (by simp) r0
      obtain ⟨p2', p3'⟩ := cell_kept p3 (by simp) r1
      have e2 : w3.ownsRow (w.heap.size + 2) 5 1 (.slice ya z.length yc) z.length (bytes z) := own_lower own3 (by have := HS1.out; omega)
      have hO : Only [w.heap.size + 1] w3 ((w3.setCell ⟨w.heap.size + 1, 0, none⟩ (.slice ya z.length yc)).setCell ⟨w.heap.size + 1, 1, none⟩ (.slice none 0 0)) := ((Only.refl _ w3).setCell (.inl (by simp)) _).setCell (.inl (by simp)) _
      have hcr2 := hcr.out
      rw [if_neg (by simp)] at hcr2
      replace hcr2 := hid hcr2
      have g2 := hid (own_lower (own_only e2 hO (fun k hk => by have := (e2.lt k hk).1; simp; omega)) (Nat.le_add_right w.heap.size 2))
      have hfin := (ho1.trans0 p3).trans hO (ds := []) (by simp) (by simp)
      clear e2 hO hcr own3 own2 app2 app3 d0 d1
      go_wp2
      exact bodyPost_ret (v := dskV (.slice ya z.length yc) (.slice none 0 0)) (by simp [results, Try.results28, go_sem, p0, p2']) rfl ⟨_, rfl, own_cast g2.out (by rw [hcr2.out]) (by rw [hcr2.out]), hfin⟩
  · skip
    go_enter Try.func28, Try.ntmps28
    go_wp2_with fail
    rw [← hw1]
    clear hw1
    go_region_law (first
      | ((refine step_app (by rfl) _ _ 27 (by rfl) w1.heap.size 5 1 1 el_u8 (by rfl) ob (by rfl) (hf1.kept0 hod) (bytes_one f) (by omega) (by omega) (by simp) ?_); intro v2 w2 own2 app2; rw [Nat.zero_add, List.nil_append] at own2; have p2 : Only [] w1 w2 := hod.app app2 (fun i hi => .inr (ob.lt i hi).1); obtain ⟨xa, xc, rfl⟩ := own_form own2; have d0 := p2.cell c0 (by simp); have d1 := p2.cell c1 (by simp))
      | ((refine step_app (by rfl) _ _ 27 (by rfl) w1.heap.size 5 1 1 el_u8 (by rfl) own2 (by rfl) (hlt.kept0 p2) (bytes_one T) (by omega) (by omega) (by have := p2.size; omega) ?_); intro v3 w3 own3 app3; have p3 : Only [] w1 w3 := p2.app app3 (fun i hi => .inr (own2.lt i hi).1); replace own3 := own_cast (n' := z.length) (xs' := bytes z) own3 (by rw [HZL.out, HTL.out]) (by rw [HZ.out]; simp [bytes]); obtain ⟨ya, yc, rfl⟩ := own_form own3))
    all_goals
      obtain ⟨p0, p1⟩ := cell_kept p3 (by simp) r0
      obtain ⟨p2', p3'⟩ := cell_kept p3 (by simp) r1
      have e2 : w3.ownsRow (w.heap.size + 2) 5 1 (.slice ya z.length yc) z.length (bytes z) := own_lower own3 (by have := HS1.out; omega)
      have hO : Only [w.heap.size + 1] w3 ((w3.setCell ⟨w.heap.size + 1, 0, none⟩ (.slice ya z.length yc)).setCell ⟨w.heap.size + 1, 1, none⟩ (.slice none 0 0)) := ((Only.refl _ w3).setCell (.inl (by simp)) _).setCell (.inl (by simp)) _
      have hcr2 := hcr.out
      rw [if_neg (by simp)] at hcr2
      replace hcr2 := hid hcr2
      have g2 := hid (own_lower (own_only e2 hO (fun k hk => by have := (e2.lt k hk).1; simp; omega)) (Nat.le_add_right w.heap.size 2))
      have hfin := (ho1.trans0 p3).trans hO (ds := []) (by simp) (by simp)
      clear e2 hO hcr own3 own2 app2 app3 d0 d1
      go_wp2
      exact bodyPost_ret (v := dskV (.slice ya z.length yc) (.slice none 0 0)) (by simp [results, Try.results28, go_sem, p0, p2']) rfl ⟨_, rfl, own_cast g2.out (by rw [hcr2.out]) (by rw [hcr2.out]), hfin⟩
  · skip
    simp only [List.length_nil] at hw1 c1 e1 hlt l1 l2 l3
    go_enter Try.func28, Try.ntmps28
    go_wp2_with fail
    rw [← hw1]
    clear hw1
    go_region_law (first
      | ((refine step_app (by rfl) _ _ 27 (by rfl) w1.heap.size 5 1 1 el_u8 (by rfl) ob (by rfl) (hf1.kept0 hod) (bytes_one f) (by omega) (by omega) (by simp) ?_); intro v2 w2 own2 app2; rw [Nat.zero_add, List.nil_append] at own2; have p2 : Only [] w1 w2 := hod.app app2 (fun i hi => .inr (ob.lt i hi).1); obtain ⟨xa, xc, rfl⟩ := own_form own2; have d0 := p2.cell c0 (by simp); have d1 := p2.cell c1 (by simp))
      | ((refine step_app (by rfl) _ _ 27 (by rfl) w1.heap.size 5 1 1 el_u8 (by rfl) own2 (by rfl) (hlt.kept0 p2) (bytes_one T) (by omega) (by omega) (by have := p2.size; omega) ?_); intro v3 w3 own3 app3; have p3 : Only [] w1 w3 := p2.app app3 (fun i hi => .inr (own2.lt i hi).1); replace own3 := own_cast (n' := z.length) (xs' := bytes z) own3 (by rw [HZL.out, HTL.out]) (by rw [HZ.out]; simp [bytes]); obtain ⟨ya, yc, rfl⟩ := own_form own3))
    all_goals
      obtain ⟨p0, p1⟩ := cell_kept p3 (by simp) r0
      obtain ⟨p2', p3'⟩ := cell_kept p3 (by simp) r1
      have e2 : w3.ownsRow (w.heap.size + 2) 5 1 (.slice ya z.length yc) z.length (bytes z) := own_lower own3 (by have := HS1.out; omega)
      have hO : Only [w.heap.size + 1] w3 ((w3.setCell ⟨w.heap.size + 1, 0, none⟩ (.slice ya z.length yc)).setCell ⟨w.heap.size + 1, 1, none⟩ (.slice none 0 0)) := ((Only.refl _ w3).setCell (.inl (by simp)) _).setCell (.inl (by simp)) _
      have hcr2 := hcr.out
      rw [if_neg (by simp)] at hcr2
      replace hcr2 := hid hcr2
      have g2 := hid (own_lower (own_only e2 hO (fun k hk => by have := (e2.lt k hk).1; simp; omega)) (Nat.le_add_right w.heap.size 2))
      have hfin := (ho1.trans0 p3).trans hO (ds := []) (by simp) (by simp)
      clear e2 hO hcr own3 own2 app2 app3 d0 d1
      go_wp2
      exact bodyPost_ret (v := dskV (.slice ya z.length yc) (.slice none 0 0)) (by simp [results, Try.results28, go_sem, p0, p2']) rfl ⟨_, rfl, own_cast g2.out (by rw [hcr2.out]) (by rw [hcr2.out]), hfin⟩
  · skip
    simp only [List.length_nil] at hw1 c1 e1 hlt l1 l2 l3
    go_enter Try.func28, Try.ntmps28
    go_wp2_with fail
    rw [← hw1]
    clear hw1
    go_region_law (first
      | ((refine step_app (by rfl) _ _ 27 (by rfl) w1.heap.size 5 1 1 el_u8 (by rfl) ob (by rfl) (hf1.kept0 hod) (bytes_one f) (by omega) (by omega) (by simp) ?_); intro v2 w2 own2 app2; rw [Nat.zero_add, List.nil_append] at own2; have p2 : Only [] w1 w2 := hod.app app2 (fun i hi => .inr (ob.lt i hi).1); obtain ⟨xa, xc, rfl⟩ := own_form own2; have d0 := p2.cell c0 (by simp); have d1 := p2.cell c1 (by simp))
      | ((refine step_app (by rfl) _ _ 27 (by rfl) w1.heap.size 5 1 1 el_u8 (by rfl) own2 (by rfl) (hlt.kept0 p2) (bytes_one T) (by omega) (by omega) (by have := p2.size; omega) ?_); intro v3 w3 own3 app3; have p3 : Only [] w1 w3 := p2.app app3 (fun i hi => .inr (own2.lt i hi).1); replace own3 := own_cast (n' := z.length) (xs' := bytes z) own3 (by rw [HZL.out, HTL.out]) (by rw [HZ.out]; simp [bytes]); obtain ⟨ya, yc, rfl⟩ := own_form own3))
    all_goals
      obtain ⟨p0, p1⟩ := cell_kept p3 (by simp) r0
      obtain ⟨p2', p3'⟩ := cell_kept p3 (by simp) r1
      have e2 : w3.ownsRow (w.heap.size + 2) 5 1 (.slice ya z.length yc) z.length (bytes z) := own_lower own3 (by have := HS1.out; omega)
      have hO : Only [w.heap.size + 1] w3 ((w3.setCell ⟨w.heap.size + 1, 0, none⟩ (.slice ya z.length yc)).setCell ⟨w.heap.size + 1, 1, none⟩ (.slice none 0 0)) := ((Only.refl _ w3).setCell (.inl (by simp)) _).setCell (.inl (by simp)) _
      have hcr2 := hcr.out
      rw [if_neg (by simp)] at hcr2
      replace hcr2 := hid hcr2
      have g2 := hid (own_lower (own_only e2 hO (fun k hk => by have := (e2.lt k hk).1; simp; omega)) (Nat.le_add_right w.heap.size 2))
      have hfin := (ho1.trans0 p3).trans hO (ds := []) (by simp) (by simp)
      clear e2 hO hcr own3 own2 app2 app3 d0 d1
      go_wp2
      exact bodyPost_ret (v := dskV (.slice ya z.length yc) (.slice none 0 0)) (by simp [results, Try.results28, go_sem, p0, p2']) rfl ⟨_, rfl, own_cast g2.out (by rw [hcr2.out]) (by rw [hcr2.out]), hfin⟩
  · skip
    have hnc2 : (n : Int) ≤ (lc : Int) := by omega
    have hnc3 : (0 : Int) ≤ (n : Int) := by omega
    go_enter Try.func28, Try.ntmps28
    go_wp2_with fail
    rw [← hw1]
    clear hw1
    go_region_law (first
      | ((refine step_app (by rfl) _ _ 27 (by rfl) w1.heap.size 5 1 1 el_u8 (by rfl) ob (by rfl) (hf1.kept0 hod) (bytes_one f) (by omega) (by omega) (by simp) ?_); intro v2 w2 own2 app2; rw [Nat.zero_add, List.nil_append] at own2; have p2 : Only [] w1 w2 := hod.app app2 (fun i hi => .inr (ob.lt i hi).1); obtain ⟨xa, xc, rfl⟩ := own_form own2; have d0 := p2.cell c0 (by simp); have d1 := p2.cell c1 (by simp))
      | ((refine step_app (by rfl) _ _ 27 (by rfl) w1.heap.size 5 1 1 el_u8 (by rfl) own2 (by rfl) (hlt.kept0 p2) (bytes_one T) (by omega) (by omega) (by have := p2.size; omega) ?_); intro v3 w3 own3 app3; have p3 : Only [] w1 w3 := p2.app app3 (fun i hi => .inr (own2.lt i hi).1); replace own3 := own_cast (n' := z.length) (xs' := bytes z) own3 (by rw [HZL.out, HTL.out]) (by rw [HZ.out]; simp [bytes]); obtain ⟨ya, yc, rfl⟩ := own_form own3))
    all_goals
      obtain ⟨p0, p1⟩ := cell_kept p3 (by simp) r0
      obtain ⟨p2', p3'⟩ := cell_kept p3 (by simp) r1
      have e2 : w3.ownsRow (w.heap.size + 2) 5 1 (.slice ya z.length yc) z.length (bytes z) := own_lower own3 (by have := HS1.out; omega)
      obtain ⟨q, hq1⟩ : ∃ q, z.length = q + 1 := ⟨z.length - 1, by have := HZL.out; omega⟩
      have hqb : q < 1000000 := by have := HZL.out; omega
      obtain ⟨g, gc, he, hgb, hgl, gc1, gc2, hat⟩ := own_at e2 (by omega)
      simp only [Value.slice.injEq] at he
      obtain ⟨rfl, _, rfl⟩ := he
      obtain ⟨y, hy⟩ : ∃ y, y = z.getD q 0 := ⟨_, rfl⟩
      have hyz : (bytes z)[q]? = some (vU8 y) := by
        rw [hy]
        simp [bytes, List.getD, List.getElem?_eq_getElem (show q < z.length by omega)]
      obtain ⟨d1', d2'⟩ := hat q _ hyz
      have hset := own_set e2 (i := q) (by omega) (vU8 (y ^^^ torn))
      rw [show (bytes z).set q (vU8 (y ^^^ torn)) = bytes (z.set q (y ^^^ torn)) by simp [bytes, List.map_set]] at hset
      have hx := xor_u8 y torn
      have hyb := u8_bound y
      have htb := u8_bound torn
      obtain ⟨x, hxx⟩ : ∃ x, x = y ^^^ torn := ⟨_, rfl⟩
      rw [← hxx] at hset hx
      have hO : Only [g, w.heap.size + 1] w3 (((w3.setCell ⟨g, q, none⟩ (vU8 x)).setCell ⟨w.heap.size + 1, 0, none⟩ (.slice (some ⟨g, 0, none⟩) z.length yc)).setCell ⟨w.heap.size + 1, 1, none⟩ (.slice none 0 0)) := (((Only.refl _ w3).setCell (.inl (by simp)) _).setCell (.inl (by simp)) _).setCell (.inl (by simp)) _
      have hOr : Only [w.heap.size + 1] (w3.setCell ⟨g, q, none⟩ (vU8 x)) (((w3.setCell ⟨g, q, none⟩ (vU8 x)).setCell ⟨w.heap.size + 1, 0, none⟩ (.slice (some ⟨g, 0, none⟩) z.length yc)).setCell ⟨w.heap.size + 1, 1, none⟩ (.slice none 0 0)) := ((Only.refl _ _).setCell (.inl (by simp)) _).setCell (.inl (by simp)) _
      have g2 := own_lower (own_only hset hOr (fun k hk => by simp [Value.ownBlock] at hk; simp; omega)) (Nat.le_add_right w.heap.size 2)
      have hfin := (ho1.trans0 p3).trans hO (ds := []) (by simp) (by simp; omega)
      have hgn : g ≠ w.heap.size + 1 := by omega
      have hcr2 := hcr.out
      rw [if_pos (by omega), hq1, Nat.add_sub_cancel, ← hy, ← hxx] at hcr2
      replace hcr2 := hid hcr2
      rw [hq1] at g2 hfin
      replace g2 := hid (own_cast (xs' := bytes (z.set q x)) (n' := (z.set q x).length) g2 (by simp; omega) rfl)
      replace hq1 := hid hq1
      clear e2 hat hset hy hyz hxx hO hOr hcr own3 own2 app2 app3 d0 d1
      rw [hq1.out]
      go_wp2
      exact bodyPost_ret (v := dskV (.slice (some ⟨g, 0, none⟩) (q + 1) yc) (.slice none 0 0)) (by simp [results, Try.results28, go_sem, p0, p2']) rfl ⟨_, rfl, own_cast g2.out (by rw [hcr2.out]) (by rw [hcr2.out]), hfin⟩
  · skip
    have hnc2 : (l.length : Int) ≤ (lc : Int) := by omega
    have hnc3 : (0 : Int) ≤ (l.length : Int) := by omega
    go_enter Try.func28, Try.ntmps28
    go_wp2_with fail
    rw [← hw1]
    clear hw1
    go_region_law (first
      | ((refine step_app (by rfl) _ _ 27 (by rfl) w1.heap.size 5 1 1 el_u8 (by rfl) ob (by rfl) (hf1.kept0 hod) (bytes_one f) (by omega) (by omega) (by simp) ?_); intro v2 w2 own2 app2; rw [Nat.zero_add, List.nil_append] at own2; have p2 : Only [] w1 w2 := hod.app app2 (fun i hi => .inr (ob.lt i hi).1); obtain ⟨xa, xc, rfl⟩ := own_form own2; have d0 := p2.cell c0 (by simp); have d1 := p2.cell c1 (by simp))
      | ((refine step_app (by rfl) _ _ 27 (by rfl) w1.heap.size 5 1 1 el_u8 (by rfl) own2 (by rfl) (hlt.kept0 p2) (bytes_one T) (by omega) (by omega) (by have := p2.size; omega) ?_); intro v3 w3 own3 app3; have p3 : Only [] w1 w3 := p2.app app3 (fun i hi => .inr (own2.lt i hi).1); replace own3 := own_cast (n' := z.length) (xs' := bytes z) own3 (by rw [HZL.out, HTL.out]) (by rw [HZ.out]; simp [bytes]); obtain ⟨ya, yc, rfl⟩ := own_form own3))
    all_goals
      obtain ⟨p0, p1⟩ := cell_kept p3 (by simp) r0
      obtain ⟨p2', p3'⟩ := cell_kept p3 (by simp) r1
      have e2 : w3.ownsRow (w.heap.size + 2) 5 1 (.slice ya z.length yc) z.length (bytes z) := own_lower own3 (by have := HS1.out; omega)
      obtain ⟨q, hq1⟩ : ∃ q, z.length = q + 1 := ⟨z.length - 1, by have := HZL.out; omega⟩
      have hqb : q < 1000000 := by have := HZL.out; omega
      obtain ⟨g, gc, he, hgb, hgl, gc1, gc2, hat⟩ := own_at e2 (by omega)
      simp only [Value.slice.injEq] at he
      obtain ⟨rfl, _, rfl⟩ := he
      obtain ⟨y, hy⟩ : ∃ y, y = z.getD q 0 := ⟨_, rfl⟩
      have hyz : (bytes z)[q]? = some (vU8 y) := by
        rw [hy]
        simp [bytes, List.getD, List.getElem?_eq_getElem (show q < z.length by omega)]
      obtain ⟨d1', d2'⟩ := hat q _ hyz
      have hset := own_set e2 (i := q) (by omega) (vU8 (y ^^^ torn))
      rw [show (bytes z).set q (vU8 (y ^^^ torn)) = bytes (z.set q (y ^^^ torn)) by simp [bytes, List.map_set]] at hset
      have hx := xor_u8 y torn
      have hyb := u8_bound y
      have htb := u8_bound torn
      obtain ⟨x, hxx⟩ : ∃ x, x = y ^^^ torn := ⟨_, rfl⟩
      rw [← hxx] at hset hx
      have hO : Only [g, w.heap.size + 1] w3 (((w3.setCell ⟨g, q, none⟩ (vU8 x)).setCell ⟨w.heap.size + 1, 0, none⟩ (.slice (some ⟨g, 0, none⟩) z.length yc)).setCell ⟨w.heap.size + 1, 1, none⟩ (.slice none 0 0)) := (((Only.refl _ w3).setCell (.inl (by simp)) _).setCell (.inl (by simp)) _).setCell (.inl (by simp)) _
      have hOr : Only [w.heap.size + 1] (w3.setCell ⟨g, q, none⟩ (vU8 x)) (((w3.setCell ⟨g, q, none⟩ (vU8 x)).setCell ⟨w.heap.size + 1, 0, none⟩ (.slice (some ⟨g, 0, none⟩) z.length yc)).setCell ⟨w.heap.size + 1, 1, none⟩ (.slice none 0 0)) := ((Only.refl _ _).setCell (.inl (by simp)) _).setCell (.inl (by simp)) _
      have g2 := own_lower (own_only hset hOr (fun k hk => by simp [Value.ownBlock] at hk; simp; omega)) (Nat.le_add_right w.heap.size 2)
      have hfin := (ho1.trans0 p3).trans hO (ds := []) (by simp) (by simp; omega)
      have hgn : g ≠ w.heap.size + 1 := by omega
      have hcr2 := hcr.out
      rw [if_pos (by omega), hq1, Nat.add_sub_cancel, ← hy, ← hxx] at hcr2
      replace hcr2 := hid hcr2
      rw [hq1] at g2 hfin
      replace g2 := hid (own_cast (xs' := bytes (z.set q x)) (n' := (z.set q x).length) g2 (by simp; omega) rfl)
      replace hq1 := hid hq1
      clear e2 hat hset hy hyz hxx hO hOr hcr own3 own2 app2 app3 d0 d1
      rw [hq1.out]
      go_wp2
      exact bodyPost_ret (v := dskV (.slice (some ⟨g, 0, none⟩) (q + 1) yc) (.slice none 0 0)) (by simp [results, Try.results28, go_sem, p0, p2']) rfl ⟨_, rfl, own_cast g2.out (by rw [hcr2.out]) (by rw [hcr2.out]), hfin⟩
  · skip
    have hnc2 : (l.length : Int) ≤ (lc : Int) := by omega
    have hnc3 : (0 : Int) ≤ (l.length : Int) := by omega
    go_enter Try.func28, Try.ntmps28
    go_wp2_with fail
    rw [← hw1]
    clear hw1
    go_region_law (first
      | ((refine step_app (by rfl) _ _ 27 (by rfl) w1.heap.size 5 1 1 el_u8 (by rfl) ob (by rfl) (hf1.kept0 hod) (bytes_one f) (by omega) (by omega) (by simp) ?_); intro v2 w2 own2 app2; rw [Nat.zero_add, List.nil_append] at own2; have p2 : Only [] w1 w2 := hod.app app2 (fun i hi => .inr (ob.lt i hi).1); obtain ⟨xa, xc, rfl⟩ := own_form own2; have d0 := p2.cell c0 (by simp); have d1 := p2.cell c1 (by simp))
      | ((refine step_app (by rfl) _ _ 27 (by rfl) w1.heap.size 5 1 1 el_u8 (by rfl) own2 (by rfl) (hlt.kept0 p2) (bytes_one T) (by omega) (by omega) (by have := p2.size; omega) ?_); intro v3 w3 own3 app3; have p3 : Only [] w1 w3 := p2.app app3 (fun i hi => .inr (own2.lt i hi).1); replace own3 := own_cast (n' := z.length) (xs' := bytes z) own3 (by rw [HZL.out, HTL.out]) (by rw [HZ.out]; simp [bytes]); obtain ⟨ya, yc, rfl⟩ := own_form own3))
    all_goals
      obtain ⟨p0, p1⟩ := cell_kept p3 (by simp) r0
      obtain ⟨p2', p3'⟩ := cell_kept p3 (by simp) r1
      have e2 : w3.ownsRow (w.heap.size + 2) 5 1 (.slice ya z.length yc) z.length (bytes z) := own_lower own3 (by have := HS1.out; omega)
      obtain ⟨q, hq1⟩ : ∃ q, z.length = q + 1 := ⟨z.length - 1, by have := HZL.out; omega⟩
      have hqb : q < 1000000 := by have := HZL.out; omega
      obtain ⟨g, gc, he, hgb, hgl, gc1, gc2, hat⟩ := own_at e2 (by omega)
      simp only [Value.slice.injEq] at he
      obtain ⟨rfl, _, rfl⟩ := he
      obtain ⟨y, hy⟩ : ∃ y, y = z.getD q 0 := ⟨_, rfl⟩
      have hyz : (bytes z)[q]? = some (vU8 y) := by
        rw [hy]
        simp [bytes, List.getD, List.getElem?_eq_getElem (show q < z.length by omega)]
      obtain ⟨d1', d2'⟩ := hat q _ hyz
      have hset := own_set e2 (i := q) (by omega) (vU8 (y ^^^ torn))
      rw [show (bytes z).set q (vU8 (y ^^^ torn)) = bytes (z.set q (y ^^^ torn)) by simp [bytes, List.map_set]] at hset
      have hx := xor_u8 y torn
      have hyb := u8_bound y
      have htb := u8_bound torn
      obtain ⟨x, hxx⟩ : ∃ x, x = y ^^^ torn := ⟨_, rfl⟩
      rw [← hxx] at hset hx
      have hO : Only [g, w.heap.size + 1] w3 (((w3.setCell ⟨g, q, none⟩ (vU8 x)).setCell ⟨w.heap.size + 1, 0, none⟩ (.slice (some ⟨g, 0, none⟩) z.length yc)).setCell ⟨w.heap.size + 1, 1, none⟩ (.slice none 0 0)) := (((Only.refl _ w3).setCell (.inl (by simp)) _).setCell (.inl (by simp)) _).setCell (.inl (by simp)) _
      have hOr : Only [w.heap.size + 1] (w3.setCell ⟨g, q, none⟩ (vU8 x)) (((w3.setCell ⟨g, q, none⟩ (vU8 x)).setCell ⟨w.heap.size + 1, 0, none⟩ (.slice (some ⟨g, 0, none⟩) z.length yc)).setCell ⟨w.heap.size + 1, 1, none⟩ (.slice none 0 0)) := ((Only.refl _ _).setCell (.inl (by simp)) _).setCell (.inl (by simp)) _
      have g2 := own_lower (own_only hset hOr (fun k hk => by simp [Value.ownBlock] at hk; simp; omega)) (Nat.le_add_right w.heap.size 2)
      have hfin := (ho1.trans0 p3).trans hO (ds := []) (by simp) (by simp; omega)
      have hgn : g ≠ w.heap.size + 1 := by omega
      have hcr2 := hcr.out
      rw [if_pos (by omega), hq1, Nat.add_sub_cancel, ← hy, ← hxx] at hcr2
      replace hcr2 := hid hcr2
      rw [hq1] at g2 hfin
      replace g2 := hid (own_cast (xs' := bytes (z.set q x)) (n' := (z.set q x).length) g2 (by simp; omega) rfl)
      replace hq1 := hid hq1
      clear e2 hat hset hy hyz hxx hO hOr hcr own3 own2 app2 app3 d0 d1
      rw [hq1.out]
      go_wp2
      exact bodyPost_ret (v := dskV (.slice (some ⟨g, 0, none⟩) (q + 1) yc) (.slice none 0 0)) (by simp [results, Try.results28, go_sem, p0, p2']) rfl ⟨_, rfl, own_cast g2.out (by rw [hcr2.out]) (by rw [hcr2.out]), hfin⟩
end Go.Proofs.Ytnlmeaijnfjakaa.Sh
/- The reference's All, walked. -/
namespace Go.Proofs.Ytnlmeaijnfjakaa.Sh
set_option linter.unusedSimpArgs false
set_option linter.unusedVariables false
open Go Go.RowKit

set_option maxHeartbeats 1600000 in
theorem refAll_any (v : Value) (l : List UInt8) (w : World) (hB : Bs w v l) (hlen : l.length ≤ 1099511627776) :
    Calls Try.prog 76 #[v] w (AllPost l w) := by
  obtain ⟨_, a, cap, rfl, h1, h2, h3, _⟩ := id hB
  go_enter Try.func76, Try.ntmps76
  go_wp2_with fail
  go_loopw [4, 5] (fun out at_ wr => ∃ (k : Nat) (ls : List (List UInt8)), k ≤ l.length ∧ at_ = .int .i64 k ∧ Hid (allL l = (ls ++ (allL (l.drop k)).1, k + (allL (l.drop k)).2)) ∧ OwnBss w.heap.size wr out ls ∧ Only [] w wr ∧ 7 * ls.length ≤ k) (fun _ at_ _ => l.length - (intOf at_).toNat)
  case atStart => exact ⟨0, [], Nat.zero_le _, rfl, by simp [Hid], ⟨[], World.ownsRow_nil _ _ _ _, .nil⟩, Only.refl _ _, by simp⟩
  case round =>
    obtain ⟨k, ls, hk, rfl, hall, hout, ho, hlk⟩ := hrel
    by_cases hcap : cap = k
    · -- nothing is left
      subst hcap
      have hkl : l.length = cap := by omega
      have hd : l.drop cap = [] := List.drop_of_length_le (by omega)
      have hbad := hid (show allL l = (ls, cap) by rw [hall.out, hd, allL_bad [] (by simp [firstL])]; simp)
      have hz : l.length - cap = 0 := by omega
      have hke : (0 : Int) ≤ (cap : Int) := by omega
      have HKL := hid hkl
      clear hall hd hkl
      go_wp2_with fail
      refine (refNext_any _ [] _ (Bs.empty (by omega))).mono ?_
      rintro e w1 ⟨rfl, hp1⟩
      rw [show firstL [] = (2, 0) by simp [firstL]]
      go_wp2
      go_ret2
      exact ⟨_, by rw [hbad.out]; rfl, by rw [hbad.out]; exact hout.kept0 hp1, ho.trans0 hp1⟩
    · have hkc : k < cap := by omega
      clear hcap
      by_cases hkl : k < l.length
      · obtain ⟨b, o, cap', he, _, _, _, _⟩ := hB.form (by omega)
        obtain ⟨rfl, rfl⟩ : a = some ⟨b, o, none⟩ ∧ cap = cap' := by simpa using he
        clear he
        have hBk := (hB.kept0 ho).tail k hk
        go_wp2_with fail
        refine (refNext_any _ (l.drop k) _ hBk).mono ?_
        rintro e w1 ⟨rfl, hp1⟩
        have ho1 := ho.trans0 hp1
        by_cases hE : (firstL (l.drop k)).1 = 0
        · have hb := firstL_le _ hE
          have hg := allL_good _ hE
          obtain ⟨n, hn⟩ : ∃ n, n = (firstL (l.drop k)).2 := ⟨_, rfl⟩
          rw [← hn] at hb hg ⊢
          rw [hE]
          simp only [List.length_drop, List.drop_drop] at hb hg
          have hall' := hid (show allL l = ((ls ++ [(l.drop (k + 6)).take n]) ++ (allL (l.drop (k + (6 + n)))).1, (k + (6 + n)) + (allL (l.drop (k + (6 + n)))).2) by
            rw [hall.out, hg]
            simp [Nat.add_assoc])
          have hs1 := ho1.size
          have hsub := (hB.kept0 ho1).sub (k + 6) n (by omega)
          have hxl : ((l.drop (k + 6)).take n).length = n := by simp; omega
          obtain ⟨vs, hvs, hels⟩ := hout
          have tok : True := trivial
          have HXL := hid hxl
          have hkn : k + 6 + n - (k + 6) = n := by omega
          clear hall hg hE hn hBk hxl
          go_wp2_with (first
            | (at_builtin; have _t := tok; refine wpList_app (by rfl) _ _ 27 (by rfl) w1.heap.size 5 1 1 el_u8 (by rfl) (own_built w1 [] 5 1 0 rfl (by omega)) (by rw [hkn]; rfl) (Cs.cast (hsub.kept0 ((Only.refl [] w1).alloc _)) HXL.out rfl) (bytes_one _) (by omega) (by omega) (by simp) ?_; intro v2 w2 hown2 happ2; clear tok; have hp2 := ((Only.refl [] w1).alloc _).app happ2 (by intro i hi; simp [Value.ownBlock] at hi; exact .inr (by omega)); have hown2 := own_cast hown2 (show _ = n by omega) (show _ = bytes ((l.drop (k + 6)).take n) by simp); obtain ⟨a2, c2, rfl⟩ := own_form hown2; have hs2 := hp2.size)
            | (at_builtin; refine wpList_app1 (by rfl) _ _ 39 (by rfl) w.heap.size 27 1 24 el_bss (by rfl) (own_only0 (own_only0 hvs hp1) hp2) [_] (by rfl) rfl (one1 rfl) (by omega) (by omega) (by omega) ?_; intro v3 w3 hown3 happ3))
          have ho3 : Only [] w w3 := (ho1.trans0 hp2).app happ3 (fun i hi => by
            have := (hvs.lt i hi).1
            exact .inr this)
          have hels3 : All2 (fun u x => w3.ownsRow w.heap.size 5 1 u x.length (bytes x) ∧ x.length ≤ 9223372036854775807) (vs ++ [.slice a2 n c2]) (ls ++ [(l.drop (k + 6)).take n]) := by
            refine All2.snoc (hels.imp ?_) ⟨own_cast (happ3.other (own_lower hown2 (by omega)) (own_ne hown2 (own_only0 (own_only0 hvs hp1) hp2) (by omega))) HXL.out.symm rfl, by rw [HXL.out]; omega⟩
            rintro u x ⟨h5, h6⟩
            have h7 := own_only0 (own_only0 h5 hp1) hp2
            exact ⟨happ3.other h7 (own_ne h7 (own_only0 (own_only0 hvs hp1) hp2) (by omega)), h6⟩
          go_roundw
          case rel => exact ⟨k + (6 + n), ls ++ [(l.drop (k + 6)).take n], by omega, by go_num, hall', ⟨_, own_cast hown3 (by simp) rfl, hels3⟩, ho3, by simp; omega⟩
          case measure => simp [intOf]; omega
        · have hE' : ((firstL (l.drop k)).1 : Int) ≠ 0 := by omega
          have hbad := hid (show allL l = (ls, k) by rw [hall.out, allL_bad _ hE]; simp)
          clear hall hE
          go_wp2
          go_ret2
          exact ⟨_, by rw [hbad.out]; rfl, by rw [hbad.out]; exact hout.kept0 hp1, ho1⟩
      · obtain rfl : k = l.length := by omega
        have hd : l.drop l.length = [] := List.drop_length
        have hbad := hid (show allL l = (ls, l.length) by rw [hall.out, hd, allL_bad [] (by simp [firstL])]; simp)
        have hz : l.length - l.length = 0 := by omega
        clear hall hd
        go_wp2_with fail
        refine (refNext_any _ [] _ ?_).mono ?_
        · exact Bs.empty (by omega)
        rintro e w1 ⟨rfl, hp1⟩
        rw [show firstL [] = (2, 0) by simp [firstL]]
        go_wp2
        go_ret2
        exact ⟨_, by rw [hbad.out]; rfl, by rw [hbad.out]; exact hout.kept0 hp1, ho.trans0 hp1⟩
end Go.Proofs.Ytnlmeaijnfjakaa.Sh
/- The document's log in memory: what it is, what it keeps. (Printed by gen_rjouc.py.) -/
namespace Go.Proofs.Ytnlmeaijnfjakaa.Sh
set_option linter.unusedSimpArgs false
set_option linter.unusedVariables false
open Go Go.RowKit

/-- A journal's log at x: its disk's bytes, its records, the blocks that are its own. -/
def RLg (w : World) (x : Nat) (f l : List UInt8) (rs : List (List UInt8)) (bs : List Nat) : Prop :=
  TyAt w x 66 ∧ x ∈ bs ∧ ∃ fv lv rv vs, (w.cell? ⟨x, 0, none⟩ = some fv ∧ w.frozen? ⟨x, 0, none⟩ = false) ∧ (w.cell? ⟨x, 1, none⟩ = some lv ∧ w.frozen? ⟨x, 1, none⟩ = false) ∧ (w.cell? ⟨x, 2, none⟩ = some rv ∧ w.frozen? ⟨x, 2, none⟩ = false) ∧
    Yb w bs fv f ∧ Yb w bs lv l ∧ w.ownsRow 0 27 1 rv rs.length vs ∧ (∀ k, rv.ownBlock = some k → k ∈ bs) ∧ All2 (Yb w bs) vs rs

theorem RLg.only {w w' : World} {x : Nat} {f l : List UInt8} {rs : List (List UInt8)} {bs ds : List Nat} (h : RLg w x f l rs bs) (ho : Only ds w w') (hd : ∀ k ∈ ds, k ∉ bs) : RLg w' x f l rs bs := by
  obtain ⟨ht, hx, fv, lv, rv, vs, c0, c1, c2, h1, h2, h3, h4, h5⟩ := h
  have hxd : x ∉ ds := fun hm => hd x hm hx
  have hd' : ∀ k ∈ ds, k ∉ bs ∨ ¬ TyAt w k 5 := fun k hk => .inl (hd k hk)
  exact ⟨ht.only ho hxd, hx, fv, lv, rv, vs, cell_kept ho hxd c0, cell_kept ho hxd c1, cell_kept ho hxd c2, h1.only ho hd', h2.only ho hd', own_only h3 ho (fun k hk hm => hd k hm (h4 k hk)), h4, h5.imp fun _ _ k => k.only ho hd'⟩

theorem RLg.kept0 {w w' : World} {x : Nat} {f l : List UInt8} {rs : List (List UInt8)} {bs : List Nat} (h : RLg w x f l rs bs) (ho : Only [] w w') : RLg w' x f l rs bs := h.only ho (by simp)

theorem RLg.mono {w : World} {x : Nat} {f l : List UInt8} {rs : List (List UInt8)} {bs ds : List Nat} (h : RLg w x f l rs bs) (hs : ∀ k ∈ bs, k ∈ ds) : RLg w x f l rs ds := by
  obtain ⟨ht, hx, fv, lv, rv, vs, c0, c1, c2, h1, h2, h3, h4, h5⟩ := h
  exact ⟨ht, hs x hx, fv, lv, rv, vs, c0, c1, c2, h1.mono hs, h2.mono hs, h3, fun k hk => hs k (h4 k hk), h5.imp fun _ _ k => k.mono hs⟩

theorem RLg.setDisk {w : World} {x : Nat} {f l f' l' : List UInt8} {rs : List (List UInt8)} {bs : List Nat} {fv' lv' : Value} (h : RLg w x f l rs bs) (hf : Yb w bs fv' f') (hl : Yb w bs lv' l') :
    RLg ((w.setCell ⟨x, 0, none⟩ fv').setCell ⟨x, 1, none⟩ lv') x f' l' rs bs := by
  obtain ⟨ht, hx, fv, lv, rv, vs, c0, c1, c2, h1, h2, h3, h4, h5⟩ := h
  have hO : Only [x] w ((w.setCell ⟨x, 0, none⟩ fv').setCell ⟨x, 1, none⟩ lv') := ((Only.refl _ w).setCell (.inl (by simp)) _).setCell (.inl (by simp)) _
  have hd : ∀ k ∈ [x], k ∉ bs ∨ ¬ TyAt w k 5 := by
    intro k hk
    obtain rfl : k = x := by simpa using hk
    exact .inr (fun h => absurd (h.uniq ht) (by decide))
  refine ⟨(ht.setCell _ _).setCell _ _, hx, fv', lv', rv, vs, ?_, ?_, ?_, hf.only hO hd, hl.only hO hd, own_only h3 hO (fun k hk hm => ?_), h4, h5.imp fun _ _ k => k.only hO hd⟩
  · exact set_cell _ (set_cell _ c0 c1 (by simp)) (same_cell c0) (by simp)
  · exact same_cell (set_cell _ c0 c1 (by simp))
  · exact set_cell _ (set_cell _ c0 c1 (by simp)) (set_cell _ c0 c2 (by simp)) (by simp)
  · obtain rfl : k = x := by simpa using hm
    exact absurd ((own_ty h3 k hk).uniq ht) (by decide)

theorem RLg.setRows {w : World} {x : Nat} {f l : List UInt8} {rs rs' : List (List UInt8)} {bs : List Nat} {rv' : Value} {vs' : List Value} (h : RLg w x f l rs bs) (hr : w.ownsRow 0 27 1 rv' rs'.length vs') (hb : ∀ k, rv'.ownBlock = some k → k ∈ bs) (ha : All2 (Yb w bs) vs' rs') :
    RLg (w.setCell ⟨x, 2, none⟩ rv') x f l rs' bs := by
  obtain ⟨ht, hx, fv, lv, rv, vs, c0, c1, c2, h1, h2, h3, h4, h5⟩ := h
  have hO : Only [x] w (w.setCell ⟨x, 2, none⟩ rv') := (Only.refl _ w).setCell (.inl (by simp)) _
  have hd : ∀ k ∈ [x], k ∉ bs ∨ ¬ TyAt w k 5 := by
    intro k hk
    obtain rfl : k = x := by simpa using hk
    exact .inr (fun h => absurd (h.uniq ht) (by decide))
  refine ⟨ht.setCell _ _, hx, fv, lv, rv', vs', set_cell _ c2 c0 (by simp), set_cell _ c2 c1 (by simp), same_cell c2, h1.only hO hd, h2.only hO hd, own_only hr hO (fun k hk hm => ?_), hb, ha.imp fun _ _ k => k.only hO hd⟩
  obtain rfl : k = x := by simpa using hm
  exact absurd ((own_ty hr k hk).uniq ht) (by decide)

theorem RLg.sees {w : World} {x : Nat} {f l : List UInt8} {rs : List (List UInt8)} {bs : List Nat} (h : RLg w x f l rs bs) :
    ∃ fa fc la lc, (w.cell? ⟨x, 0, none⟩ = some (.slice fa f.length fc) ∧ w.frozen? ⟨x, 0, none⟩ = false) ∧ (w.cell? ⟨x, 1, none⟩ = some (.slice la l.length lc) ∧ w.frozen? ⟨x, 1, none⟩ = false) ∧ Bs w (.slice fa f.length fc) f ∧ Bs w (.slice la l.length lc) l ∧ x < w.heap.size := by
  obtain ⟨ht, hx, fv, lv, rv, vs, c0, c1, c2, h1, h2, h3, h4, h5⟩ := h
  obtain ⟨fa, fc, rfl⟩ := bs_form h1.bs
  obtain ⟨la, lc, rfl⟩ := bs_form h2.bs
  exact ⟨fa, fc, la, lc, c0, c1, h1.bs, h2.bs, ht.lt⟩

theorem rlg_rows {w : World} {x : Nat} {f l : List UInt8} {rs' : List (List UInt8)} {bs : List Nat} {fv lv rv rv' : Value} {vs' : List Value} (ht : TyAt w x 66) (hx : x ∈ bs) (c0 : w.cell? ⟨x, 0, none⟩ = some fv ∧ w.frozen? ⟨x, 0, none⟩ = false) (c1 : w.cell? ⟨x, 1, none⟩ = some lv ∧ w.frozen? ⟨x, 1, none⟩ = false) (c2 : w.cell? ⟨x, 2, none⟩ = some rv ∧ w.frozen? ⟨x, 2, none⟩ = false)
    (h1 : Yb w bs fv f) (h2 : Yb w bs lv l) (hr : w.ownsRow 0 27 1 rv' rs'.length vs') (hb : ∀ k, rv'.ownBlock = some k → k ∈ bs) (ha : All2 (Yb w bs) vs' rs') :
    RLg (w.setCell ⟨x, 2, none⟩ rv') x f l rs' bs := by
  have hO : Only [x] w (w.setCell ⟨x, 2, none⟩ rv') := (Only.refl _ w).setCell (.inl (by simp)) _
  have hd : ∀ k ∈ [x], k ∉ bs ∨ ¬ TyAt w k 5 := by
    intro k hk
    obtain rfl : k = x := by simpa using hk
    exact .inr (fun h => absurd (h.uniq ht) (by decide))
  refine ⟨ht.setCell _ _, hx, fv, lv, rv', vs', set_cell _ c2 c0 (by simp), set_cell _ c2 c1 (by simp), same_cell c2, h1.only hO hd, h2.only hO hd, own_only hr hO (fun k hk hm => ?_), hb, ha.imp fun _ _ k => k.only hO hd⟩
  obtain rfl : k = x := by simpa using hm
  exact absurd ((own_ty hr k hk).uniq ht) (by decide)

end Go.Proofs.Ytnlmeaijnfjakaa.Sh
/- The document's log: opened, fast, how many are: walked. -/
namespace Go.Proofs.Ytnlmeaijnfjakaa.Sh
set_option linter.unusedSimpArgs false
set_option linter.unusedVariables false
open Go Go.RowKit

set_option maxRecDepth 20000 in
set_option maxHeartbeats 1600000 in
theorem ropen_any (w : World) (fv lv : Value) (f l : List UInt8) (hf : Bs w fv f) (hl : Bs w lv l) (hlen : f.length + l.length ≤ 500000) :
    Calls Try.prog 43 #[dskV fv lv] w fun e w' => ∃ x, e = .returned (.pointer (some ⟨x, 0, none⟩)) ∧ RLg w' x ((f ++ l).take (allL (f ++ l)).2) [] (allL (f ++ l)).1 (newBs w w') ∧ Only [] w w' := by
  obtain ⟨fa, fc, rfl⟩ := bs_form hf
  obtain ⟨la, lc, rfl⟩ := bs_form hl
  obtain ⟨w1, hw1⟩ : ∃ w1, w1 = w.alloc (Obj.cells #[.slice fa f.length fc, .slice la l.length lc] 49) := ⟨_, rfl⟩
  have o1 : Only [] w w1 := by rw [hw1]; exact (Only.refl [] w).alloc _
  have c0 : w1.cell? ⟨w.heap.size, 0, none⟩ = some (.slice fa f.length fc) := by rw [hw1]; simp [go_sem]
  have c1 : w1.cell? ⟨w.heap.size, 1, none⟩ = some (.slice la l.length lc) := by rw [hw1]; simp [go_sem]
  have hf1 := hf.kept0 o1
  have hl1 := hl.kept0 o1
  obtain ⟨z, hz⟩ : ∃ z, z = f ++ l := ⟨_, rfl⟩
  have hzl : z.length ≤ 500000 := by rw [hz]; simp; omega
  have hall := fun W (h : Only [] w1 W) => rall_any W _ _ f l (hf1.kept0 h) (hl1.kept0 h) hlen
  simp only [← hz] at hall ⊢
  replace hall := hid hall
  clear hz
  obtain ⟨hr1, hr2⟩ := allL_le _ z (Nat.le_refl _)
  obtain ⟨R, hR⟩ : ∃ R, R = (allL z).1 := ⟨_, rfl⟩
  obtain ⟨n, hn⟩ : ∃ n, n = (allL z).2 := ⟨_, rfl⟩
  have hrec := fun W v (hB : Bs W v z) => refAll_any v z W hB (by omega)
  unfold AllPost at hrec
  simp only [← hR, ← hn] at hrec hr1 hr2 ⊢
  replace hrec := hid hrec
  clear hR hn
  go_enter Try.func43, Try.ntmps43
  go_wp2_with fail
  rw [← hw1]
  clear hw1
  with_reducible refine (hall.out _ (Only.refl _ _)).mono ?_
  rintro e w2 ⟨v2, rfl, hF2, o2⟩
  have hB2 := hF2.bs (by omega)
  obtain ⟨va, vc, rfl⟩ := own_form hF2
  go_wp2_with fail
  with_reducible refine (hrec.out _ _ hB2).mono ?_
  rintro e w3 ⟨v3, rfl, hO3, o3⟩
  obtain ⟨vs, g1, g2⟩ := hO3
  obtain ⟨ra, rc, rfl⟩ := own_form g1
  have o13 := o2.trans0 o3
  obtain ⟨w4, hw4⟩ : ∃ w4, w4 = w3.alloc (Obj.cells #[] 5) := ⟨_, rfl⟩
  have o4 : Only [] w3 w4 := by rw [hw4]; exact (Only.refl [] w3).alloc _
  have ob : w4.ownsRow w3.heap.size 5 1 (.slice (some ⟨w3.heap.size, 0, none⟩) 0 0) 0 [] := by rw [hw4]; exact own_built w3 [] 5 1 0 rfl (by unfold maxLen; omega)
  have d0 := (o13.trans0 o4).cell c0 (by simp)
  have d1 := (o13.trans0 o4).cell c1 (by simp)
  have d0' := d0
  have d1' := d1
  rw [hw4] at d0' d1'
  clear c0 c1 hF2 hB2
  go_wp2_with fail
  rw [← hw4]
  clear hw4 d0' d1'
  with_reducible refine (hall.out _ (o13.trans0 o4)).mono ?_
  rintro e w5 ⟨v5, rfl, hF5, o5⟩
  have hB5 := hF5.bs (by omega)
  obtain ⟨ya, yc, rfl⟩ := own_form hF5
  have hpre := hB5.pre n hr1
  have hvc : z.length ≤ yc := by
    obtain ⟨_, _, _, he, h1, _⟩ := id hB5
    simp only [Value.slice.injEq] at he
    obtain ⟨_, _, rfl⟩ := he
    exact h1
  have hn1 : (n : Int) ≤ (yc : Int) := by omega
  have hn2 : (0 : Int) ≤ (n : Int) := by omega
  have hb5 := own_only0 ob o5
  have hcs : Cs 1 w5 (.slice ya n yc) n (bytes (z.take n)) := Cs.cast hpre (by simp; omega) rfl
  clear hall hrec hvc hF5 hB5 d0 d1
  have hs3 := o4.size
  have hs5 := o5.size
  go_wp2_with (at_builtin; refine wpList_app (by rfl) _ _ 27 (by rfl) w3.heap.size 5 1 1 el_u8 (by rfl) hb5 (by rfl) hcs (bytes_one _) (by omega) (by omega) (by omega) ?_; intro v6 w6 own6 app6; rw [Nat.zero_add, List.nil_append] at own6; obtain ⟨xa, xc, rfl⟩ := own_form own6)
  have o6 : Only [] w3 w6 := (o4.trans0 o5).app app6 (fun k hk => .inr (hb5.lt k hk).1)
  have O6 := (o1.trans0 o13).trans0 o6
  obtain ⟨w7, hw7⟩ : ∃ w7, w7 = w6.alloc (Obj.cells #[.slice xa n xc, .slice none 0 0, .slice ra R.length rc] 66) := ⟨_, rfl⟩
  have o7 : Only [] w6 w7 := by rw [hw7]; exact (Only.refl [] w6).alloc _
  have hs7 : w7.heap.size = w6.heap.size + 1 := by rw [hw7]; simp
  have hnb : ∀ k, w.heap.size ≤ k → k < w7.heap.size → k ∈ newBs w w7 := fun k h1 h2 => mem_newBs.2 ⟨h1, h2⟩
  have hsw := O6.size
  have hsw3 := (o1.trans0 o13).size
  have hsw2 := (o1.trans0 o2).size
  have hfin : Hid (RLg w7 w6.heap.size (z.take n) [] R (newBs w w7)) := by
    refine ⟨by rw [hw7]; exact TyAt.new _ _ _, hnb _ (by omega) (by omega), .slice xa n xc, .slice none 0 0, .slice ra R.length rc, vs, ?_, ?_, ?_, ?_, ?_, ?_, ?_, ?_⟩
    · rw [hw7]; constructor <;> simp [go_sem]
    · rw [hw7]; constructor <;> simp [go_sem]
    · rw [hw7]; constructor <;> simp [go_sem]
    · exact Yb.own (B := w3.heap.size) (own_cast (own_only0 own6 o7) (by simp; omega) rfl) (by simp; omega) (fun k h1 h2 => hnb k (by omega) h2)
    · exact ⟨Bs.empty (by unfold maxLen; omega), fun k hk => by simp [Value.ownBlock] at hk⟩
    · exact own_lower (own_only0 (own_only0 g1 o6) o7) (Nat.zero_le _)
    · intro k hk
      have := (own_only0 (own_only0 g1 o6) o7).lt k hk
      exact hnb k (by omega) (by omega)
    · refine g2.imp fun u y h => Yb.own (B := w2.heap.size) (own_only0 (own_only0 h.1 o6) o7) h.2 (fun k h1 h2 => hnb k (by omega) h2)
  have hO := O6.trans0 o7
  clear hpre own6 app6 g1 g2 hb5 ob hcs hnb
  go_wp2_with fail
  go_ret
  rw [← hw7]
  exact ⟨_, rfl, hfin.out, hO⟩

set_option maxRecDepth 20000 in
set_option maxHeartbeats 1600000 in
theorem rsync_any (w : World) (x : Nat) (f l : List UInt8) (rs : List (List UInt8)) (bs : List Nat) (h : RLg w x f l rs bs) (hlen : f.length + l.length ≤ 500000) :
    Calls Try.prog 95 #[.pointer (some ⟨x, 0, none⟩)] w fun e w' => e = .returned (.tuple #[]) ∧ RLg w' x (f ++ l) [] rs (bs ++ newBs w w') ∧ Only [x] w w' := by
  obtain ⟨fa, fc, la, lc, c0, c1, hf, hl, hx⟩ := h.sees
  obtain ⟨z, hz⟩ : ∃ z, z = f ++ l := ⟨_, rfl⟩
  have hzl : z.length ≤ 500000 := by rw [hz]; simp; omega
  have hs := rall_any w _ _ f l hf hl hlen
  rw [← hz] at hs ⊢
  replace hs := hid hs
  replace h := hid h
  clear hz
  go_enter Try.func95, Try.ntmps95
  go_wp2_with fail
  with_reducible refine hs.out.mono ?_
  rintro e w2 ⟨v2, rfl, hF, hq⟩
  obtain ⟨va, vc, rfl⟩ := own_form hF
  have hfin := fun W (e : W = (w2.setCell ⟨x, 0, none⟩ (.slice va z.length vc)).setCell ⟨x, 1, none⟩ (.slice none 0 0)) => show RLg W x z [] rs (bs ++ newBs w W) ∧ Only [x] w W by
    have hL2 : RLg w2 x f l rs (bs ++ newBs w w2) := (h.out.kept0 hq).mono (fun k hk => by simp [hk])
    have h3 := hL2.setDisk (fv' := .slice va z.length vc) (f' := z) (lv' := .slice none 0 0) (l' := []) (Yb.own hF (by omega) (fun k h1 h2 => by simp [mem_newBs, h1, h2])) ⟨Bs.empty (by unfold maxLen; omega), fun k hk => by simp [Value.ownBlock] at hk⟩
    rw [e]
    refine ⟨h3.mono (fun k hk => ?_), ((hq.mono (by simp)).setCell (.inl (by simp)) _).setCell (.inl (by simp)) _⟩
    simp only [List.mem_append, mem_newBs] at hk ⊢
    simpa [World.setCell] using hk
  obtain ⟨p0, p1⟩ := cell_kept hq (by simp) c0
  obtain ⟨p2, p3⟩ := cell_kept hq (by simp) c1
  replace hfin := hid hfin
  clear hF hf hl hq
  go_wp2
  go_end0
  exact ⟨rfl, hfin.out _ rfl⟩
end Go.Proofs.Ytnlmeaijnfjakaa.Sh
