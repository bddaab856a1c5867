/- Orders of bytes: walked. -/
import Derived.Test.YtiinfiaemiaamaaTxA
namespace Go.Proofs.Ytiinfiaemiaamaa.Sh
open Go Go.RowKit

/-- What is read of an order: the error (0: none), the kind, whom, how much, the memo, what is left. -/
def decS (b : List UInt8) : Nat × Nat × Nat × Nat × List UInt8 × List UInt8 :=
  if (numL 2 b).1 ≠ 0 then ((numL 2 b).1, 0, 0, 0, [], []) else
  if (numL 5 (numL 2 b).2.2).1 ≠ 0 then ((numL 5 (numL 2 b).2.2).1, 0, 0, 0, [], []) else
  if (numL 18446744073709551615 (numL 5 (numL 2 b).2.2).2.2).1 ≠ 0 then ((numL 18446744073709551615 (numL 5 (numL 2 b).2.2).2.2).1, 0, 0, 0, [], []) else
  if (textL 16 (numL 18446744073709551615 (numL 5 (numL 2 b).2.2).2.2).2.2).1 ≠ 0 then ((textL 16 (numL 18446744073709551615 (numL 5 (numL 2 b).2.2).2.2).2.2).1, 0, 0, 0, [], []) else
  (0, (numL 2 b).2.1, (numL 5 (numL 2 b).2.2).2.1, (numL 18446744073709551615 (numL 5 (numL 2 b).2.2).2.2).2.1, (textL 16 (numL 18446744073709551615 (numL 5 (numL 2 b).2.2).2.2).2.2).2.1, (textL 16 (numL 18446744073709551615 (numL 5 (numL 2 b).2.2).2.2).2.2).2.2)

/-- The order of bytes: the error (0: none), the order. -/
def decE (b : List UInt8) : Nat × Nat × Nat × Nat × List UInt8 :=
  if (decS b).1 ≠ 0 then ((decS b).1, 0, 0, 0, []) else
  if (decS b).2.2.2.2.2 ≠ [] then (3, 0, 0, 0, []) else
  if rightB ((decS b).2.1 : Int) ((decS b).2.2.1 : Int) (decS b).2.2.2.1 (decS b).2.2.2.2.1.length = false then (14, 0, 0, 0, []) else
  (0, (decS b).2.1, (decS b).2.2.1, (decS b).2.2.2.1, (decS b).2.2.2.2.1)

/-- An order in memory. -/
def TxAt (w : World) (tb : Nat) (k t a : Nat) (m : List UInt8) : Prop :=
  (w.cell? ⟨tb, 0, none⟩ = some (.int .i64 (k : Int)) ∧ w.frozen? ⟨tb, 0, none⟩ = false) ∧ (w.cell? ⟨tb, 1, none⟩ = some (.int .i64 (t : Int)) ∧ w.frozen? ⟨tb, 1, none⟩ = false) ∧ (w.cell? ⟨tb, 2, none⟩ = some (.int .u64 (a : Int)) ∧ w.frozen? ⟨tb, 2, none⟩ = false) ∧
    ∃ mv, (w.cell? ⟨tb, 3, none⟩ = some mv ∧ w.frozen? ⟨tb, 3, none⟩ = false) ∧ Bs w mv m ∧ ∀ b, mv.ownBlock = some b → m = [] ∨ b ≠ tb

theorem TxAt.kept {w w' : World} {tb k t a : Nat} {m : List UInt8} (h : TxAt w tb k t a m) {bs : List Nat} (ho : Only bs w w') (hn : tb ∉ bs) (hm : ∀ mv b, w.cell? ⟨tb, 3, none⟩ = some mv → mv.ownBlock = some b → m = [] ∨ b ∉ bs) : TxAt w' tb k t a m := by
  obtain ⟨h0, h1, h2, mv, h3, hB, hne⟩ := h
  exact ⟨cell_kept ho hn h0, cell_kept ho hn h1, cell_kept ho hn h2, mv, cell_kept ho hn h3, hB.kept' ho (fun b hb => hm mv b h3.1 hb), hne⟩
theorem TxAt.kept0 {w w' : World} {tb k t a : Nat} {m : List UInt8} (h : TxAt w tb k t a m) (ho : Only [] w w') : TxAt w' tb k t a m := h.kept ho (by simp) (fun _ _ _ _ => .inr (by simp))

def DecBy (rb fb tb : Nat) (b : List UInt8) (w : World) (e : Ending) (w' : World) : Prop :=
  Only [rb, tb] w w' ∧ (∃ l', Rd w' rb fb l') ∧
  ((decS b).1 = 0 ∧ e = .returned (.tuple #[]) ∧ Rd w' rb fb (decS b).2.2.2.2.2 ∧ TxAt w' tb (decS b).2.1 (decS b).2.2.1 (decS b).2.2.2.1 (decS b).2.2.2.2.1 ∧ (∀ mv x, w'.cell? ⟨tb, 3, none⟩ = some mv → mv.ownBlock = some x → w.heap.size ≤ x) ∨
   (decS b).1 ≠ 0 ∧ e = .panicked (ownEnd rb (decS b).1))

set_option maxRecDepth 20000 in
set_option maxHeartbeats 1600000 in
theorem dec_by (rb fb tb : Nat) (b : List UInt8) (w : World) (hr : Rd w rb fb b) (h1 : tb ≠ rb) (h2 : fb ≠ tb) (ht : ∃ k t a m, TxAt w tb k t a m) :
    Calls Try.prog 55 #[.pointer (some ⟨rb, 0, none⟩), .pointer (some ⟨tb, 0, none⟩)] w (DecBy rb fb tb b w) := by
  obtain ⟨k0, t0, a0, m0, q0, q1, q2, mv0, q3, _, _⟩ := ht
  have hm1 : ∀ c : Nat, c ≠ 0 → (numL 2 b).1 = c → decS b = (c, 0, 0, 0, [], []) := fun c hc h => by unfold decS; rw [if_pos (by rw [h]; exact hc), h]
  go_enter Try.func55, Try.ntmps55
  go_wp2_with fail
  refine (count_any rb fb 2 b w hr (by omega)).mono ?_
  rintro e w1 ⟨o1, r1, hc1⟩
  rcases hc1 with ⟨z1, rfl, r1⟩ | ⟨z1, rfl⟩
  rotate_left
  · exact ⟨rfl, o1.mono (by simp), r1, .inr ⟨by rw [hm1 _ z1 rfl]; exact z1, by rw [hm1 _ z1 rfl]⟩⟩
  have hn1 := numL_most _ _ z1
  obtain ⟨l1, hl1⟩ : ∃ l1, l1 = (numL 2 b).2.2 := ⟨_, rfl⟩
  obtain ⟨n1, he1⟩ : ∃ n1, n1 = (numL 2 b).2.1 := ⟨_, rfl⟩
  rw [← he1] at hn1 ⊢
  rw [← hl1] at r1
  have hm2 : ∀ c : Nat, c ≠ 0 → (numL 5 l1).1 = c → decS b = (c, 0, 0, 0, [], []) := fun c hc h => by unfold decS; rw [if_neg (by simp [z1]), ← hl1, if_pos (by rw [h]; exact hc), h]
  have d0 := cell_kept o1 (by simpa using h1) q0
  have d1 := cell_kept o1 (by simpa using h1) q1
  have d2 := cell_kept o1 (by simpa using h1) q2
  have d3 := cell_kept o1 (by simpa using h1) q3
  have Z1 := hid z1
  have HL1 := hid hl1
  have HE1 := hid he1
  clear q0 q1 q2 q3 hm1 z1 hl1 he1
  go_wp2_with fail
  refine (count_any rb fb 5 l1 w1 r1 (by omega)).mono ?_
  rintro e w2 ⟨o2, r2, hc2⟩
  rcases hc2 with ⟨z2, rfl, r2⟩ | ⟨z2, rfl⟩
  rotate_left
  · exact ⟨rfl, (o1.trans o2 (ds := [rb, tb]) (by simp) (by simp)), r2, .inr ⟨by rw [hm2 _ z2 rfl]; exact z2, by rw [hm2 _ z2 rfl]⟩⟩
  have hn2 := numL_most _ _ z2
  obtain ⟨l2, hl2⟩ : ∃ l2, l2 = (numL 5 l1).2.2 := ⟨_, rfl⟩
  obtain ⟨n2, he2⟩ : ∃ n2, n2 = (numL 5 l1).2.1 := ⟨_, rfl⟩
  rw [← he2] at hn2 ⊢
  rw [← hl2] at r2
  have hm3 : ∀ c : Nat, c ≠ 0 → (numL 18446744073709551615 l2).1 = c → decS b = (c, 0, 0, 0, [], []) := fun c hc h => by unfold decS; rw [if_neg (by simp [Z1.out]), ← HL1.out, if_neg (by simp [z2]), ← hl2, if_pos (by rw [h]; exact hc), h]
  replace d0 := cell_kept o2 (by simpa using h1) d0
  replace d1 := cell_kept o2 (by simpa using h1) d1
  replace d2 := cell_kept o2 (by simpa using h1) d2
  replace d3 := cell_kept o2 (by simpa using h1) d3
  have O2 : Only [rb, tb] w w2 := o1.trans o2 (by simp) (by simp)
  have Z2 := hid z2
  have HL2 := hid hl2
  have HE2 := hid he2
  have HM3 := hid hm3
  obtain ⟨w3, hw3⟩ : ∃ w3, w3 = (w2.setCell ⟨tb, 0, none⟩ (.int .i64 (n1 : Int))).setCell ⟨tb, 1, none⟩ (.int .i64 (n2 : Int)) := ⟨_, rfl⟩
  have o3 : Only [tb] w2 w3 := by rw [hw3]; exact ((Only.refl [tb] w2).setCell (.inl (by simp)) _).setCell (.inl (by simp)) _
  have e0 : w3.cell? ⟨tb, 0, none⟩ = some (.int .i64 (n1 : Int)) ∧ w3.frozen? ⟨tb, 0, none⟩ = false := by rw [hw3]; exact set_cell _ (set_cell _ d0 d1 (by simp)) ⟨World.cell?_setCell_same _ _ _ d0.1, by simpa [go_sem] using d0.2⟩ (by simp)
  have d1' := set_cell (v := .int .i64 (n1 : Int)) _ d0 d1 (by simp)
  have e1 : w3.cell? ⟨tb, 1, none⟩ = some (.int .i64 (n2 : Int)) ∧ w3.frozen? ⟨tb, 1, none⟩ = false := by rw [hw3]; exact ⟨World.cell?_setCell_same _ _ _ d1'.1, by simpa [go_sem] using d1'.2⟩
  have e2 : w3.cell? ⟨tb, 2, none⟩ = some (.int .u64 (a0 : Int)) ∧ w3.frozen? ⟨tb, 2, none⟩ = false := by rw [hw3]; exact set_cell _ d1' (set_cell _ d0 d2 (by simp)) (by simp)
  have e3 : w3.cell? ⟨tb, 3, none⟩ = some mv0 ∧ w3.frozen? ⟨tb, 3, none⟩ = false := by rw [hw3]; exact set_cell _ d1' (set_cell _ d0 d3 (by simp)) (by simp)
  have r3 : Rd w3 rb fb l2 := r2.kept o3 (by simpa using h1.symm) (.inr (by simpa using h2))
  have O3 : Only [rb, tb] w w3 := O2.trans o3 (by simp) (by simp)
  obtain ⟨d0a, d0b⟩ := d0
  obtain ⟨d1a, d1b⟩ := d1
  clear hm2 hm3 z2 hl2 he2 d2 d3 d1' r1 r2 o1 o2
  go_wp2_with fail
  rw [← hw3]
  clear hw3 d0a d0b d1a d1b
  refine (number_any rb fb 18446744073709551615 l2 w3 r3 (by omega)).mono ?_
  rintro e w4 ⟨o4, r4, hc4⟩
  rcases hc4 with ⟨z4, rfl, r4⟩ | ⟨z4, rfl⟩
  rotate_left
  · exact ⟨rfl, (O3.trans o4 (ds := [rb, tb]) (by simp) (by simp)), r4, .inr ⟨by rw [HM3.out _ z4 rfl]; exact z4, by rw [HM3.out _ z4 rfl]⟩⟩
  have hn4 := numL_most _ _ z4
  obtain ⟨l4, hl4⟩ : ∃ l4, l4 = (numL 18446744073709551615 l2).2.2 := ⟨_, rfl⟩
  obtain ⟨n4, he4⟩ : ∃ n4, n4 = (numL 18446744073709551615 l2).2.1 := ⟨_, rfl⟩
  rw [← he4] at hn4 ⊢
  rw [← hl4] at r4
  have hm4 : ∀ c : Nat, c ≠ 0 → (textL 16 l4).1 = c → decS b = (c, 0, 0, 0, [], []) := fun c hc h => by unfold decS; rw [if_neg (by simp [Z1.out]), ← HL1.out, if_neg (by simp [Z2.out]), ← HL2.out, if_neg (by simp [z4]), ← hl4, if_pos (by rw [h]; exact hc), h]
  have hm5 : (textL 16 l4).1 = 0 → decS b = (0, n1, n2, n4, (textL 16 l4).2.1, (textL 16 l4).2.2) := fun h => by unfold decS; rw [if_neg (by simp [Z1.out]), ← HL1.out, if_neg (by simp [Z2.out]), ← HL2.out, if_neg (by simp [z4]), ← hl4, if_neg (by simp [h]), ← HE1.out, ← HE2.out, ← he4]
  have HM4 := hid hm4
  have HM5 := hid hm5
  replace e0 := cell_kept o4 (by simpa using h1) e0
  replace e1 := cell_kept o4 (by simpa using h1) e1
  obtain ⟨e2a, e2b⟩ := cell_kept o4 (by simpa using h1) e2
  replace e3 := cell_kept o4 (by simpa using h1) e3
  have O4 : Only [rb, tb] w w4 := O3.trans o4 (by simp) (by simp)
  obtain ⟨w5, hw5⟩ : ∃ w5, w5 = w4.setCell ⟨tb, 2, none⟩ (.int .u64 (n4 : Int)) := ⟨_, rfl⟩
  have o5 : Only [tb] w4 w5 := by rw [hw5]; exact (Only.refl [tb] w4).setCell (.inl (by simp)) _
  have g0 : w5.cell? ⟨tb, 0, none⟩ = some (.int .i64 (n1 : Int)) ∧ w5.frozen? ⟨tb, 0, none⟩ = false := by rw [hw5]; exact set_cell _ ⟨e2a, e2b⟩ e0 (by simp)
  have g1 : w5.cell? ⟨tb, 1, none⟩ = some (.int .i64 (n2 : Int)) ∧ w5.frozen? ⟨tb, 1, none⟩ = false := by rw [hw5]; exact set_cell _ ⟨e2a, e2b⟩ e1 (by simp)
  have g2 : w5.cell? ⟨tb, 2, none⟩ = some (.int .u64 (n4 : Int)) ∧ w5.frozen? ⟨tb, 2, none⟩ = false := by rw [hw5]; exact ⟨World.cell?_setCell_same _ _ _ e2a, by simpa [go_sem] using e2b⟩
  have g3 : w5.cell? ⟨tb, 3, none⟩ = some mv0 ∧ w5.frozen? ⟨tb, 3, none⟩ = false := by rw [hw5]; exact set_cell _ ⟨e2a, e2b⟩ e3 (by simp)
  have r5 : Rd w5 rb fb l4 := r4.kept o5 (by simpa using h1.symm) (.inr (by simpa using h2))
  have O5 : Only [rb, tb] w w5 := O4.trans o5 (by simp) (by simp)
  clear hm4 hm5 z4 hl4 he4 e0 e1 e2 e3 r4 o4
  go_wp2_with fail
  rw [← hw5]
  clear hw5 e2a e2b
  refine (text_any rb fb 16 l4 w5 r5 (by omega)).mono ?_
  rintro e w6 ⟨o6, r6, hc6⟩
  rcases hc6 with ⟨z6, ⟨v6, rfl, hf6⟩, r6⟩ | ⟨z6, rfl⟩
  rotate_left
  · exact ⟨rfl, (O5.trans o6 (ds := [rb, tb]) (by simp) (by simp)), r6, .inr ⟨by rw [HM4.out _ z6 rfl]; exact z6, by rw [HM4.out _ z6 rfl]⟩⟩
  have hdec := hid (HM5.out z6)
  obtain ⟨s6, hs6⟩ : ∃ s6, s6 = (textL 16 l4).2.1 := ⟨_, rfl⟩
  obtain ⟨l6, hl6⟩ : ∃ l6, l6 = (textL 16 l4).2.2 := ⟨_, rfl⟩
  rw [← hs6, ← hl6] at hdec
  rw [← hl6] at r6
  rw [← hs6] at hf6
  replace g0 := cell_kept o6 (by simpa using h1) g0
  replace g1 := cell_kept o6 (by simpa using h1) g1
  replace g2 := cell_kept o6 (by simpa using h1) g2
  obtain ⟨g3a, g3b⟩ := cell_kept o6 (by simpa using h1) g3
  have O6 : Only [rb, tb] w w6 := O5.trans o6 (by simp) (by simp)
  have htb : tb < w5.heap.size := by simpa using World.block_lt_of_cell? w5 _ g3.1
  obtain ⟨va, vc, rfl⟩ := own_form hf6
  have hsz5 := O5.size
  have hnew : ∀ x, (Value.slice va s6.length vc).ownBlock = some x → w5.heap.size ≤ x := fun x hx => (hf6.lt x hx).1
  have hlen6 : s6.length ≤ 9223372036854775807 := by
    obtain ⟨_, h⟩ := own_form hf6
    by_cases h0 : s6 = []
    · subst h0; simp
    · obtain ⟨g, cap, _, _, _, hc, hm, _⟩ := own_at hf6 (List.length_pos_iff.2 h0)
      unfold maxLen at hm; omega
  have hB6 : Bs w6 (.slice va s6.length vc) s6 := hf6.bs hlen6
  have hpost : Hid (DecBy rb fb tb b w (.returned (.tuple #[])) (w6.setCell ⟨tb, 3, none⟩ (.slice va s6.length vc))) := by
    have o7 : Only [tb] w6 (w6.setCell ⟨tb, 3, none⟩ (.slice va s6.length vc)) := (Only.refl [tb] w6).setCell (.inl (by simp)) _
    have hne : ∀ x, (Value.slice va s6.length vc).ownBlock = some x → s6 = [] ∨ x ∉ [tb] := fun x hx => .inr (by have := hnew x hx; simp; omega)
    have r7 := r6.kept o7 (by simpa using h1.symm) (.inr (by simpa using h2))
    have g3' := World.cell?_setCell_same w6 ⟨tb, 3, none⟩ (.slice va s6.length vc) g3a
    refine ⟨O6.trans o7 (by simp) (by simp), ⟨_, r7⟩, .inl ⟨by rw [hdec.out], rfl, by rw [hdec.out]; exact r7, ?_, ?_⟩⟩
    · rw [hdec.out]
      refine ⟨set_cell _ ⟨g3a, g3b⟩ g0 (by simp), set_cell _ ⟨g3a, g3b⟩ g1 (by simp), set_cell _ ⟨g3a, g3b⟩ g2 (by simp), _, ⟨g3', by simpa [go_sem] using g3b⟩, hB6.kept' o7 hne, fun x hx => .inr (by have := hnew x hx; omega)⟩
    · intro mv x hmv hx
      rw [g3'] at hmv
      obtain rfl := Option.some.inj hmv
      have := hnew x hx
      omega
  clear hdec hs6 hl6 HM4 HM5 g0 g1 g2 g3 hf6 hB6 hnew hlen6
  go_wp2_with fail
  go_end0
  exact hpost.out
end Go.Proofs.Ytiinfiaemiaamaa.Sh
