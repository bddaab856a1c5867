/- Orders of bytes, the document's: walked. -/
import Derived.Test.YtiinfiaemiaamaaTxD
namespace Go.Proofs.Ytiinfiaemiaamaa.Sh
open Go Go.RowKit

/-- What the document's steps come to. -/
theorem dec_chain (b : List UInt8) (v1 q1 c1 v2 q2 c2 v3 q3 c3 q4 c4 : Nat) (s : List UInt8) (cf : Nat)
    (h1 : c1 = (numL 2 b).1 ∧ (c1 = 0 → v1 = (numL 2 b).2.1 ∧ b.drop q1 = (numL 2 b).2.2))
    (e2 : c1 ≠ 0 → c2 = c1) (h2 : c1 = 0 → c2 = (numL 5 (b.drop q1)).1 ∧ (c2 = 0 → v2 = (numL 5 (b.drop q1)).2.1 ∧ b.drop q2 = (numL 5 (b.drop q1)).2.2))
    (e3 : c2 ≠ 0 → c3 = c2) (h3 : c2 = 0 → c3 = (numL 18446744073709551615 (b.drop q2)).1 ∧ (c3 = 0 → v3 = (numL 18446744073709551615 (b.drop q2)).2.1 ∧ b.drop q3 = (numL 18446744073709551615 (b.drop q2)).2.2))
    (e4 : c3 ≠ 0 → c4 = c3) (h4 : c3 = 0 → c4 = (textL 16 (b.drop q3)).1 ∧ (c4 = 0 → s = (textL 16 (b.drop q3)).2.1 ∧ b.drop q4 = (textL 16 (b.drop q3)).2.2))
    (ef : c4 ≠ 0 → cf = c4) (hf : c4 = 0 → cf = if b.drop q4 = [] then 0 else 3) :
    (cf ≠ 0 → decE b = (cf, 0, 0, 0, [])) ∧ (cf = 0 → decE b = if rightB (v1 : Int) (v2 : Int) v3 s.length = false then (14, 0, 0, 0, []) else (0, v1, v2, v3, s)) := by
  have hs : (c4 ≠ 0 → decS b = (c4, 0, 0, 0, [], [])) ∧ (c4 = 0 → decS b = (0, v1, v2, v3, s, b.drop q4)) := by
    by_cases z1 : c1 = 0
    · obtain ⟨g1, g1'⟩ := h1
      obtain ⟨rfl, d1⟩ := g1' z1
      obtain ⟨g2, g2'⟩ := h2 z1
      rw [d1] at g2 g2'
      by_cases z2 : c2 = 0
      · obtain ⟨rfl, d2⟩ := g2' z2
        obtain ⟨g3, g3'⟩ := h3 z2
        rw [d2] at g3 g3'
        by_cases z3 : c3 = 0
        · obtain ⟨rfl, d3⟩ := g3' z3
          obtain ⟨g4, g4'⟩ := h4 z3
          rw [d3] at g4 g4'
          constructor
          · intro z4
            unfold decS
            rw [if_neg (by rw [← g1]; simp [z1]), if_neg (by rw [← g2]; simp [z2]), if_neg (by rw [← g3]; simp [z3]), if_pos (by rw [← g4]; exact z4), ← g4]
          · intro z4
            obtain ⟨rfl, d4⟩ := g4' z4
            unfold decS
            rw [if_neg (by rw [← g1]; simp [z1]), if_neg (by rw [← g2]; simp [z2]), if_neg (by rw [← g3]; simp [z3]), if_neg (by rw [← g4]; simp [z4]), d4]
        · have := e4 z3
          subst this
          refine ⟨fun _ => ?_, fun h => absurd h z3⟩
          unfold decS
          rw [if_neg (by rw [← g1]; simp [z1]), if_neg (by rw [← g2]; simp [z2]), if_pos (by rw [← g3]; exact z3), ← g3]
      · have := e3 z2
        subst this
        have := e4 z2
        subst this
        refine ⟨fun _ => ?_, fun h => absurd h z2⟩
        unfold decS
        rw [if_neg (by rw [← g1]; simp [z1]), if_pos (by rw [← g2]; exact z2), ← g2]
    · obtain ⟨g1, _⟩ := h1
      have := e2 z1
      subst this
      have := e3 z1
      subst this
      have := e4 z1
      subst this
      refine ⟨fun _ => ?_, fun h => absurd h z1⟩
      unfold decS
      rw [if_pos (by rw [← g1]; exact z1), ← g1]
  obtain ⟨hs1, hs2⟩ := hs
  by_cases z4 : c4 = 0
  · have hd := hs2 z4
    have hcf := hf z4
    by_cases hl : b.drop q4 = []
    · rw [if_pos hl] at hcf
      refine ⟨fun h => absurd hcf h, fun _ => ?_⟩
      unfold decE
      rw [hd]
      simp only [ne_eq, not_true_eq_false, if_false, hl]
    · rw [if_neg hl] at hcf
      subst hcf
      refine ⟨fun _ => ?_, fun h => by omega⟩
      unfold decE
      rw [hd]
      simp [hl]
  · have hd := hs1 z4
    have hcf := ef z4
    subst hcf
    refine ⟨fun _ => ?_, fun h => absurd h z4⟩
    unfold decE
    rw [hd, if_pos z4]

set_option maxRecDepth 20000 in
set_option maxHeartbeats 3200000 in
theorem rdecode_any (w : World) (v : Value) (b : List UInt8) (hB : Bs w v b) (hbl : b.length ≤ 1000000) :
    Calls Try.prog 31 #[v] w (DecPost w b) := by
  obtain ⟨a, cap, rfl⟩ := bs_form' hB
  obtain ⟨w1, hw1⟩ : ∃ w1, w1 = (w.alloc (Obj.cells #[.int .i64 0, .int .i64 0, .int .u64 0, .slice none 0 0] 37)).alloc (Obj.cells #[.slice a b.length cap, .int .i64 0, .int .i64 0] 98) := ⟨_, rfl⟩
  have ho1 : Only [] w w1 := by rw [hw1]; exact ((Only.refl [] w).alloc _).alloc _
  have hs1 : w1.heap.size = w.heap.size + 2 := by rw [hw1]; simp
  have p0 : w1.cell? ⟨w.heap.size, 0, none⟩ = some (.int .i64 0) ∧ w1.frozen? ⟨w.heap.size, 0, none⟩ = false := by rw [hw1]; constructor <;> simp [go_sem]
  have p1 : w1.cell? ⟨w.heap.size, 1, none⟩ = some (.int .i64 0) ∧ w1.frozen? ⟨w.heap.size, 1, none⟩ = false := by rw [hw1]; constructor <;> simp [go_sem]
  have p2 : w1.cell? ⟨w.heap.size, 2, none⟩ = some (.int .u64 0) ∧ w1.frozen? ⟨w.heap.size, 2, none⟩ = false := by rw [hw1]; constructor <;> simp [go_sem]
  have p3 : w1.cell? ⟨w.heap.size, 3, none⟩ = some (.slice none 0 0) ∧ w1.frozen? ⟨w.heap.size, 3, none⟩ = false := by rw [hw1]; constructor <;> simp [go_sem]
  obtain ⟨fb, hfb, hfl⟩ := hB.fbne (w.heap.size + 1000)
  have hfn : fb < w.heap.size ∨ b = [] := by
    rcases hfl with h | h
    · exact .inl h
    · by_cases hb : b = []
      · exact .inr hb
      · obtain ⟨x, o, c, he, _, _, _, h4⟩ := hB.form (List.length_pos_iff.2 hb)
        rw [he] at hfb
        have h6 := hB.old x (by rw [he]; rfl)
        rcases hfb x rfl with h5 | h5
        · exact absurd h5 hb
        · rcases h6 with h6 | h6
          · exact absurd h6 hb
          · exact .inl (by omega)
  have r1 : Rf w1 (w.heap.size + 1) fb b 0 0 := by
    refine ⟨⟨.slice a b.length cap, ?_, hB.kept0 ho1, hfb⟩, by omega, ?_, by omega, ?_, ?_, ?_, ?_⟩
    all_goals rw [hw1]; simp [go_sem]
  have hn1 := hid (refNum_all (w.heap.size + 1) fb 2 b 0 0 w1 r1 (by omega) hbl)
  go_enter Try.func31, Try.ntmps31
  go_wp2_with fail
  rw [← hw1]
  clear hw1
  refine hn1.out.mono ?_
  rintro e w2 ⟨v1, q1, c1, rfl, hv1, r2, _, k1, o2⟩
  replace p0 := cell_kept o2 (by simp) p0
  replace p1 := cell_kept o2 (by simp) p1
  replace p2 := cell_kept o2 (by simp) p2
  replace p3 := cell_kept o2 (by simp) p3
  replace k1 := hid (k1 (by trivial))
  have hO2 : Only [] w w2 := ho1.trans o2 (by simp) (by simp)
  have hw1' : IntKind.i64.wrap (v1 : Int) = (v1 : Int) := IntWalk.i64_in _ (by omega)
  have hn2 := hid (refNum_all (w.heap.size + 1) fb 5 b q1 c1 w2 r2 (by omega) hbl)
  clear hn1 r1 r2
  go_wp2_with fail
  refine hn2.out.mono ?_
  rintro e w3 ⟨v2, q2, c2, rfl, hv2, r3, f2, k2, o3⟩
  replace p0 := cell_kept o3 (by simp) p0
  replace p1 := cell_kept o3 (by simp) p1
  replace p2 := cell_kept o3 (by simp) p2
  replace p3 := cell_kept o3 (by simp) p3
  replace k2 := hid k2
  replace f2 := hid f2
  have hO3 : Only [] w w3 := hO2.trans o3 (by simp) (by simp)
  have hw2' : IntKind.i64.wrap (v2 : Int) = (v2 : Int) := IntWalk.i64_in _ (by omega)
  clear hn2
  have hs3 := hO3.size
  have hlt3 : w.heap.size + 1 < w3.heap.size := r3.lt
  go_wp2_with fail
  obtain ⟨w4, hw4⟩ : ∃ w4, w4 = w3.alloc (Obj.cells #[.int .i64 (v1 : Int), .int .i64 (v2 : Int), .int .u64 0, .slice none 0 0] 37) := ⟨_, rfl⟩
  have o4 : Only [] w3 w4 := by rw [hw4]; exact (Only.refl [] w3).alloc _
  have hs4 : w4.heap.size = w3.heap.size + 1 := by rw [hw4]; simp
  have t0 : w4.cell? ⟨w3.heap.size, 0, none⟩ = some (.int .i64 (v1 : Int)) ∧ w4.frozen? ⟨w3.heap.size, 0, none⟩ = false := by rw [hw4]; constructor <;> simp [go_sem]
  have t1 : w4.cell? ⟨w3.heap.size, 1, none⟩ = some (.int .i64 (v2 : Int)) ∧ w4.frozen? ⟨w3.heap.size, 1, none⟩ = false := by rw [hw4]; constructor <;> simp [go_sem]
  have t2 : w4.cell? ⟨w3.heap.size, 2, none⟩ = some (.int .u64 0) ∧ w4.frozen? ⟨w3.heap.size, 2, none⟩ = false := by rw [hw4]; constructor <;> simp [go_sem]
  have t3 : w4.cell? ⟨w3.heap.size, 3, none⟩ = some (.slice none 0 0) ∧ w4.frozen? ⟨w3.heap.size, 3, none⟩ = false := by rw [hw4]; constructor <;> simp [go_sem]
  rw [← hw4]
  replace p0 := cell_kept o4 (by simp) p0
  replace p1 := cell_kept o4 (by simp) p1
  replace p2 := cell_kept o4 (by simp) p2
  replace p3 := cell_kept o4 (by simp) p3
  have hO4 := hO3.trans0 o4
  have hn4 := hid (refNum_all (w.heap.size + 1) fb 18446744073709551615 b q2 c2 w4 (r3.kept0 o4) (by omega) hbl)
  obtain ⟨tb, htb⟩ : ∃ tb, tb = w3.heap.size := ⟨_, rfl⟩
  rw [← htb] at t0 t1 t2 t3 hs4 ⊢
  have ht1 : tb ≠ w.heap.size + 1 := by omega
  have ht2 : tb ≠ w.heap.size := by omega
  have ht3 : w.heap.size ≤ tb := by omega
  have ht4 : tb < w4.heap.size := by omega
  have ht5 : b = [] ∨ fb ≠ tb := by rcases hfn with h | h; exact .inr (by omega); exact .inl h
  clear hw4 htb r3 hfl hw1' hw2' hs3 hlt3
  refine hn4.out.mono ?_
  rintro e w5 ⟨v3, q3, c3, rfl, hv3, r5, f3, k3, o5⟩
  replace k3 := hid k3
  replace f3 := hid f3
  replace p0 := cell_kept o5 (by simp) p0
  replace p1 := cell_kept o5 (by simp) p1
  replace p2 := cell_kept o5 (by simp) p2
  replace p3 := cell_kept o5 (by simp) p3
  replace t0 := cell_kept o5 (by simpa using ht1) t0
  replace t1 := cell_kept o5 (by simpa using ht1) t1
  obtain ⟨t2a, t2b⟩ := cell_kept o5 (by simpa using ht1) t2
  replace t3 := cell_kept o5 (by simpa using ht1) t3
  have hO5 : Only [] w w5 := hO4.trans o5 (by simp) (by simp)
  obtain ⟨w6, hw6⟩ : ∃ w6, w6 = w5.setCell ⟨tb, 2, none⟩ (.int .u64 (v3 : Int)) := ⟨_, rfl⟩
  have o6 : Only [tb] w5 w6 := by rw [hw6]; exact (Only.refl [tb] w5).setCell (.inl (by simp)) _
  have r6 : Rf w6 (w.heap.size + 1) fb b q3 c3 := r5.kept o6 (by simpa using ht1.symm) (by simpa using ht5)
  have g0 : w6.cell? ⟨tb, 0, none⟩ = some (.int .i64 (v1 : Int)) ∧ w6.frozen? ⟨tb, 0, none⟩ = false := by rw [hw6]; exact set_cell _ ⟨t2a, t2b⟩ t0 (by simp)
  have g1 : w6.cell? ⟨tb, 1, none⟩ = some (.int .i64 (v2 : Int)) ∧ w6.frozen? ⟨tb, 1, none⟩ = false := by rw [hw6]; exact set_cell _ ⟨t2a, t2b⟩ t1 (by simp)
  have g2 : w6.cell? ⟨tb, 2, none⟩ = some (.int .u64 (v3 : Int)) ∧ w6.frozen? ⟨tb, 2, none⟩ = false := by rw [hw6]; exact ⟨World.cell?_setCell_same _ _ _ t2a, by simpa [go_sem] using t2b⟩
  have g3 : w6.cell? ⟨tb, 3, none⟩ = some (.slice none 0 0) ∧ w6.frozen? ⟨tb, 3, none⟩ = false := by rw [hw6]; exact set_cell _ ⟨t2a, t2b⟩ t3 (by simp)
  replace p0 := cell_kept o6 (by simpa using ht2.symm) p0
  replace p1 := cell_kept o6 (by simpa using ht2.symm) p1
  replace p2 := cell_kept o6 (by simpa using ht2.symm) p2
  replace p3 := cell_kept o6 (by simpa using ht2.symm) p3
  have hO6 : Only [] w w6 := hO5.trans o6 (by simp) (by simp; omega)
  have hn6 := hid (refText_all (w.heap.size + 1) fb 16 b q3 c3 w6 r6 (by omega) hbl)
  have hs6 := o6.size
  have hs5 := o5.size
  have ht6 : tb < w6.heap.size := by omega
  clear hn4 r5 t0 t1 t3
  go_wp2_with fail
  rw [← hw6]
  clear hw6 t2a t2b
  refine hn6.out.mono ?_
  rintro e w7 ⟨v7, q4, c4, m, rfl, hB7, hown7, r7, f4, k4, o7⟩
  obtain ⟨ma, mc, rfl⟩ := bs_form' hB7
  replace k4 := hid k4
  replace f4 := hid f4
  replace p0 := cell_kept o7 (by simp) p0
  replace p1 := cell_kept o7 (by simp) p1
  replace p2 := cell_kept o7 (by simp) p2
  replace p3 := cell_kept o7 (by simp) p3
  replace g0 := cell_kept o7 (by simpa using ht1) g0
  replace g1 := cell_kept o7 (by simpa using ht1) g1
  replace g2 := cell_kept o7 (by simpa using ht1) g2
  obtain ⟨g3a, g3b⟩ := cell_kept o7 (by simpa using ht1) g3
  have hO7 : Only [] w w7 := hO6.trans o7 (by simp) (by simp)
  obtain ⟨w8, hw8⟩ : ∃ w8, w8 = w7.setCell ⟨tb, 3, none⟩ (.slice ma m.length mc) := ⟨_, rfl⟩
  have o8 : Only [tb] w7 w8 := by rw [hw8]; exact (Only.refl [tb] w7).setCell (.inl (by simp)) _
  have r8 : Rf w8 (w.heap.size + 1) fb b q4 c4 := r7.kept o8 (by simpa using ht1.symm) (by simpa using ht5)
  have B8 := hB7.kept' o8 (fun x hx => .inr (by have := hown7 x hx; simp; omega))
  have x0 : w8.cell? ⟨tb, 0, none⟩ = some (.int .i64 (v1 : Int)) := by rw [hw8]; exact (set_cell _ ⟨g3a, g3b⟩ g0 (by simp)).1
  have x1 : w8.cell? ⟨tb, 1, none⟩ = some (.int .i64 (v2 : Int)) := by rw [hw8]; exact (set_cell _ ⟨g3a, g3b⟩ g1 (by simp)).1
  have x2 : w8.cell? ⟨tb, 2, none⟩ = some (.int .u64 (v3 : Int)) := by rw [hw8]; exact (set_cell _ ⟨g3a, g3b⟩ g2 (by simp)).1
  have x3 : w8.cell? ⟨tb, 3, none⟩ = some (.slice ma m.length mc) := by rw [hw8]; exact World.cell?_setCell_same _ _ _ g3a
  replace p0 := cell_kept o8 (by simpa using ht2.symm) p0
  replace p1 := cell_kept o8 (by simpa using ht2.symm) p1
  replace p2 := cell_kept o8 (by simpa using ht2.symm) p2
  replace p3 := cell_kept o8 (by simpa using ht2.symm) p3
  have hO8 : Only [] w w8 := hO7.trans o8 (by simp) (by simp; omega)
  have hn8 := hid (refEnd_all (w.heap.size + 1) fb b q4 c4 w8 r8)
  have hnew := hid (fun x hx => Nat.le_trans (by have := o7.size; omega : tb + 1 ≤ w6.heap.size) (hown7 x hx))
  clear hn6 r7 g0 g1 g2 g3 hB7 hown7
  go_wp2_with fail
  rw [← hw8]
  clear hw8 g3a g3b
  refine hn8.out.mono ?_
  rintro e w9 ⟨cf, rfl, f5, k5, o9⟩
  obtain ⟨p0a, p0b⟩ := cell_kept o9 (by simp) p0
  obtain ⟨p1a, p1b⟩ := cell_kept o9 (by simp) p1
  obtain ⟨p2a, p2b⟩ := cell_kept o9 (by simp) p2
  obtain ⟨p3a, p3b⟩ := cell_kept o9 (by simp) p3
  replace x0 := o9.cell x0 (by simpa using ht1)
  replace x1 := o9.cell x1 (by simpa using ht1)
  replace x2 := o9.cell x2 (by simpa using ht1)
  replace x3 := o9.cell x3 (by simpa using ht1)
  have B9 : Bs w9 (.slice ma m.length mc) m := B8.kept' o9 (fun x hx => .inr (by have := hnew.out x hx; simp; omega))
  have hO9 : Only [] w w9 := hO8.trans o9 (by simp) (by simp)
  obtain ⟨hd1, hd2⟩ := dec_chain b v1 q1 c1 v2 q2 c2 v3 q3 c3 q4 c4 m cf k1.out f2.out k2.out f3.out k3.out f4.out k4.out f5 k5
  have hOs : ∀ (w3 : World) (v0 v1 v2 v3 : Value), Only [] w w3 → Only [] w ((((w3.setCell ⟨w.heap.size, 0, none⟩ v0).setCell ⟨w.heap.size, 1, none⟩ v1).setCell ⟨w.heap.size, 2, none⟩ v2).setCell ⟨w.heap.size, 3, none⟩ v3) := fun w3 v0 v1 v2 v3 h => (((h.setCell (.inr (by simp)) _).setCell (.inr (by simp)) _).setCell (.inr (by simp)) _).setCell (.inr (by simp)) _
  have HOS := hid hOs
  have HN : Hid (∀ W : World, Bs W (.slice none 0 0) []) := fun W => Bs.empty (by unfold maxLen; omega)
  clear hOs hn8 k1 k2 k3 k4 k5 f2 f3 f4 f5 p0 p1 p2 p3 B8 r8
  by_cases hz : cf = 0
  · have hd := hd2 hz
    subst hz
    have hri := hid (rright_any w9 (v1 : Int) (v2 : Int) v3 _ m B9)
    obtain ⟨r, hr⟩ : ∃ r, r = rightB (v1 : Int) (v2 : Int) v3 m.length := ⟨_, rfl⟩
    rw [← hr] at hd hri
    cases r with
    | false =>
      rw [if_pos rfl] at hd
      have HD := hid hd
      clear hd hr hd1 hd2
      go_wp2_with fail
      with_reducible refine hri.out.mono ?_
      rintro e w10 ⟨rfl, o10⟩
      replace p0a := o10.cell p0a (by simp)
      replace p1a := o10.cell p1a (by simp)
      replace p2a := o10.cell p2a (by simp)
      replace p3a := o10.cell p3a (by simp)
      obtain ⟨f0, f1, f2, f3⟩ : (w10.frozen? ⟨w.heap.size, 0, none⟩ = false ∧ w10.frozen? ⟨w.heap.size, 1, none⟩ = false ∧ w10.frozen? ⟨w.heap.size, 2, none⟩ = false ∧ w10.frozen? ⟨w.heap.size, 3, none⟩ = false) := by
        have hl2 : w.heap.size < w9.heap.size := by have := hO8.size; have := o8.size; have := o9.size; have := o7.size; omega
        exact ⟨by rw [o10.frozen' hl2 (by simp)]; exact p0b, by rw [o10.frozen' hl2 (by simp)]; exact p1b, by rw [o10.frozen' hl2 (by simp)]; exact p2b, by rw [o10.frozen' hl2 (by simp)]; exact p3b⟩
      have hO10 := hO9.trans0 o10
      clear p0b p1b p2b p3b hri x0 x1 x2 x3
      go_wp2
      exact bodyPost_ret (v := .tuple #[txV 0 0 0 (.slice none 0 0), .int .i64 14]) (by simp [results, Try.results31, go_sem, p0a, p1a, p2a, p3a]) rfl ⟨HOS.out _ _ _ _ _ hO10, _, by rw [HD.out]; rfl, by rw [HD.out]; exact HN.out _⟩
    | true =>
      rw [if_neg (by simp)] at hd
      have HD := hid hd
      clear hd hr hd1 hd2
      go_wp2_with fail
      with_reducible refine hri.out.mono ?_
      rintro e w10 ⟨rfl, o10⟩
      replace p0a := o10.cell p0a (by simp)
      replace p1a := o10.cell p1a (by simp)
      replace p2a := o10.cell p2a (by simp)
      replace p3a := o10.cell p3a (by simp)
      replace x0 := o10.cell x0 (by simp)
      replace x1 := o10.cell x1 (by simp)
      replace x2 := o10.cell x2 (by simp)
      replace x3 := o10.cell x3 (by simp)
      obtain ⟨f0, f1, f2, f3⟩ : (w10.frozen? ⟨w.heap.size, 0, none⟩ = false ∧ w10.frozen? ⟨w.heap.size, 1, none⟩ = false ∧ w10.frozen? ⟨w.heap.size, 2, none⟩ = false ∧ w10.frozen? ⟨w.heap.size, 3, none⟩ = false) := by
        have hl2 : w.heap.size < w9.heap.size := by have := hO8.size; have := o8.size; have := o9.size; have := o7.size; omega
        exact ⟨by rw [o10.frozen' hl2 (by simp)]; exact p0b, by rw [o10.frozen' hl2 (by simp)]; exact p1b, by rw [o10.frozen' hl2 (by simp)]; exact p2b, by rw [o10.frozen' hl2 (by simp)]; exact p3b⟩
      have hO10 := hO9.trans0 o10
      have hB3 := hid (B9.kept0 o10)
      have hoF : ∀ v0 v1 v2 v3 : Value, Only [w.heap.size] w10 ((((w10.setCell ⟨w.heap.size, 0, none⟩ v0).setCell ⟨w.heap.size, 1, none⟩ v1).setCell ⟨w.heap.size, 2, none⟩ v2).setCell ⟨w.heap.size, 3, none⟩ v3) := fun v0 v1 v2 v3 => ((((Only.refl [w.heap.size] w10).setCell (.inl (by simp)) _).setCell (.inl (by simp)) _).setCell (.inl (by simp)) _).setCell (.inl (by simp)) _
      have HOF := hid hoF
      have hne := hid (show ∀ x, (Value.slice ma m.length mc).ownBlock = some x → m = [] ∨ x ∉ [w.heap.size] from fun x hx => .inr (by have := hnew.out x hx; simp; omega))
      clear p0b p1b p2b p3b hri hnew B9 hoF
      go_wp2
      exact bodyPost_ret (v := .tuple #[txV (v1 : Int) (v2 : Int) v3 (.slice ma m.length mc), .int .i64 0]) (by simp [results, Try.results31, go_sem, p0a, p1a, p2a, p3a]) rfl ⟨HOS.out _ _ _ _ _ hO10, _, by rw [HD.out]; rfl, by rw [HD.out]; exact hB3.out.kept' (HOF.out _ _ _ _) hne.out⟩
  · have HD := hid (hd1 hz)
    have hcz : ((cf : Int) != 0) = true := by rw [bne_iff_ne]; omega
    clear hd1 hd2 hz x0 x1 x2 x3 B9
    go_wp2
    exact bodyPost_ret (v := .tuple #[txV 0 0 0 (.slice none 0 0), .int .i64 (cf : Int)]) (by simp [results, Try.results31, go_sem, p0a, p1a, p2a, p3a]) rfl ⟨HOS.out _ _ _ _ _ hO9, _, by rw [HD.out]; rfl, by rw [HD.out]; exact HN.out _⟩
end Go.Proofs.Ytiinfiaemiaamaa.Sh
