/- Layer 13: what is awake; calls, one by one: walked. -/
import Derived.Test.YtiinfiaemiaamaaLedK
namespace Go.Proofs.Ytiinfiaemiaamaa.Sh
open Go Go.RowKit

def m100 : Lm := initM [100]
theorem ns_one (w : World) (x : Nat) (hx : x < 18446744073709551616) : Ns (w.alloc (Obj.cells #[.int .u64 (x : Int)] 22)) (.slice (some ⟨w.heap.size, 0, none⟩) 1 1) [x] :=
  ⟨cs_built w [_] _ 1 1 _ rfl (by omega), by simpa using hx⟩

set_option maxRecDepth 20000 in
set_option maxHeartbeats 1600000 in
theorem awake13_any (w : World) : Calls Try.prog 15 #[] w fun e w' => e = .returned (.bool true) ∧ Only [] w w' := by
  have hi0 : LInv 100 m100 := initM_inv [100] (by decide)
  have hz0 : newE [100] = 0 := by decide
  have e1 : holdE m100 0 20 = (0, m100.hold 0 20) := rfl
  have hi1 : LInv 100 (m100.hold 0 20) := by have := holdE_inv hi0 0 20; rw [e1] at this; exact this
  have e2 : balE (m100.hold 0 20) 0 = 30 := rfl
  have e3 : backE (m100.hold 0 20) 0 20 false true = (0, (m100.hold 0 20).back 0 20 false true) := rfl
  have hi2 : LInv 100 ((m100.hold 0 20).back 0 20 false true) := by have := backE_inv hi1 0 20 false true; rw [e3] at this; exact this
  have e4 : balE ((m100.hold 0 20).back 0 20 false true) 0 = 80 := rfl
  have e5 : ((m100.hold 0 20).back 0 20 false true).t = 20 := rfl
  have hh := fun w x ab mb (h : Led w x ab mb m100) => hold_any w x ab mb 100 m100 h hi0 0 20 (by unfold i64b; omega) (by omega)
  have hb1 := fun w x ab mb (h : Led w x ab mb (m100.hold 0 20)) => balance_any w x ab mb 100 _ h hi1 0
  have hp := fun w x ab mb (h : Led w x ab mb (m100.hold 0 20)) => pay_any w x ab mb 100 _ h hi1 0 20 (by omega)
  have hb2 := fun w x ab mb (h : Led w x ab mb ((m100.hold 0 20).back 0 20 false true)) => balance_any w x ab mb 100 _ h hi2 0
  have htr := fun w x ab mb (h : Led w x ab mb ((m100.hold 0 20).back 0 20 false true)) => treasury_any w x ab mb _ h
  have hto := hid (fun w x ab mb (h : Led w x ab mb ((m100.hold 0 20).back 0 20 false true)) => total_any w x ab mb 100 _ h hi2)
  unfold HoldPost at hh hp
  simp only [e1] at hh
  simp only [e3] at hp
  simp only [e2] at hb1
  simp only [e4] at hb2
  simp only [e5] at htr
  replace hh := hid hh
  replace hp := hid hp
  replace hb1 := hid hb1
  replace hb2 := hid hb2
  replace htr := hid htr
  have hnew := hid (fun w v h => new_any w v [100] h)
  replace hz0 := hid hz0
  have hm : Hid (m100 = initM [100]) := hid rfl
  clear hi0 hi1 hi2 e1 e2 e3 e4 e5
  go_enter Try.func15, Try.ntmps15
  go_wp2_with fail
  refine (hnew.out _ _ (ns_one w 100 (by omega))).mono ?_
  rintro e w1 ⟨ho1, hcase⟩
  have how1 : Only [] w w1 := ((Only.refl [] w).alloc _).trans0 ho1
  rcases hcase with ⟨hne, _⟩ | ⟨_, x, ab, mb, ⟨n1, n2, n3⟩, rfl, hL⟩
  · exact absurd hz0.out hne
  rw [← hm.out] at hL
  have hsz : w.heap.size < x ∧ w.heap.size < ab ∧ w.heap.size < mb := by simp at n1 n2 n3; omega
  clear n1 n2 n3
  go_wp2_with fail
  refine (hh.out w1 x ab mb hL).mono ?_
  rintro e w2 ⟨rfl, hL2, ho2⟩
  have how2 : Only [] w w2 := how1.trans ho2 (by simp) (by simp; omega)
  go_wp2_with fail
  refine (hb1.out w2 x ab mb hL2).mono ?_
  rintro e w' ⟨rfl, rfl⟩
  go_wp2_with fail
  refine (hp.out w' x ab mb hL2).mono ?_
  rintro e w3 ⟨rfl, hL3, ho3⟩
  have how3 : Only [] w w3 := how2.trans ho3 (by simp) (by simp; omega)
  go_wp2_with fail
  refine (hb2.out w3 x ab mb hL3).mono ?_
  rintro e w' ⟨rfl, rfl⟩
  go_wp2_with fail
  refine (htr.out w' x ab mb hL3).mono ?_
  rintro e w' ⟨rfl, rfl⟩
  go_wp2_with fail
  refine (hto.out w' x ab mb hL3).mono ?_
  rintro e w4 ⟨rfl, ho4⟩
  go_wp2
  go_ret
  exact ⟨rfl, how3.trans0 ho4⟩

/-! lists of calls -/
def Ops (w : World) (v : Value) (l : List LOp) : Prop :=
  ∃ a cap, v = .slice a l.length cap ∧ l.length ≤ cap ∧ cap ≤ maxLen ∧ l.length ≤ 9223372036854775807 ∧ (∀ x ∈ l, x.ok) ∧
    (l = [] ∨ ∃ b o, a = some ⟨b, o, none⟩ ∧ ∀ (i : Nat) (h : i < l.length), w.cell? ⟨b, o + i * 4, none⟩ = some (.int .i64 l[i].kind) ∧ w.cell? ⟨b, o + i * 4 + 1, none⟩ = some (.int .i64 l[i].who) ∧ w.cell? ⟨b, o + i * 4 + 2, none⟩ = some (.int .i64 l[i].to) ∧ w.cell? ⟨b, o + i * 4 + 3, none⟩ = some (u64 l[i].n))
theorem Ops.kept0 {w w' : World} {v : Value} {l : List LOp} (h : Ops w v l) (ho : Only [] w w') : Ops w' v l := by
  obtain ⟨a, cap, rfl, h1, h2, h3, h4, h5⟩ := h
  refine ⟨a, cap, rfl, h1, h2, h3, h4, ?_⟩
  rcases h5 with h5 | ⟨b, o, rfl, h5⟩
  · exact .inl h5
  · refine .inr ⟨b, o, rfl, fun i hi => ?_⟩
    obtain ⟨c1, c2, c3, c4⟩ := h5 i hi
    exact ⟨ho.cell c1 (by simp), ho.cell c2 (by simp), ho.cell c3 (by simp), ho.cell c4 (by simp)⟩
theorem Ops.at {w : World} {a : Option Addr} {n cap : Nat} {l : List LOp} (h : Ops w (.slice a n cap) l) (i : Nat) (hi : i < l.length) : ∃ b o, a = some ⟨b, o, none⟩ ∧ w.cell? ⟨b, o + i * 4, none⟩ = some (.int .i64 l[i].kind) ∧ w.cell? ⟨b, o + i * 4 + 1, none⟩ = some (.int .i64 l[i].who) ∧ w.cell? ⟨b, o + i * 4 + 2, none⟩ = some (.int .i64 l[i].to) ∧ w.cell? ⟨b, o + i * 4 + 3, none⟩ = some (u64 l[i].n) := by
  obtain ⟨a', cap', he, _, _, _, _, h5⟩ := h
  simp only [Value.slice.injEq] at he
  obtain ⟨rfl, _, rfl⟩ := he
  rcases h5 with h5 | ⟨b, o, rfl, h5⟩
  · subst h5; simp at hi
  · exact ⟨b, o, rfl, h5 i hi⟩
theorem Ops.form {w : World} {v : Value} {l : List LOp} (h : Ops w v l) : ∃ a cap, v = .slice a l.length cap ∧ l.length ≤ cap ∧ cap ≤ maxLen ∧ l.length ≤ 9223372036854775807 := by
  obtain ⟨a, cap, rfl, h1, h2, h3, _⟩ := h
  exact ⟨a, cap, rfl, h1, h2, h3⟩

@[reducible] def opV (o : LOp) : Value := .agg #[.int .i64 o.kind, .int .i64 o.who, .int .i64 o.to, .int .u64 (o.n : Int)]

set_option maxRecDepth 20000 in
set_option maxHeartbeats 3200000 in
theorem do_any (w : World) (x ab mb T : Nat) (m : Lm) (h : Led w x ab mb m) (hi : LInv T m) (o : LOp) (ho : o.ok) :
    Calls Try.prog 36 #[.pointer (some ⟨x, 0, none⟩), opV o] w (HoldPost w x ab mb m (doE m o)) := by
  obtain ⟨kind, who, to, n⟩ := o
  obtain ⟨hk, hw, ht, hn⟩ := ho
  simp only at hk hw ht hn
  have hoa : Only [x, ab, mb] w (w.alloc (Obj.cells #[.int .i64 kind, .int .i64 who, .int .i64 to, .int .u64 (n : Int)] 58)) := (Only.refl _ _).alloc _
  have hLa := h.kept0 ((Only.refl [] w).alloc (Obj.cells #[.int .i64 kind, .int .i64 who, .int .i64 to, .int .u64 (n : Int)] 58))
  have hmono : ∀ (r : Nat × Lm) (e : Ending) (w' : World), HoldPost (w.alloc (Obj.cells #[.int .i64 kind, .int .i64 who, .int .i64 to, .int .u64 (n : Int)] 58)) x ab mb m r e w' → HoldPost w x ab mb m r e w' := fun _ _ _ ⟨h1, h2, h3⟩ => ⟨h1, h2, hoa.trans h3 (by simp) (by simp)⟩
  replace hmono := hid hmono
  unfold doE
  by_cases k1 : kind = 1
  · subst k1
    have hc := hid (hold_any _ x ab mb T m hLa hi who n hw hn)
    rw [if_pos rfl]
    clear hi hk hw ht
    go_enter Try.func36, Try.ntmps36
    go_wp2_with fail
    refine hc.out.mono ?_
    rintro e w' ⟨rfl, hL, hO⟩
    go_wp2
    go_ret
    exact hmono.out _ _ _ ⟨rfl, hL, hO⟩
  · have qb1 : (kind == 1) = false := by simpa using k1
    by_cases k2 : kind = 2
    · subst k2
      have hc := hid (free_any _ x ab mb T m hLa hi who n hn)
      rw [if_neg (by simp)]
      rw [if_pos rfl]
      clear hi hk hw ht
      go_enter Try.func36, Try.ntmps36
      go_wp2_with fail
      refine hc.out.mono ?_
      rintro e w' ⟨rfl, hL, hO⟩
      go_wp2
      go_ret
      exact hmono.out _ _ _ ⟨rfl, hL, hO⟩
    · have qb2 : (kind == 2) = false := by simpa using k2
      by_cases k3 : kind = 3
      · subst k3
        have hc := hid (pay_any _ x ab mb T m hLa hi who n hn)
        rw [if_neg (by simp)]
        rw [if_neg (by simp)]
        rw [if_pos rfl]
        clear hi hk hw ht
        go_enter Try.func36, Try.ntmps36
        go_wp2_with fail
        refine hc.out.mono ?_
        rintro e w' ⟨rfl, hL, hO⟩
        go_wp2
        go_ret
        exact hmono.out _ _ _ ⟨rfl, hL, hO⟩
      · have qb3 : (kind == 3) = false := by simpa using k3
        by_cases k4 : kind = 4
        · subst k4
          have hc := hid (slash_any _ x ab mb T m hLa hi who n hn)
          rw [if_neg (by simp)]
          rw [if_neg (by simp)]
          rw [if_neg (by simp)]
          rw [if_pos rfl]
          clear hi hk hw ht
          go_enter Try.func36, Try.ntmps36
          go_wp2_with fail
          refine hc.out.mono ?_
          rintro e w' ⟨rfl, hL, hO⟩
          go_wp2
          go_ret
          exact hmono.out _ _ _ ⟨rfl, hL, hO⟩
        · have qb4 : (kind == 4) = false := by simpa using k4
          by_cases k5 : kind = 5
          · subst k5
            have hc := hid (move_any _ x ab mb T m hLa hi who to n hn)
            rw [if_neg (by simp)]
            rw [if_neg (by simp)]
            rw [if_neg (by simp)]
            rw [if_neg (by simp)]
            rw [if_pos rfl]
            clear hi hk hw ht
            go_enter Try.func36, Try.ntmps36
            go_wp2_with fail
            refine hc.out.mono ?_
            rintro e w' ⟨rfl, hL, hO⟩
            go_wp2
            go_ret
            exact hmono.out _ _ _ ⟨rfl, hL, hO⟩
          · have qb5 : (kind == 5) = false := by simpa using k5
            by_cases k6 : kind = 6
            · subst k6
              have hc := hid (turn_any _ x ab mb T m hLa hi who n hn)
              rw [if_neg (by simp)]
              rw [if_neg (by simp)]
              rw [if_neg (by simp)]
              rw [if_neg (by simp)]
              rw [if_neg (by simp)]
              rw [if_pos rfl]
              clear hi hk hw ht
              go_enter Try.func36, Try.ntmps36
              go_wp2_with fail
              refine hc.out.mono ?_
              rintro e w' ⟨rfl, hL, hO⟩
              go_wp2
              go_ret
              exact hmono.out _ _ _ ⟨rfl, hL, hO⟩
            · have qb6 : (kind == 6) = false := by simpa using k6
              rw [if_neg k1, if_neg k2, if_neg k3, if_neg k4, if_neg k5, if_neg k6]
              clear hi hk hw ht k1 k2 k3 k4 k5 k6
              go_enter Try.func36, Try.ntmps36
              go_wp2
              go_ret
              exact hmono.out _ _ _ ⟨rfl, hLa, Only.refl _ _⟩

set_option maxRecDepth 20000 in
set_option maxHeartbeats 3200000 in
theorem doc_any (w : World) (y b1 b2 b3 b4 T : Nat) (m : Lm) (h : RLed w y b1 b2 b3 b4 m) (hi : LInv T m) (o : LOp) (ho : o.ok) :
    Calls Try.prog 37 #[.pointer (some ⟨y, 0, none⟩), opV o] w (RPost w y b1 b2 b3 b4 (doE m o)) := by
  obtain ⟨kind, who, to, n⟩ := o
  obtain ⟨hk, hw, ht, hn⟩ := ho
  simp only at hk hw ht hn
  have hoa : Only [y, b1, b2, b3, b4] w (w.alloc (Obj.cells #[.int .i64 kind, .int .i64 who, .int .i64 to, .int .u64 (n : Int)] 58)) := (Only.refl _ _).alloc _
  have hLa := h.kept0 ((Only.refl [] w).alloc (Obj.cells #[.int .i64 kind, .int .i64 who, .int .i64 to, .int .u64 (n : Int)] 58))
  have hmono : ∀ (r : Nat × Lm) (e : Ending) (w' : World), RPost (w.alloc (Obj.cells #[.int .i64 kind, .int .i64 who, .int .i64 to, .int .u64 (n : Int)] 58)) y b1 b2 b3 b4 r e w' → RPost w y b1 b2 b3 b4 r e w' := fun _ _ _ ⟨h1, h2, h3⟩ => ⟨h1, h2, hoa.trans h3 (by simp) (by simp)⟩
  replace hmono := hid hmono
  unfold doE
  by_cases k1 : kind = 1
  · subst k1
    have hc := hid (rhold_any _ y b1 b2 b3 b4 T m hLa hi who n hn)
    rw [if_pos rfl]
    clear hi hk hw ht
    go_enter Try.func37, Try.ntmps37
    go_wp2_with fail
    refine hc.out.mono ?_
    rintro e w' ⟨rfl, hL, hO⟩
    go_wp2
    go_ret
    exact hmono.out _ _ _ ⟨rfl, hL, hO⟩
  · have qb1 : (kind == 1) = false := by simpa using k1
    by_cases k2 : kind = 2
    · subst k2
      have hc := hid (rback_tt _ y b1 b2 b3 b4 T m hLa hi who n hn)
      rw [if_neg (by simp)]
      rw [if_pos rfl]
      clear hi hk hw ht
      go_enter Try.func37, Try.ntmps37
      go_wp2_with fail
      refine hc.out.mono ?_
      rintro e w' ⟨rfl, hL, hO⟩
      go_wp2
      go_ret
      exact hmono.out _ _ _ ⟨rfl, hL, hO⟩
    · have qb2 : (kind == 2) = false := by simpa using k2
      by_cases k3 : kind = 3
      · subst k3
        have hc := hid (rback_ft _ y b1 b2 b3 b4 T m hLa hi who n hn)
        rw [if_neg (by simp)]
        rw [if_neg (by simp)]
        rw [if_pos rfl]
        clear hi hk hw ht
        go_enter Try.func37, Try.ntmps37
        go_wp2_with fail
        refine hc.out.mono ?_
        rintro e w' ⟨rfl, hL, hO⟩
        go_wp2
        go_ret
        exact hmono.out _ _ _ ⟨rfl, hL, hO⟩
      · have qb3 : (kind == 3) = false := by simpa using k3
        by_cases k4 : kind = 4
        · subst k4
          have hc := hid (rback_ff _ y b1 b2 b3 b4 T m hLa hi who n hn)
          rw [if_neg (by simp)]
          rw [if_neg (by simp)]
          rw [if_neg (by simp)]
          rw [if_pos rfl]
          clear hi hk hw ht
          go_enter Try.func37, Try.ntmps37
          go_wp2_with fail
          refine hc.out.mono ?_
          rintro e w' ⟨rfl, hL, hO⟩
          go_wp2
          go_ret
          exact hmono.out _ _ _ ⟨rfl, hL, hO⟩
        · have qb4 : (kind == 4) = false := by simpa using k4
          by_cases k5 : kind = 5
          · subst k5
            have hc := hid (rmove_any _ y b1 b2 b3 b4 T m hLa hi who to n hn)
            rw [if_neg (by simp)]
            rw [if_neg (by simp)]
            rw [if_neg (by simp)]
            rw [if_neg (by simp)]
            rw [if_pos rfl]
            clear hi hk hw ht
            go_enter Try.func37, Try.ntmps37
            go_wp2_with fail
            refine hc.out.mono ?_
            rintro e w' ⟨rfl, hL, hO⟩
            go_wp2
            go_ret
            exact hmono.out _ _ _ ⟨rfl, hL, hO⟩
          · have qb5 : (kind == 5) = false := by simpa using k5
            by_cases k6 : kind = 6
            · subst k6
              have hc := hid (rturn_any _ y b1 b2 b3 b4 T m hLa hi who n hn)
              rw [if_neg (by simp)]
              rw [if_neg (by simp)]
              rw [if_neg (by simp)]
              rw [if_neg (by simp)]
              rw [if_neg (by simp)]
              rw [if_pos rfl]
              clear hi hk hw ht
              go_enter Try.func37, Try.ntmps37
              go_wp2_with fail
              refine hc.out.mono ?_
              rintro e w' ⟨rfl, hL, hO⟩
              go_wp2
              go_ret
              exact hmono.out _ _ _ ⟨rfl, hL, hO⟩
            · have qb6 : (kind == 6) = false := by simpa using k6
              rw [if_neg k1, if_neg k2, if_neg k3, if_neg k4, if_neg k5, if_neg k6]
              clear hi hk hw ht k1 k2 k3 k4 k5 k6
              go_enter Try.func37, Try.ntmps37
              go_wp2
              go_ret
              exact hmono.out _ _ _ ⟨rfl, hLa, Only.refl _ _⟩
end Go.Proofs.Ytiinfiaemiaamaa.Sh
