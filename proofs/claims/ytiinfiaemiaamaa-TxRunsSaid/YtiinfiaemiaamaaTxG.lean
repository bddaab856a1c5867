/- Orders, done: walked. -/
import Derived.Test.YtiinfiaemiaamaaTxF
import Derived.Test.YtiinfiaemiaamaaLedJ
namespace Go.Proofs.Ytiinfiaemiaamaa.Sh
open Go Go.RowKit

/-- What an order comes to: the error, the ledger. -/
def runE (m : Lm) (s k t : Int) (a n : Nat) : Nat × Lm :=
  if rightB k t a n = true then (if k = 1 then moveE m s t a else if m.is s then (0, m) else (1, m)) else (1, m)

theorem upd_id (g : Nat → Nat) (a : Nat) : upd g a (g a) = g := by
  funext i
  unfold upd
  split
  · rename_i h; rw [h]
  · rfl
theorem moveE_self (m : Lm) (s : Int) : moveE m s s 0 = if m.is s then (0, m) else (1, m) := by
  unfold moveE
  by_cases h : m.is s
  · rw [if_pos ⟨h, h⟩, if_neg (by omega), if_pos h]
    unfold Lm.move
    simp only [Nat.sub_zero, Nat.add_zero, upd_id]
  · rw [if_neg (fun h2 => h h2.1), if_neg h]

theorem runE_inv {T : Nat} {m : Lm} (h : LInv T m) (s k t : Int) (a n : Nat) : LInv T (runE m s k t a n).2 := by
  unfold runE
  split
  · split
    · exact moveE_inv h _ _ _
    · split <;> exact h
  · exact h

set_option maxRecDepth 20000 in
set_option maxHeartbeats 1600000 in
theorem run_any (w : World) (x ab mb T : Nat) (m : Lm) (h : Led w x ab mb m) (hi : LInv T m) (s k t : Int) (a : Nat) (mv : Value) (memo : List UInt8) (hm : Bs w mv memo) (ha : a < 18446744073709551616) :
    Calls Try.prog 43 #[.pointer (some ⟨x, 0, none⟩), .int .i64 s, txV k t a mv] w (HoldPost w x ab mb m (runE m s k t a memo.length)) := by
  obtain ⟨ma, mc, rfl⟩ := bs_form' hm
  obtain ⟨w1, hw1⟩ : ∃ w1, w1 = w.alloc (Obj.cells #[.int .i64 k, .int .i64 t, .int .u64 (a : Int), .slice ma memo.length mc] 40) := ⟨_, rfl⟩
  have o1 : Only [] w w1 := by rw [hw1]; exact (Only.refl [] w).alloc _
  have c0 : w1.cell? ⟨w.heap.size, 0, none⟩ = some (.int .i64 k) := by rw [hw1]; simp [go_sem]
  have c1 : w1.cell? ⟨w.heap.size, 1, none⟩ = some (.int .i64 t) := by rw [hw1]; simp [go_sem]
  have c2 : w1.cell? ⟨w.heap.size, 2, none⟩ = some (.int .u64 (a : Int)) := by rw [hw1]; simp [go_sem]
  have hri := right_any w1 k t a _ memo (hm.kept0 o1)
  obtain ⟨r, hr⟩ : ∃ r, r = rightB k t a memo.length := ⟨_, rfl⟩
  rw [← hr] at hri
  unfold runE
  rw [← hr]
  clear hr
  cases r with
  | false =>
    rw [if_neg (by simp)]
    replace hri := hid hri
    go_enter Try.func43, Try.ntmps43
    go_wp2_with fail
    rw [← hw1]
    clear hw1
    refine hri.out.mono ?_
    rintro e w2 ⟨rfl, o2⟩
    go_wp2
    go_ret
    exact ⟨rfl, (h.kept0 o1).kept0 o2, (o1.trans0 o2).mono (by simp)⟩
  | true =>
    rw [if_pos rfl]
    replace hri := hid hri
    by_cases k1 : k = 1
    · subst k1
      rw [if_pos rfl]
      have hmv := hid (fun W (hL : Led W x ab mb m) => move_any W x ab mb T m hL hi s t a ha)
      go_enter Try.func43, Try.ntmps43
      go_wp2_with fail
      rw [← hw1]
      clear hw1
      refine hri.out.mono ?_
      rintro e w2 ⟨rfl, o2⟩
      replace c0 := o2.cell c0 (by simp)
      replace c1 := o2.cell c1 (by simp)
      replace c2 := o2.cell c2 (by simp)
      go_wp2_with fail
      refine (hmv.out _ ((h.kept0 o1).kept0 o2)).mono ?_
      rintro e w3 ⟨rfl, hL3, o3⟩
      go_wp2
      go_ret
      exact ⟨rfl, hL3, (o1.trans0 o2).trans o3 (by simp) (by simp)⟩
    · rw [if_neg k1]
      have k1' : (k == 1) = false := by rw [beq_eq_false_iff_ne]; exact k1
      have hmv := fun W (hL : Led W x ab mb m) => move_any W x ab mb T m hL hi s s 0 (by omega)
      rw [moveE_self] at hmv
      obtain ⟨R, hR⟩ : ∃ R, R = if m.is s then (0, m) else (1, m) := ⟨_, rfl⟩
      rw [← hR] at hmv ⊢
      replace hmv := hid hmv
      clear k1 hR
      go_enter Try.func43, Try.ntmps43
      go_wp2_with fail
      rw [← hw1]
      clear hw1
      refine hri.out.mono ?_
      rintro e w2 ⟨rfl, o2⟩
      replace c0 := o2.cell c0 (by simp)
      go_wp2_with fail
      refine (hmv.out _ ((h.kept0 o1).kept0 o2)).mono ?_
      rintro e w3 ⟨rfl, hL3, o3⟩
      go_wp2
      go_ret
      exact ⟨rfl, hL3, (o1.trans0 o2).trans o3 (by simp) (by simp)⟩
end Go.Proofs.Ytiinfiaemiaamaa.Sh
