/- Layer 8: steps; few, held. -/
import Derived.Test.YtcceiejfphokbaaCodecF
import Derived.Test.YtcceiejfphokbaaRead
namespace Go.Proofs.Ytcceiejfphokbaa.Sh
open Go Go.RowKit

structure Stp where
  kind : Int
  n : Nat
  s : List UInt8

def Stp.ok (x : Stp) : Prop := -9223372036854775808 ≤ x.kind ∧ x.kind ≤ 9223372036854775807 ∧ x.n < 18446744073709551616

/-- A slice of steps. -/
def Steps (w : World) (v : Value) (l : List Stp) : Prop :=
  ∃ a cap, v = .slice a l.length cap ∧ l.length ≤ cap ∧ cap ≤ maxLen ∧ l.length ≤ 9223372036854775807 ∧ (∀ x ∈ l, x.ok) ∧
    (l = [] ∨ ∃ b o, a = some ⟨b, o, none⟩ ∧ ∀ (i : Nat) (h : i < l.length), w.cell? ⟨b, o + i * 3, none⟩ = some (.int .i64 l[i].kind) ∧ w.cell? ⟨b, o + i * 3 + 1, none⟩ = some (.int .u64 l[i].n) ∧ ∃ x, w.cell? ⟨b, o + i * 3 + 2, none⟩ = some x ∧ Bs w x l[i].s)

theorem Steps.kept0 {w w' : World} {v : Value} {l : List Stp} (h : Steps w v l) (ho : Only [] w w') : Steps w' v l := by
  obtain ⟨a, cap, rfl, h1, h2, h3, h4, h5⟩ := h
  refine ⟨a, cap, rfl, h1, h2, h3, h4, ?_⟩
  rcases h5 with h5 | ⟨b, o, rfl, h5⟩
  · exact .inl h5
  · refine .inr ⟨b, o, rfl, fun i hi => ?_⟩
    obtain ⟨c1, c2, x, c3, hB⟩ := h5 i hi
    exact ⟨ho.cell c1 (by simp), ho.cell c2 (by simp), x, ho.cell c3 (by simp), hB.kept0 ho⟩

theorem Steps.at {w : World} {a : Option Addr} {n cap : Nat} {l : List Stp} (h : Steps w (.slice a n cap) l) (k : Nat) (hk : k < l.length) : ∃ b o x, a = some ⟨b, o, none⟩ ∧ w.cell? ⟨b, o + k * 3, none⟩ = some (.int .i64 l[k].kind) ∧ w.cell? ⟨b, o + k * 3 + 1, none⟩ = some (.int .u64 l[k].n) ∧ w.cell? ⟨b, o + k * 3 + 2, none⟩ = some x ∧ Bs w x l[k].s := by
  obtain ⟨a', cap', he, _, _, _, _, h5⟩ := h
  simp only [Value.slice.injEq] at he
  obtain ⟨rfl, _, rfl⟩ := he
  rcases h5 with h5 | ⟨b, o, rfl, h5⟩
  · subst h5; simp at hk
  · obtain ⟨c1, c2, x, c3, hB⟩ := h5 k hk
    exact ⟨b, o, x, rfl, c1, c2, c3, hB⟩

theorem Steps.form {w : World} {v : Value} {l : List Stp} (h : Steps w v l) : ∃ a cap, v = .slice a l.length cap ∧ l.length ≤ cap ∧ cap ≤ maxLen ∧ l.length ≤ 9223372036854775807 := by
  obtain ⟨a, cap, rfl, h1, h2, h3, _⟩ := h
  exact ⟨a, cap, rfl, h1, h2, h3⟩

def fewL (l : List Stp) : Bool := l.all (fun x => decide (x.s.length ≤ 60)) && decide (l.length ≤ 30)

set_option maxHeartbeats 800000 in
theorem few_any (v : Value) (l : List Stp) (w : World) (hl : Steps w v l) :
    Calls Try.prog 29 #[v] w fun e w' => e = .returned (.bool (fewL l)) ∧ w' = w := by
  obtain ⟨a, cap, rfl, h1, h2, h3⟩ := hl.form
  go_enter Try.func29, Try.ntmps29
  go_wp2
  go_loop [6] (fun i => ∃ k : Nat, k ≤ l.length ∧ i = .int .i64 k ∧ Hid (∀ j (h : j < l.length), j < k → l[j].s.length ≤ 60)) (fun i => l.length - (intOf i).toNat)
  case atStart => exact ⟨0, Nat.zero_le _, rfl, hid (fun j _ h => absurd h (Nat.not_lt_zero _))⟩
  case round =>
    obtain ⟨k, hk, rfl, hall⟩ := hrel
    by_cases hlt : k < l.length
    · obtain ⟨b, o, x, rfl, c1, c2, c3, hB⟩ := hl.at k hlt
      obtain ⟨_, xa, xc, rfl, _, _, _, _⟩ := id hB
      have hlong := hid (show 60 < l[k].s.length → fewL l = false by
        intro h
        have : l.all (fun x => decide (x.s.length ≤ 60)) = false := by
          rw [List.all_eq_false]
          exact ⟨l[k], List.getElem_mem hlt, by simpa using h⟩
        simp [fewL, this])
      have hshort := hid (show l[k].s.length ≤ 60 → ∀ j (h : j < l.length), j < k + 1 → l[j].s.length ≤ 60 by
        intro h j hj hjk
        by_cases hjk' : j < k
        · exact hall.out j hj hjk'
        · obtain rfl : j = k := by omega
          exact h)
      obtain ⟨m, hm⟩ : ∃ m, m = l[k].s.length := ⟨_, rfl⟩
      rw [← hm] at c3 hlong hshort
      clear hm c1 c2 hall hB
      by_cases h60 : 60 < m
      · go_wp2
        go_ret
        exact ⟨by rw [hlong.out h60]; rfl, rfl⟩
      · have hs := hid (hshort.out (by omega))
        clear hlong hshort
        go_wp2
        go_round
        case rel => exact ⟨k + 1, by omega, by go_num, hs⟩
        case measure => simp [intOf]; omega
    · obtain rfl : k = l.length := by omega
      have hf := hid (show fewL l = decide (l.length ≤ 30) by
        have : l.all (fun x => decide (x.s.length ≤ 60)) = true := by
          rw [List.all_eq_true]
          intro x hx
          obtain ⟨j, hj, rfl⟩ := List.getElem_of_mem hx
          simpa using hall.out j hj hj
        simp [fewL, this])
      clear hall
      by_cases h30 : l.length ≤ 30
      · go_wp2
        go_ret
        exact ⟨by rw [hf.out, decide_eq_true h30]; simp; omega, rfl⟩
      · go_wp2
        go_ret
        exact ⟨by rw [hf.out, decide_eq_false h30]; simp; omega, rfl⟩
end Go.Proofs.Ytcceiejfphokbaa.Sh
