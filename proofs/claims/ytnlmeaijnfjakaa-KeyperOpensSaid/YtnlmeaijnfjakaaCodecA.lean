/- The codec's reader: its state, its ends, the next bytes: walked. -/
import Derived.Test.YtnlmeaijnfjakaaBytes
import Derived.Defers
import Derived.Recover
namespace Go.Proofs.Ytnlmeaijnfjakaa.Sh
set_option linter.unusedSimpArgs false
set_option linter.unusedVariables false
open Go Go.RowKit

/-- The panic that ends a reading: by this reader, by this error. -/
def ownEnd (rb c : Nat) : List PanicEntry := [{ v := .iface 136 (.agg #[.pointer (some ⟨rb, 0, none⟩), .int .i64 (c : Int)]), recovered := false }]

theorem add_block (x : Addr) (n : Nat) : (x.add n).block = x.block := by
  unfold Addr.add
  split <;> rfl
theorem ownBlock_slice (a : Option Addr) (n c : Nat) : (Value.slice a n c).ownBlock = a.map (·.block) := by cases a <;> rfl

theorem Bs.kept' {w w' : World} {v : Value} {l : List UInt8} (h : Bs w v l) {bs : List Nat} (ho : Only bs w w') (hn : ∀ b, v.ownBlock = some b → l = [] ∨ b ∉ bs) : Bs w' v l := by
  obtain ⟨hl, a, cap, rfl, h1, h2, h4, h3⟩ := h
  refine ⟨hl, a, cap, rfl, h1, h2, h4, ?_⟩
  rcases h3 with h3 | ⟨b, o, rfl, h3⟩
  · exact .inl h3
  · rcases hn b rfl with rfl | hn
    · exact .inl rfl
    · exact .inr ⟨b, o, rfl, fun j u hu => ho.cell (h3 j u hu) hn⟩

/-- A reader that is on: what is left. -/
structure Rd (w : World) (rb fb : Nat) (l : List UInt8) : Prop where
  left : ∃ v, w.cell? ⟨rb, 0, none⟩ = some v ∧ Bs w v l ∧ ∀ b, v.ownBlock = some b → l = [] ∨ b = fb
  ne : fb ≠ rb
  on : w.cell? ⟨rb, 1, none⟩ = some (.bool true)
  soft : w.frozen? ⟨rb, 0, none⟩ = false ∧ w.frozen? ⟨rb, 1, none⟩ = false

theorem Rd.kept {w w' : World} {rb fb : Nat} {l : List UInt8} (h : Rd w rb fb l) {bs : List Nat} (ho : Only bs w w') (hn : rb ∉ bs) (hl : l = [] ∨ fb ∉ bs) : Rd w' rb fb l := by
  obtain ⟨v, hc, hB, hne⟩ := h.left
  have hb : rb < w.heap.size := World.block_lt_of_cell? w _ hc
  exact ⟨⟨v, ho.cell hc hn, hB.kept' ho (fun b hv => by
    rcases hne b hv with h | rfl
    · exact .inl h
    · exact hl), hne⟩, h.ne, ho.cell h.on hn, by rw [ho.frozen' hb hn]; exact h.soft.1, by rw [ho.frozen' hb hn]; exact h.soft.2⟩
theorem Rd.kept0 {w w' : World} {rb fb : Nat} {l : List UInt8} (h : Rd w rb fb l) (ho : Only [] w w') : Rd w' rb fb l := h.kept ho (by simp) (by simp)
theorem Rd.lt {w : World} {rb fb : Nat} {l : List UInt8} (h : Rd w rb fb l) : rb < w.heap.size := World.block_lt_of_cell? w _ h.on

set_option maxHeartbeats 400000 in
theorem fail_any (rb fb c : Nat) (l : List UInt8) (w : World) (h : Rd w rb fb l) (hc : c ≤ 100) :
    Calls Try.prog 89 #[.pointer (some ⟨rb, 0, none⟩), .int .i64 c] w fun e w' => e = .panicked (ownEnd rb (if c = 0 then 1 else c)) ∧ w' = w := by
  have hon := h.on
  by_cases h0 : c = 0
  · subst h0
    go_enter Try.func89, Try.ntmps89
    go_wp2
    exact ⟨rfl, rfl, rfl⟩
  · have hb : ((c : Int) == 0) = false := by rw [beq_eq_false_iff_ne]; omega
    rw [if_neg h0]
    clear h0
    go_enter Try.func89, Try.ntmps89
    go_wp2
    exact ⟨rfl, rfl, rfl⟩

theorem Rd.set {w : World} {rb fb : Nat} {l l' : List UInt8} {v : Value} (h : Rd w rb fb l) (hB : Bs w v l') (hne : ∀ b, v.ownBlock = some b → l' = [] ∨ b = fb) : Rd (w.setCell ⟨rb, 0, none⟩ v) rb fb l' := by
  obtain ⟨u, hc, _, _⟩ := h.left
  have ho : Only [rb] w (w.setCell ⟨rb, 0, none⟩ v) := (Only.refl [rb] w).setCell (.inl (by simp)) v
  refine ⟨⟨v, World.cell?_setCell_same w _ v hc, hB.kept' ho (fun b hb => ?_), hne⟩, h.ne, ?_, ?_⟩
  · rcases hne b hb with h9 | rfl
    · exact .inl h9
    · exact .inr (by simpa using h.ne)
  · rw [World.cell?_setCell_other w _ _ v (by simp)]
    exact h.on
  · simpa [go_sem] using h.soft

theorem Bs.tailO {w : World} {a : Option Addr} {cap : Nat} {l : List UInt8} (h : Bs w (.slice a l.length cap) l) (n : Nat) (hn : n ≤ l.length) : Bs w (.slice (Option.map (fun x => x.add n) a) (l.length - n) (cap - n)) (l.drop n) := by
  by_cases hl : 0 < l.length
  · obtain ⟨b, o, c, he, _, _, _, _⟩ := id h.form hl
    simp only [Value.slice.injEq] at he
    obtain ⟨rfl, _, rfl⟩ := he
    simp only [Option.map_some, Addr.add_mid]
    exact h.tail n hn
  · obtain rfl : l = [] := List.eq_nil_of_length_eq_zero (by omega)
    obtain rfl : n = 0 := by simpa using hn
    obtain ⟨_, a', c', he, _, h2, _, _⟩ := h
    simp only [Value.slice.injEq] at he
    obtain ⟨rfl, _, rfl⟩ := he
    exact Bs.empty (by omega)

theorem take_short (rb fb n : Nat) (l : List UInt8) (w : World) (h : Rd w rb fb l) (hn : l.length < n) (hn2 : n ≤ 10000) :
    Calls Try.prog 87 #[.pointer (some ⟨rb, 0, none⟩), .int .i64 n] w fun e w' => e = .panicked (ownEnd rb 2) ∧ w' = w := by
  have hon := h.on
  obtain ⟨v, hc, hB, hne⟩ := h.left
  obtain ⟨_, a, cap, rfl, h1, h2, h3, _⟩ := id hB
  go_enter Try.func87, Try.ntmps87
  go_wp2_with fail
  refine (fail_any rb fb 2 l w h (by omega)).mono ?_
  rintro e w1 ⟨rfl, rfl⟩
  exact ⟨rfl, rfl, rfl⟩

set_option maxHeartbeats 800000 in
theorem take_ok (rb fb n : Nat) (l : List UInt8) (w : World) (h : Rd w rb fb l) (hn : n ≤ l.length) :
    Calls Try.prog 87 #[.pointer (some ⟨rb, 0, none⟩), .int .i64 n] w fun e w' => ∃ v', e = .returned v' ∧ Bs w' v' (l.take n) ∧ Rd w' rb fb (l.drop n) ∧ Only [rb] w w' := by
  have hon := h.on
  obtain ⟨hs0, hs1⟩ := h.soft
  obtain ⟨v, hc, hB, hne⟩ := h.left
  obtain ⟨_, a, cap, rfl, h1, h2, h3, _⟩ := id hB
  have hpre := hB.pre n hn
  have hng : ¬ l.length < n := by omega
  have hne' : ∀ b, a.map (·.block) = some b → l = [] ∨ b = fb := by simpa only [ownBlock_slice] using hne
  have hpk : ∀ b, (Value.slice a n cap).ownBlock = some b → l.take n = [] ∨ b ∉ [rb] := by
    intro b hb
    rcases hne' b (by simpa only [ownBlock_slice] using hb) with h9 | h9
    · exact .inl (by rw [h9]; simp)
    · exact .inr (by have := h.ne; subst h9; simpa using this)
  have hpt : ∀ b, (Value.slice (Option.map (fun x => x.add n) a) (l.length - n) (cap - n)).ownBlock = some b → l.drop n = [] ∨ b = fb := by
    intro b hb
    rw [ownBlock_slice] at hb
    rcases hne' b (by cases a with | none => simp at hb | some x => simpa [add_block] using hb) with h9 | h9
    · exact .inl (by rw [h9]; simp)
    · exact .inr h9
  by_cases hcap : cap = n
  · subst hcap
    have hl : l.length = cap := by omega
    clear hne
    go_enter Try.func87, Try.ntmps87
    go_wp2
    go_ret
    exact ⟨_, rfl, hpre.kept' ((Only.refl [rb] w).setCell (.inl (by simp)) _) hpk, h.set (by rw [List.drop_of_length_le (by omega)]; exact Bs.empty (by omega)) (fun b hb => .inl (List.drop_of_length_le (by omega))), (Only.refl [rb] w).setCell (.inl (by simp)) _⟩
  · have hnc : n < cap := by omega
    clear hcap hne
    go_enter Try.func87, Try.ntmps87
    go_wp2
    go_ret
    exact ⟨_, rfl, hpre.kept' ((Only.refl [rb] w).setCell (.inl (by simp)) _) hpk, h.set (hB.tailO n hn) hpt, (Only.refl [rb] w).setCell (.inl (by simp)) _⟩
end Go.Proofs.Ytnlmeaijnfjakaa.Sh
