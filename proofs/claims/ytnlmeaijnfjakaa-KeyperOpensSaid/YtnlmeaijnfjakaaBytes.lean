/- Slices of bytes: cloned; parts of them: walked. -/
import Derived.Test.YtnlmeaijnfjakaaProg
import Derived.Test.YtnlmeaijnfjakaaBase
import Derived.WalkSpells
namespace Go.Proofs.Ytnlmeaijnfjakaa.Sh
set_option linter.unusedSimpArgs false
set_option linter.unusedVariables false
open Go Go.RowKit

theorem el_u8 : El Try.prog 27 5 1 1 := el_mk (z := .int .u8 0) Try.underlying27 (by kernel_rfl) rfl (by omega)

/-- A byte slice in new memory. -/
def Fresh (w w' : World) (v : Value) (l : List UInt8) : Prop := w'.ownsRow w.heap.size 5 1 v l.length (bytes l)

theorem Fresh.bs {w w' : World} {v : Value} {l : List UInt8} (h : Fresh w w' v l) (hl : l.length ≤ 9223372036854775807) : Bs w' v l := Cs.of_own h hl

set_option maxHeartbeats 400000 in
theorem clone_any (v : Value) (l : List UInt8) (w : World) (hB : Bs w v l) (hlen : l.length ≤ 140737488355328) :
    Calls Try.prog 39 #[v] w fun e w' => ∃ v', e = .returned v' ∧ Fresh w w' v' l ∧ Only [] w w' := by
  obtain ⟨hl0, a, cap, rfl, h1, h2, h3, h4⟩ := id hB
  have hq := fun (w : World) (a : Option Addr) (n c : Nat) => Lib.run_eql_slice_nil (P := Try.prog) w 27 5 a n c 0 0 Try.underlying27
  cases a with
  | none =>
    have hl : l = [] := by
      rcases h4 with h4 | ⟨b, o, h5, _⟩
      · simpa [bytes] using h4
      · cases h5
    subst hl
    go_enter Try.func39, Try.ntmps39
    go_wp2
    go_ret
    exact ⟨_, rfl, World.ownsRow_nil _ _ _ _, Only.refl _ _⟩
  | some ad =>
    go_enter Try.func39, Try.ntmps39
    go_wp2_with (at_builtin; refine wpList_app (by rfl) _ _ 27 (by rfl) w.heap.size 5 1 1 el_u8 (by rfl) (World.ownsRow_made w #[] 0 (Nat.le_refl _) (by unfold maxLen; omega) rfl) (by rfl) (hB.kept0 ((Only.refl [] w).alloc _)) (bytes_one l) (by omega) (by omega) (by simp) ?_; intro v1 w1 hown1 happ1)
    go_ret
    exact ⟨_, rfl, by simpa [Fresh] using hown1, ((Only.refl [] w).alloc _).app happ1 (by simp [Value.ownBlock])⟩

theorem Bs.tail {w : World} {b o cap : Nat} {l : List UInt8} (h : Bs w (.slice (some ⟨b, o, none⟩) l.length cap) l) (lo : Nat) (hn : lo ≤ l.length) : Bs w (.slice (some ⟨b, o + lo, none⟩) (l.length - lo) (cap - lo)) (l.drop lo) := by
  have := h.sub lo (l.length - lo) (by omega)
  rwa [List.take_of_length_le (by simp)] at this

theorem Bs.empty {w : World} {a : Option Addr} {cap : Nat} (h : cap ≤ maxLen) : Bs w (.slice a 0 cap) [] := ⟨by simp [bytes], a, cap, rfl, by simp, h, by simp, .inl rfl⟩

theorem Fresh.only {w w1 w2 : World} {v : Value} {l : List UInt8} (h : Fresh w w1 v l) (ho : Only [] w1 w2) : Fresh w w2 v l := own_only0 h ho
theorem Fresh.before {w w1 w2 : World} {v : Value} {l : List UInt8} (h : Fresh w1 w2 v l) (hs : w.heap.size ≤ w1.heap.size) : Fresh w w2 v l := own_lower h hs

/-- A slice's bytes from the start. -/
theorem Bs.pre {w : World} {a : Option Addr} {cap : Nat} {l : List UInt8} (h : Bs w (.slice a l.length cap) l) (n : Nat) (hn : n ≤ l.length) : Bs w (.slice a n cap) (l.take n) := by
  by_cases hl : 0 < l.length
  · obtain ⟨b, o, c, he, _, _, _, _⟩ := id h.form hl
    simp only [Value.slice.injEq] at he
    obtain ⟨rfl, _, rfl⟩ := he
    exact h.sub 0 n (by omega)
  · obtain rfl : l = [] := List.eq_nil_of_length_eq_zero (by omega)
    obtain rfl : n = 0 := by simpa using hn
    obtain ⟨_, a', c', he, _, h2, _, _⟩ := h
    simp only [Value.slice.injEq] at he
    obtain ⟨rfl, _, rfl⟩ := he
    exact Bs.empty h2

end Go.Proofs.Ytnlmeaijnfjakaa.Sh
