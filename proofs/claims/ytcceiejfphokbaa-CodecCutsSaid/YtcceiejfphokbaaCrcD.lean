/- Next and All, walked. -/
import Derived.Test.YtcceiejfphokbaaCrcC
import Derived.Deep.RegionHeld3
import Derived.Deep.DeepMust
namespace Go.Proofs.Ytcceiejfphokbaa.Sh
open Go Go.RowKit

theorem Bs.tail {w : World} {b o cap : Nat} {l : List UInt8} (h : Bs w (.slice (some ⟨b, o, none⟩) l.length cap) l) (lo : Nat) (hn : lo ≤ l.length) : Bs w (.slice (some ⟨b, o + lo, none⟩) (l.length - lo) (cap - lo)) (l.drop lo) := by
  have := h.sub lo (l.length - lo) (by omega)
  rwa [List.take_of_length_le (by simp)] at this

theorem Bs.empty {w : World} {a : Option Addr} {cap : Nat} (h : cap ≤ maxLen) : Bs w (.slice a 0 cap) [] := ⟨by simp [bytes], a, cap, rfl, by simp, h, by simp, .inl rfl⟩

def NextPost (l : List UInt8) (w : World) (e : Ending) (w' : World) : Prop :=
  ∃ v1 v2, e = .returned (.tuple #[v1, v2, .int .i64 ((firstL l).1 : Int)]) ∧ Only [] w w' ∧
    ((firstL l).1 = 0 → Fresh w w' v1 ((l.drop 6).take (firstL l).2) ∧ Fresh w w' v2 (l.drop (6 + (firstL l).2))) ∧ ((firstL l).1 ≠ 0 → v1 = .slice none 0 0 ∧ v2 = .slice none 0 0)

theorem Fresh.only {w w1 w2 : World} {v : Value} {l : List UInt8} (h : Fresh w w1 v l) (ho : Only [] w1 w2) : Fresh w w2 v l := own_only0 h ho
theorem Fresh.before {w w1 w2 : World} {v : Value} {l : List UInt8} (h : Fresh w1 w2 v l) (hs : w.heap.size ≤ w1.heap.size) : Fresh w w2 v l := own_lower h hs

set_option maxHeartbeats 800000 in
theorem next_any (v : Value) (l : List UInt8) (w : World) (hB : Bs w v l) (hlen0 : l.length ≤ 140737488355328) :
    Calls Try.prog 23 #[v] w (NextPost l w) := by
  by_cases hA : (firstL l).1 = 0
  · obtain ⟨n, hn⟩ : ∃ n, n = (firstL l).2 := ⟨_, rfl⟩
    have hlen : 0 < l.length := by
      rcases Nat.eq_zero_or_pos l.length with h | h
      · have : l = [] := List.eq_nil_of_length_eq_zero h
        subst this; simp [firstL] at hA
      · exact h
    obtain ⟨b, o, cap, rfl, h1, h2, h3, h4⟩ := hB.form hlen
    clear h4
    have HA := hid hA
    have HN := hid hn
    clear hA hn
    go_enter Try.func23, Try.ntmps23
    go_wp2_with fail
    refine (first_any _ l w hB).mono ?_
    rintro e w1 ⟨v1, rfl, ho1, hp⟩
    obtain ⟨hb1, hl1, hn1, hn2⟩ := hp HA.out
    rw [← HN.out] at hb1 hl1 hn1 hn2
    rw [HA.out]
    clear hp
    obtain ⟨hx0, xa, xc, rfl, hx1, hx2, hx3, hx4⟩ := id hb1
    have hxl : ((l.drop 6).take n).length = n := by simp; omega
    rw [hxl] at hx1 hx3 ⊢
    have hb1' : Bs w1 (.slice xa n xc) ((l.drop 6).take n) := by rw [hxl] at hb1; exact hb1
    clear hx0 hx4 hxl hb1
    have hwr : IntKind.i64.wrap (6 + (n : Int)) = 6 + (n : Int) := IntWalk.i64_in _ (by omega)
    have hb0 : (0 : Int) ≤ 6 + (n : Int) := by omega
    have hb1 : 6 + (n : Int) ≤ (l.length : Int) := by omega
    have tok1 : True := trivial
    by_cases hcap : cap = 6 + n
    · subst hcap
      have hll : l.length = 6 + n := by omega
      have hld : l.drop (6 + n) = [] := List.drop_of_length_le (by omega)
      have hrest : Bs w1 (.slice (some ⟨b, o, none⟩) 0 0) (l.drop (6 + n)) := by rw [hld]; exact Bs.empty (by omega)
      have hz0 : l.length - (6 + (n : Int)).toNat = 0 := by omega
      have HL := hid hll
      clear hld hll
      go_wp2_with fail
      go_region_held3 (fun _ => True) (exact trivial) (first
        | (go_at_call 60; have _t := tok1; refine (clone_any _ ((l.drop 6).take n) _ ?_ (by simp; omega)).mono ?_; exact hb1'.kept0 (Only.refl _ _).drew; rintro e w2 ⟨v2, rfl, hf2, ho2⟩; clear tok1)
        | (go_at_call 60; refine (clone_any _ (l.drop (6 + n)) _ ?_ (by simp; omega)).mono ?_; exact (hrest.kept0 (Only.refl _ _).drew).kept0 ho2; rintro e w3 ⟨v3, rfl, hf3, ho3⟩))
      go_wp2
      go_ret3
      have hz := ho1.size
      exact ⟨_, _, by rw [HA.out]; rfl, ho1.drew.trans0 (ho2.trans0 ho3), by rw [HA.out, ← HN.out]; exact fun _ => ⟨(hf2.before hz).only ho3, hf3.before (Nat.le_trans hz ho2.size)⟩, by rw [HA.out]; intro h; exact absurd rfl h⟩
    · have hrest := (hB.kept0 ho1).tail (6 + n) hl1
      have hlc : 6 + n < cap := by omega
      clear hcap
      go_wp2_with fail
      go_region_held3 (fun _ => True) (exact trivial) (first
        | (go_at_call 60; have _t := tok1; refine (clone_any _ ((l.drop 6).take n) _ ?_ (by simp; omega)).mono ?_; exact hb1'.kept0 (Only.refl _ _).drew; rintro e w2 ⟨v2, rfl, hf2, ho2⟩; clear tok1)
        | (go_at_call 60; refine (clone_any _ (l.drop (6 + n)) _ ?_ (by simp; omega)).mono ?_; exact (hrest.kept0 (Only.refl _ _).drew).kept0 ho2; rintro e w3 ⟨v3, rfl, hf3, ho3⟩))
      go_wp2
      go_ret3
      have hz := ho1.size
      exact ⟨_, _, by rw [HA.out]; rfl, ho1.drew.trans0 (ho2.trans0 ho3), by rw [HA.out, ← HN.out]; exact fun _ => ⟨(hf2.before hz).only ho3, hf3.before (Nat.le_trans hz ho2.size)⟩, by rw [HA.out]; intro h; exact absurd rfl h⟩
  · have HA := hid hA
    obtain ⟨_, a, cap, rfl, h1, h2, h3, _⟩ := id hB
    have hA' : ((firstL l).1 : Int) ≠ 0 := by omega
    clear hA
    go_enter Try.func23, Try.ntmps23
    go_wp2_with fail
    refine (first_any _ l w hB).mono ?_
    rintro e w1 ⟨v1, rfl, ho1, hp⟩
    go_wp2
    go_ret3
    exact ⟨_, _, rfl, ho1, fun h => absurd h HA.out, fun _ => ⟨rfl, rfl⟩⟩
end Go.Proofs.Ytcceiejfphokbaa.Sh
