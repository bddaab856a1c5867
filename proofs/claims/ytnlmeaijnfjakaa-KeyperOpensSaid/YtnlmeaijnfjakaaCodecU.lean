/- Texts and numbers, laid, by the program and by the document: walked. -/
import Derived.Test.YtnlmeaijnfjakaaPlNum
import Derived.Test.YtnlmeaijnfjakaaKeep
namespace Go.Proofs.Ytnlmeaijnfjakaa.Sh
set_option linter.unusedSimpArgs false
set_option linter.unusedVariables false
open Go Go.RowKit

/-- A slice of bytes of the call's own. -/
@[reducible] def Ob (B : Nat) (w : World) (v : Value) (l : List UInt8) : Prop := w.ownsRow B 5 1 v l.length (bytes l)

theorem Ob.app {B : Nat} {w : World} {v : Value} {l m : List UInt8} (h : w.ownsRow B 5 1 v (l.length + m.length) (bytes l ++ bytes m)) : Ob B w v (l ++ m) := own_cast h (by simp) (by simp)

theorem App.bs {w w' : World} {v v' x : Value} {l : List UInt8} (h : App w w' v v') (hB : Bs w x l) (hne : ∀ b, x.ownBlock = some b → l = [] ∨ v.ownBlock ≠ some b) : Bs w' x l :=
  hB.kept' (bs := v.ownBlock.toList) ((Only.refl v.ownBlock.toList w).app h (fun k hk => .inl (by simp [hk]))) (fun b hb => by
    rcases hne b hb with h | h
    · exact .inl h
    · exact .inr (by simpa using h))
/-- The block of bytes that are there. -/
theorem Bs.old {w : World} {v : Value} {l : List UInt8} (h : Bs w v l) : ∀ b, v.ownBlock = some b → l = [] ∨ b < w.heap.size := by
  intro b hb
  by_cases hl : 0 < l.length
  · obtain ⟨b', o, c, rfl, _, _, _, hat⟩ := h.form hl
    have := World.block_lt_of_cell? w _ (hat 0 (vU8 l[0]) (bytes_get hl))
    simp only [Value.ownBlock, Option.some.injEq] at hb
    subst hb
    exact .inr this
  · exact .inl (List.eq_nil_of_length_eq_zero (by omega))

theorem putText_any (v u : Value) (xs s : List UInt8) (B : Nat) (w : World) (hown : Ob B w v xs) (hx : xs.length ≤ 500000) (hs : s.length ≤ 500000) (hB : B ≤ w.heap.size) (hu : Bs w u s) (hne : ∀ b, u.ownBlock = some b → s = [] ∨ v.ownBlock ≠ some b) :
    Calls Try.prog 34 #[v, u] w fun e w' => ∃ v', e = .returned v' ∧ Ob B w' v' (xs ++ textB s) ∧ App w w' v v' := by
  obtain ⟨a, c, rfl⟩ := own_form hown
  obtain ⟨_, ua, uc, rfl, u1, u2, u3, _⟩ := id hu
  have hnb := numB_length 10 s.length (by omega) (by omega)
  have htx : Hid (xs ++ textB s = xs ++ numB s.length ++ s) := by show _ = _; simp [textB]
  go_enter Try.func34, Try.ntmps34
  go_wp2_with fail
  refine (putNum_any _ xs s.length B w hown (by omega) (by omega) hB).mono ?_
  rintro e w1 ⟨v1, rfl, hown1, happ1⟩
  have hu1 := happ1.bs hu hne
  have hs1 := happ1.grown.size
  have hlen : (xs ++ numB s.length).length ≤ 600000 := by simp; omega
  obtain ⟨ys, hys⟩ : ∃ ys, ys = xs ++ numB s.length := ⟨_, rfl⟩
  rw [← hys] at hown1 hlen htx
  clear hys
  obtain ⟨a1, c1, rfl⟩ := own_form hown1
  go_wp2_with (at_builtin; refine wpList_app (by rfl) _ _ 27 (by rfl) B 5 1 1 el_u8 (by rfl) hown1 (by rfl) hu1 (bytes_one _) (by omega) (by omega) (by omega) ?_; intro v2 w2 hown2 happ2)
  go_ret
  exact ⟨_, rfl, by rw [htx.out]; exact Ob.app hown2, happ1.trans happ2⟩

set_option maxRecDepth 20000 in
set_option maxHeartbeats 1600000 in
theorem refNumB_any (n : Nat) (w : World) (hn : n < 18446744073709551616) :
    Calls Try.prog 82 #[.int .u64 n] w fun e w' => ∃ v', e = .returned v' ∧ Ob w.heap.size w' v' (numB n) ∧ Only [] w w' := by
  go_enter Try.func82, Try.ntmps82
  go_wp2_with fail
  go_loopw [0, 3] (fun i b wr => ∃ (k m : Nat) (ys : List UInt8), k ≤ 9 ∧ i = .int .u64 m ∧ m < 128 ^ (10 - k) ∧ m < 18446744073709551616 ∧ ys.length = k ∧ Hid (numB n = ys ++ numB m) ∧ Ob w.heap.size wr b ys ∧ Only [] w wr) (fun i _ _ => (intOf i).toNat)
  case atStart => exact ⟨0, n, [], by omega, rfl, by omega, hn, rfl, rfl, World.ownsRow_nil _ _ _ _, Only.refl _ _⟩
  case round =>
    obtain ⟨k, m, ys, hk, rfl, hm, hm64, hyl, hF, ho, hon⟩ := hrel
    obtain ⟨b, cb, rfl⟩ := own_form ho
    have hsz := hon.size
    by_cases h128 : m < 128
    · have hpost := hid (show numB m = [UInt8.ofNat m] by rw [numB, if_pos h128])
      have hby := hid (byte_last m h128)
      clear hm
      go_wp2_with (at_builtin; refine wpList_app1 (by rfl) _ _ 27 (by rfl) w.heap.size 5 1 1 el_u8 (by rfl) ho [_] (by rfl) rfl (one1 rfl) (by omega) (by omega) (by omega) ?_; intro v2 w2 hown2 happ2)
      go_ret
      refine ⟨_, rfl, own_cast hown2 ?_ ?_, hon.app happ2 (fun i hi => .inr (ho.lt i hi).1)⟩
      · rw [hF.out, hpost.out]; simp
      · rw [hF.out, hpost.out, hby.out]; simp [bytes]
    · have hnb := hid (show numB m = UInt8.ofNat (m % 128 + 128) :: numB (m / 128) by rw [numB, if_neg h128])
      have hk9 : k < 9 := by
        rcases Nat.lt_or_ge k 9 with h | h
        · exact h
        · obtain rfl : k = 9 := by omega
          simp at hm; omega
      have HM := hid (show m / 128 < 128 ^ (10 - (k + 1)) by
        rw [show 10 - k = (10 - (k + 1)) + 1 by omega, Nat.pow_succ] at hm
        omega)
      have hby : Hid (Value.int .u8 (((m : Int) % 128 + 128)) = vU8 (UInt8.ofNat (m % 128 + 128))) := by
        show _ = _
        congr 1
        rw [UInt8.toNat_ofNat']
        omega
      clear hm
      go_wp2_with (at_builtin; refine wpList_app1 (by rfl) _ _ 27 (by rfl) w.heap.size 5 1 1 el_u8 (by rfl) ho [_] (by rfl) rfl (one1 rfl) (by omega) (by omega) (by omega) ?_; intro v2 w2 hown2 happ2)
      go_roundw
      case rel =>
        refine ⟨k + 1, m / 128, ys ++ [UInt8.ofNat (m % 128 + 128)], by omega, by rw [Int.natCast_ediv]; rfl, HM, by omega, by simp; omega, hid (by rw [hF.out, hnb.out]; simp), own_cast hown2 (by simp) ?_, hon.app happ2 (fun i hi => .inr (ho.lt i hi).1)⟩
        simp only [bytes, List.map_append, List.map_cons, List.map_nil]
        congr 2
      case measure => simp [intOf]; omega

theorem refTextB_any (u : Value) (s : List UInt8) (w : World) (hs : s.length ≤ 500000) (hu : Bs w u s) :
    Calls Try.prog 81 #[u] w fun e w' => ∃ v', e = .returned v' ∧ Ob w.heap.size w' v' (textB s) ∧ Only [] w w' := by
  obtain ⟨_, ua, uc, rfl, u1, u2, u3, _⟩ := id hu
  have hnb := numB_length 10 s.length (by omega) (by omega)
  go_enter Try.func81, Try.ntmps81
  go_wp2_with fail
  refine (refNumB_any s.length w (by omega)).mono ?_
  rintro e w1 ⟨v1, rfl, hown1, ho1⟩
  have hu1 := hu.kept0 ho1
  have hs1 := ho1.size
  obtain ⟨a1, c1, rfl⟩ := own_form hown1
  go_wp2_with (at_builtin; refine wpList_app (by rfl) _ _ 27 (by rfl) w.heap.size 5 1 1 el_u8 (by rfl) hown1 (by rfl) hu1 (bytes_one _) (by omega) (by omega) (by omega) ?_; intro v2 w2 hown2 happ2)
  go_ret
  exact ⟨_, rfl, Ob.app hown2, ho1.app happ2 (fun i hi => .inr (hown1.lt i hi).1)⟩
end Go.Proofs.Ytnlmeaijnfjakaa.Sh
