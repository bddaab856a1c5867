/- Laying numbers, cloning bytes, a frame: put, bytes.Clone, Frame, walked. -/
import Derived.Test.YtnlmeaijnfjakaaCrcB
import Derived.Test.YtnlmeaijnfjakaaBytes
import Derived.WalkSpells
namespace Go.Proofs.Ytnlmeaijnfjakaa.Sh
set_option linter.unusedSimpArgs false
set_option linter.unusedVariables false
open Go Go.RowKit

/-- The lowest bytes of a number, the highest one first. -/
def putL (n : Nat) : Nat → List UInt8
  | 0 => []
  | m + 1 => UInt8.ofNat (n >>> (8 * m)) :: putL n m

theorem putL_length (n m : Nat) : (putL n m).length = m := by
  induction m with
  | zero => rfl
  | succ m ih => simp [putL, ih]

theorem put_byte (n m : Nat) : Value.int .u8 ((n : Int) / 2 ^ (8 * m) % 256) = vU8 (UInt8.ofNat (n >>> (8 * m))) := by
  unfold vU8
  congr 1
  rw [UInt8.toNat_ofNat', Nat.shiftRight_eq_div_pow]
  simp

set_option maxHeartbeats 400000 in
theorem put_any (v : Value) (xs : List UInt8) (n m B : Nat) (w : World) (hown : w.ownsRow B 5 1 v xs.length (bytes xs)) (hx : xs.length ≤ 4000) (hn : n < 4294967296) (hm : m ≤ 4) (hB : B ≤ w.heap.size) :
    Calls Try.prog 98 #[v, .int .u32 n, .int .i64 m] w fun e w' => ∃ v', e = .returned v' ∧ w'.ownsRow B 5 1 v' (xs ++ putL n m).length (bytes (xs ++ putL n m)) ∧ App w w' v v' := by
  go_enter Try.func98, Try.ntmps98
  go_wp2
  go_loopw [0, 7] (fun u i wr => ∃ (r : Nat) (ys : List UInt8), r ≤ m ∧ i = .int .i64 ((r : Int) - 1) ∧ Hid (ys ++ putL n r = xs ++ putL n m) ∧ wr.ownsRow B 5 1 u ys.length (bytes ys) ∧ App w wr v u) (fun _ i _ => (intOf i + 1).toNat)
  case atStart => exact ⟨m, xs, Nat.le_refl _, rfl, rfl, hown, App.refl _ _⟩
  case round =>
    obtain ⟨r, ys, hr, rfl, hys, hown1, happ⟩ := hrel
    rename_i u _ _
    cases r with
    | zero =>
      go_wp2
      go_ret
      have e : ys = xs ++ putL n m := by have := hys.out; simpa [putL] using this
      exact ⟨_, rfl, by rw [← e]; exact hown1, happ⟩
    | succ r =>
      have hb := hid (put_byte n r)
      have hyl : ys.length ≤ 4004 := by
        have := congrArg List.length hys.out
        simp [putL_length] at this
        omega
      go_wp2_with (at_builtin; refine wpList_app1 (by rfl) _ _ 27 (by rfl) B 5 1 1 el_u8 (by rfl) hown1 [_] (by rfl) rfl (one1 rfl) (by omega) (by omega) (by have := happ.grown.size; omega) ?_; intro v1 w1 hown2 happ2)
      rw [hb.out] at hown2
      go_roundw
      case rel => exact ⟨r, ys ++ [UInt8.ofNat (n >>> (8 * r))], by omega, by go_num, hid (by have := hys.out; simp only [putL] at this; simpa using this), by simpa [bytes] using hown2, happ.trans happ2⟩
      case measure => simp [intOf]

/-- The bytes of a frame. -/
def frameL (l : List UInt8) : List UInt8 := putL l.length 2 ++ putL (crcOf l).toNat 4 ++ l

set_option maxHeartbeats 400000 in
theorem frame_bad (v : Value) (l : List UInt8) (w : World) (hB : Bs w v l) (hl : l.length < 1 ∨ 1000 < l.length) :
    Calls Try.prog 90 #[v] w fun e w' => e = .returned (.tuple #[.slice none 0 0, .int .i64 1]) ∧ w = w' := by
  obtain ⟨hl0, a, cap, rfl, h1, h2, h3, h4⟩ := id hB
  rcases hl with hl | hl
  · have h5 : l.length = 0 := by omega
    go_enter Try.func90, Try.ntmps90
    go_wp2
    go_ret2
    exact ⟨rfl, rfl⟩
  · have h5 : ¬ l.length < 1 := by omega
    go_enter Try.func90, Try.ntmps90
    go_wp2
    go_ret2
    exact ⟨rfl, rfl⟩

set_option maxHeartbeats 400000 in
theorem frame_good (v : Value) (l : List UInt8) (w : World) (hB : Bs w v l) (hl1 : 1 ≤ l.length) (hl2 : l.length ≤ 1000) :
    Calls Try.prog 90 #[v] w fun e w' => ∃ v', e = .returned (.tuple #[v', .int .i64 0]) ∧ Fresh w w' v' (frameL l) ∧ Only [] w w' := by
  obtain ⟨hl0, a, cap, rfl, h1, h2, h3, h4⟩ := id hB
  have hc1 : ¬ l.length < 1 := by omega
  have hc2 : ¬ 1000 < l.length := by omega
  have hcrc := (crcOf l).isLt
  go_enter Try.func90, Try.ntmps90
  go_wp2_with fail
  refine (put_any _ [] l.length 2 w.heap.size w (World.ownsRow_nil _ _ _ _) (by simp) (by omega) (by omega) (Nat.le_refl _)).mono ?_
  rintro e w1 ⟨v1, rfl, hown1, happ1⟩
  have ho1 := happ1.nil
  have hs1 := ho1.size
  go_wp2_with fail
  refine (of_any _ l w1 (hB.kept0 ho1)).mono ?_
  rintro e w2 ⟨rfl, ho2⟩
  have hs2 := ho2.size
  go_wp2_with fail
  refine (put_any _ _ (crcOf l).toNat 4 w.heap.size w2 (own_only0 hown1 ho2) (by simp [putL_length]) (by omega) (by omega) (by omega)).mono ?_
  rintro e w3 ⟨v3, rfl, hown3, happ3⟩
  have happ13 := (happ1.only' ho2).trans happ3
  have ho3 := happ13.nil
  have hs3 := ho3.size
  have hB3 := hB.kept0 ho3
  go_wp2_with (at_builtin; refine wpList_app (by rfl) _ _ 27 (by rfl) w.heap.size 5 1 1 el_u8 (by rfl) hown3 (by rfl) hB3 (bytes_one l) (by simp [putL_length]; omega) (by simp [putL_length]; omega) (by omega) ?_; intro v4 w4 hown4 happ4)
  go_ret2
  exact ⟨_, rfl, own_cast hown4 (by simp [frameL, putL_length]; omega) (by simp [frameL, bytes]), (happ13.trans happ4).nil⟩

theorem frameL_length (l : List UInt8) : (frameL l).length = 6 + l.length := by
  simp [frameL, putL_length]; omega

/-! reading a frame -/
/-- What 'first' tells of bytes: the error, the body's length. -/
def firstL (l : List UInt8) : Nat × Nat :=
  if l.length < 2 then (2, 0)
  else if (getF (l.take 2)).toNat < 1 ∨ 1000 < (getF (l.take 2)).toNat then (14, 0)
  else if l.length < 6 + (getF (l.take 2)).toNat then (2, 0)
  else if getF ((l.drop 2).take 4) = crcOf ((l.drop 6).take (getF (l.take 2)).toNat) then (0, (getF (l.take 2)).toNat) else (4, 0)

def FirstPost (l : List UInt8) (w : World) (e : Ending) (w' : World) : Prop :=
  ∃ v', e = .returned (.tuple #[v', .int .i64 ((firstL l).1 : Int)]) ∧ Only [] w w' ∧ ((firstL l).1 = 0 → Bs w' v' ((l.drop 6).take (firstL l).2) ∧ 6 + (firstL l).2 ≤ l.length ∧ 1 ≤ (firstL l).2 ∧ (firstL l).2 ≤ 1000)

set_option maxHeartbeats 800000 in
theorem first_any (v : Value) (l : List UInt8) (w : World) (hB : Bs w v l) :
    Calls Try.prog 85 #[v] w (FirstPost l w) := by
  by_cases hA : l.length < 2
  · obtain ⟨hl0, a, cap, rfl, h1, h2, h3, h4⟩ := id hB
    go_enter Try.func85, Try.ntmps85
    go_wp2
    go_ret2
    exact ⟨.slice none 0 0, by simp [firstL, hA], Only.refl _ _, by simp [firstL, hA]⟩
  · obtain ⟨b, o, cap, rfl, h1, h2, h3, h4⟩ := hB.form (by omega)
    have hsub1 := hB.sub 0 2 (by omega)
    rw [Nat.add_zero, Nat.sub_zero, List.drop_zero] at hsub1
    go_enter Try.func85, Try.ntmps85
    go_wp2_with fail
    refine (get_any _ _ w hsub1).mono ?_
    rintro e w' ⟨rfl, rfl⟩
    obtain ⟨n, hn⟩ : ∃ n, n = (getF (l.take 2)).toNat := ⟨_, rfl⟩
    have hF : firstL l = if n < 1 ∨ 1000 < n then (14, 0) else if l.length < 6 + n then (2, 0) else if getF ((l.drop 2).take 4) = crcOf ((l.drop 6).take n) then (0, n) else (4, 0) := by
      unfold firstL; rw [if_neg hA, ← hn]
    have hnb : n < 4294967296 := by rw [hn]; exact (getF (l.take 2)).isLt
    rw [show vU32 (getF (l.take 2)) = .int .u32 (n : Int) by rw [hn]]
    have HF := hid hF
    clear hn hF hsub1 h4
    by_cases hC : n < 1 ∨ 1000 < n
    · have hF : firstL l = (14, 0) := by rw [HF.out, if_pos hC]
      have HF' := hid hF
      clear hF HF
      rcases hC with hC | hC
      · go_wp2
        go_ret2
        exact ⟨.slice none 0 0, by simp [HF'.out], Only.refl _ _, by simp [HF'.out]⟩
      · have hC' : ¬ n < 1 := by omega
        go_wp2
        go_ret2
        exact ⟨.slice none 0 0, by simp [HF'.out], Only.refl _ _, by simp [HF'.out]⟩
    · have hC1 : ¬ n < 1 := by omega
      have hC2 : ¬ 1000 < n := by omega
      by_cases hD : l.length < 6 + n
      · have HF' := hid (show firstL l = (2, 0) by rw [HF.out, if_neg hC, if_pos hD])
        clear HF hC
        go_wp2
        go_ret2
        exact ⟨.slice none 0 0, by simp [HF'.out], Only.refl _ _, by simp [HF'.out]⟩
      · have hsub2 := hB.sub 2 4 (by omega)
        have hsub3 := hB.sub 6 n (by omega)
        have HF' := hid (show firstL l = if getF ((l.drop 2).take 4) = crcOf ((l.drop 6).take n) then (0, n) else (4, 0) by rw [HF.out, if_neg hC, if_neg hD])
        clear HF hC
        go_wp2_with fail
        refine (get_any _ _ _ hsub2).mono ?_
        rintro e w' ⟨rfl, rfl⟩
        go_wp2_with fail
        refine (of_any _ _ _ hsub3).mono ?_
        rintro e w1 ⟨rfl, ho1⟩
        have hs3 := hsub3.kept0 ho1
        clear hB hsub2 hsub3
        by_cases hE : getF ((l.drop 2).take 4) = crcOf ((l.drop 6).take n)
        · have HG := hid (show firstL l = (0, n) by rw [HF'.out, if_pos hE])
          rw [hE]
          clear HF' hE
          go_wp2
          go_ret2
          exact ⟨_, by rw [HG.out]; rfl, ho1, by rw [HG.out]; intro _; exact ⟨hs3, by omega, by omega, by omega⟩⟩
        · have HG := hid (show firstL l = (4, 0) by rw [HF'.out, if_neg hE])
          have hE' : ((getF ((l.drop 2).take 4)).toNat : Int) ≠ ((crcOf ((l.drop 6).take n)).toNat : Int) := by
            intro h
            exact hE (BitVec.eq_of_toNat_eq (by omega))
          clear HF' hE
          go_wp2
          go_ret2
          exact ⟨.slice none 0 0, by simp [HG.out], ho1, by simp [HG.out]⟩
end Go.Proofs.Ytnlmeaijnfjakaa.Sh
