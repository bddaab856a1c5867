/- The reference's frames, walked. -/
import Derived.Test.YtnlmeaijnfjakaaRefA
import Derived.Test.YtnlmeaijnfjakaaCrcE
namespace Go.Proofs.Ytnlmeaijnfjakaa.Sh
set_option linter.unusedSimpArgs false
set_option linter.unusedVariables false
open Go Go.RowKit

set_option maxHeartbeats 400000 in
theorem refFrame_bad (v : Value) (l : List UInt8) (w : World) (hB : Bs w v l) (hl : l.length < 1 ∨ 1000 < l.length) :
    Calls Try.prog 20 #[v] w fun e w' => e = .returned (.tuple #[.slice none 0 0, .int .i64 1]) ∧ w = w' := by
  obtain ⟨hl0, a, cap, rfl, h1, h2, h3, h4⟩ := id hB
  rcases hl with hl | hl
  · have h5 : l.length = 0 := by omega
    go_enter Try.func20, Try.ntmps20
    go_wp2
    go_ret2
    exact ⟨rfl, rfl⟩
  · have h5 : ¬ l.length < 1 := by omega
    go_enter Try.func20, Try.ntmps20
    go_wp2
    go_ret2
    exact ⟨rfl, rfl⟩

theorem byte_of (n k : Nat) (h : n / 2 ^ k < 256) : Value.int .u8 ((n : Int) / 2 ^ k) = vU8 (UInt8.ofNat (n >>> k)) := by
  unfold vU8
  rw [UInt8.toNat_ofNat', Nat.shiftRight_eq_div_pow, Nat.mod_eq_of_lt h]
  simp

theorem byte_of' (n k : Nat) : Value.int .u8 ((n : Int) / 2 ^ k % 256) = vU8 (UInt8.ofNat (n >>> k)) := by
  unfold vU8
  rw [UInt8.toNat_ofNat', Nat.shiftRight_eq_div_pow]
  simp

theorem head_eq (n c : Nat) (hn : n ≤ 1000) (hc : c < 4294967296) : [Value.int .u8 ((n : Int) / 256), Value.int .u8 ((n : Int) % 256), Value.int .u8 ((c : Int) / 16777216), Value.int .u8 ((c : Int) / 65536 % 256), Value.int .u8 ((c : Int) / 256 % 256), Value.int .u8 ((c : Int) % 256)] = bytes (putL n 2 ++ putL c 4) := by
  have h1 := byte_of n 8 (by omega)
  have h2 := byte_of' n 0
  have h3 := byte_of c 24 (by omega)
  have h4 := byte_of' c 16
  have h5 := byte_of' c 8
  have h6 := byte_of' c 0
  simp only [show (2 : Int) ^ 8 = 256 from rfl, show (2 : Int) ^ 24 = 16777216 from rfl, show (2 : Int) ^ 16 = 65536 from rfl, show (2 : Int) ^ 0 = 1 from rfl, Int.ediv_one] at h1 h2 h3 h4 h5 h6
  rw [h1, h2, h3, h4, h5, h6]
  rfl

set_option maxHeartbeats 400000 in
theorem refFrame_good (v : Value) (l : List UInt8) (w : World) (hB : Bs w v l) (hl1 : 1 ≤ l.length) (hl2 : l.length ≤ 1000) :
    Calls Try.prog 20 #[v] w fun e w' => ∃ v', e = .returned (.tuple #[v', .int .i64 0]) ∧ Fresh w w' v' (frameL l) ∧ Only [] w w' := by
  obtain ⟨hl0, a, cap, rfl, h1, h2, h3, h4⟩ := id hB
  have hc1 : ¬ l.length < 1 := by omega
  have hc2 : ¬ 1000 < l.length := by omega
  have hcrc := (crcOf l).isLt
  go_enter Try.func20, Try.ntmps20
  go_wp2_with fail
  refine (refOf_any _ l _ hB).mono ?_
  rintro e w1 ⟨rfl, ho1⟩
  have hz := ho1.size
  have hh := hid (head_eq l.length (crcOf l).toNat hl2 hcrc)
  go_wp2_with (at_builtin; refine wpList_app (by rfl) _ _ 27 (by rfl) w1.heap.size 5 1 1 el_u8 (by rfl) (own_built w1 [_, _, _, _, _, _] 5 1 6 rfl (by unfold maxLen; omega)) (by rfl) ((hB.kept0 ho1).kept0 ((Only.refl [] w1).alloc _)) (bytes_one l) (by omega) (by omega) (by simp) ?_; intro v2 w2 hown2 happ2)
  rw [hh.out] at hown2
  go_ret2
  exact ⟨_, rfl, own_lower (own_cast hown2 (by simp [frameL, putL_length]; omega) (by simp [frameL, bytes])) hz, (ho1.trans0 ((Only.refl [] w1).alloc _)).app happ2 (by intro i hi; simp [Value.ownBlock] at hi; exact .inr (by omega))⟩

/-! Next -/
theorem getF_step (c : BitVec 32) (x : UInt8) (h : c.toNat < 16777216) : ((c <<< 8) ||| x.toBitVec.setWidth 32).toNat = c.toNat * 256 + x.toNat := by
  have hb := UInt8.toNat_lt x
  rw [BitVec.toNat_or, BitVec.toNat_shiftLeft, BitVec.toNat_setWidth, UInt8.toNat_toBitVec, Nat.shiftLeft_eq]
  rw [Nat.mod_eq_of_lt (show x.toNat < 2 ^ 32 by omega), Nat.mod_eq_of_lt (show c.toNat * 2 ^ 8 < 2 ^ 32 by omega)]
  rw [nat_join 8 _ _ (by omega) (by omega)]

theorem getF_cons (l : List UInt8) (x : UInt8) (h : (getF l).toNat < 16777216) : (getF (l ++ [x])).toNat = (getF l).toNat * 256 + x.toNat := by
  rw [← getF_step _ _ h]
  unfold getF
  rw [List.foldl_append]
  rfl

theorem getF_two (a b : UInt8) : (getF [a, b]).toNat = a.toNat * 256 + b.toNat := by
  have h0 : (getF []).toNat = 0 := rfl
  have ha := UInt8.toNat_lt a
  have h1 : (getF [a]).toNat = (getF []).toNat * 256 + a.toNat := getF_cons [] a (by rw [h0]; omega)
  rw [h0] at h1
  have h2 : (getF [a, b]).toNat = (getF [a]).toNat * 256 + b.toNat := getF_cons [a] b (by rw [h1]; omega)
  rw [h2, h1]
  omega

theorem getF_four (a b c d : UInt8) : (getF [a, b, c, d]).toNat = ((a.toNat * 256 + b.toNat) * 256 + c.toNat) * 256 + d.toNat := by
  have ha := UInt8.toNat_lt a
  have hb := UInt8.toNat_lt b
  have hc := UInt8.toNat_lt c
  have h2 := getF_two a b
  have h3 : (getF [a, b, c]).toNat = (getF [a, b]).toNat * 256 + c.toNat := getF_cons [a, b] c (by rw [h2]; omega)
  rw [h2] at h3
  have h4 : (getF [a, b, c, d]).toNat = (getF [a, b, c]).toNat * 256 + d.toNat := getF_cons [a, b, c] d (by rw [h3]; omega)
  rw [h4, h3]

theorem ofNat_eq (n : Nat) (a : UInt8) (h : n % 256 = a.toNat) : UInt8.ofNat n = a := by
  apply UInt8.toNat_inj.1
  rw [UInt8.toNat_ofNat']
  exact h

theorem put_get (a b c d : UInt8) : putL (getF [a, b, c, d]).toNat 4 = [a, b, c, d] := by
  have ha := UInt8.toNat_lt a
  have hb := UInt8.toNat_lt b
  have hc := UInt8.toNat_lt c
  have hd := UInt8.toNat_lt d
  simp only [putL, getF_four, Nat.shiftRight_eq_div_pow]
  rw [ofNat_eq _ a (by omega), ofNat_eq _ b (by omega), ofNat_eq _ c (by omega), ofNat_eq _ d (by omega)]

theorem get_put (c : BitVec 32) : getF (putL c.toNat 4) = c := by
  have hl := c.isLt
  apply BitVec.eq_of_toNat_eq
  simp only [putL]
  rw [getF_four]
  simp only [UInt8.toNat_ofNat', Nat.shiftRight_eq_div_pow]
  omega

theorem get_put2 (n : Nat) (h : n < 65536) : (getF (putL n 2)).toNat = n := by
  simp only [putL]
  rw [getF_two]
  simp only [UInt8.toNat_ofNat', Nat.shiftRight_eq_div_pow]
  omega

theorem put_get2 (a b : UInt8) : putL (getF [a, b]).toNat 2 = [a, b] := by
  have ha := UInt8.toNat_lt a
  have hb := UInt8.toNat_lt b
  simp only [putL, getF_two, Nat.shiftRight_eq_div_pow]
  rw [ofNat_eq _ a (by omega), ofNat_eq _ b (by omega)]

theorem four_form (q : List UInt8) (h : q.length = 4) : ∃ a b c d, q = [a, b, c, d] := by
  match q, h with
  | [a, b, c, d], _ => exact ⟨a, b, c, d, rfl⟩

/-- The four bytes of a check are these just if they are the check's. -/
theorem sum_iff (q : List UInt8) (hq : q.length = 4) (c : BitVec 32) : getF q = c ↔ putL c.toNat 4 = q := by
  obtain ⟨x, y, z, t, rfl⟩ := four_form q hq
  constructor
  · rintro rfl
    exact put_get x y z t
  · intro h
    rw [← h]
    exact get_put c

theorem two_form (l : List UInt8) (h : 2 ≤ l.length) : l.take 2 = [l[0], l[1]] := by
  match l, h with
  | a :: b :: _, _ => rfl

theorem frameL_sum (l : List UInt8) (i : Nat) (h : i < 4) : (frameL l)[2 + i]? = (putL (crcOf l).toNat 4)[i]? := by
  have h2 := putL_length l.length 2
  have h4 := putL_length (crcOf l).toNat 4
  unfold frameL
  rw [List.append_assoc, List.getElem?_append_right (by omega), List.getElem?_append_left (by omega)]
  congr 1
  omega

/-- The frame's check is the bytes' own just if these are alike, from place 2 to 6. -/
theorem frame_same (l : List UInt8) (n : Nat) (hl : 6 + n ≤ l.length) (hall : ∀ j, 2 ≤ j → j < 6 → (frameL ((l.drop 6).take n))[j]? = l[j]?) : getF ((l.drop 2).take 4) = crcOf ((l.drop 6).take n) := by
  rw [sum_iff _ (by simp; omega)]
  apply List.ext_getElem?
  intro i
  by_cases hi : i < 4
  · rw [← frameL_sum _ _ hi, hall (2 + i) (by omega) (by omega), List.getElem?_take, if_pos hi, List.getElem?_drop]
  · rw [List.getElem?_eq_none (by rw [putL_length]; omega), List.getElem?_eq_none (by simp; omega)]

theorem frame_other (l : List UInt8) (n : Nat) (hl : 6 + n ≤ l.length) (j : Nat) (h1 : 2 ≤ j) (h2 : j < 6) (hne : (frameL ((l.drop 6).take n))[j]? ≠ l[j]?) : getF ((l.drop 2).take 4) ≠ crcOf ((l.drop 6).take n) := by
  intro h
  rw [sum_iff _ (by simp; omega)] at h
  apply hne
  rw [show j = 2 + (j - 2) by omega, frameL_sum _ _ (by omega), h, List.getElem?_take, if_pos (by omega), List.getElem?_drop]

def RefNextPost (l : List UInt8) (w : World) (e : Ending) (w' : World) : Prop :=
  e = .returned (.tuple #[.int .i64 ((firstL l).2 : Int), .int .i64 ((firstL l).1 : Int)]) ∧ Only [] w w'

set_option maxHeartbeats 800000 in
theorem refNext_any (v : Value) (l : List UInt8) (w : World) (hB : Bs w v l) :
    Calls Try.prog 93 #[v] w (RefNextPost l w) := by
  by_cases hA : l.length < 2
  · obtain ⟨hl0, a, cap, rfl, h1, h2, h3, h4⟩ := id hB
    have HF := hid (show firstL l = (2, 0) by simp [firstL, hA])
    go_enter Try.func93, Try.ntmps93
    go_wp2
    go_ret2
    exact ⟨by rw [HF.out]; rfl, Only.refl _ _⟩
  · obtain ⟨b, o, cap, rfl, h1, h2, h3, h4⟩ := hB.form (by omega)
    have hc0 := h4 0 _ (bytes_get (show 0 < l.length by omega))
    have hc1 := h4 1 _ (bytes_get (show 1 < l.length by omega))
    obtain ⟨x0, hx0⟩ : ∃ x, x = l[0] := ⟨_, rfl⟩
    obtain ⟨x1, hx1⟩ : ∃ x, x = l[1] := ⟨_, rfl⟩
    rw [← hx0, Nat.add_zero] at hc0
    rw [← hx1] at hc1
    have hb0 := u8_bound x0
    have hb1 := u8_bound x1
    obtain ⟨n, hn⟩ : ∃ n, n = x0.toNat * 256 + x1.toNat := ⟨_, rfl⟩
    have hn' : (getF (l.take 2)).toNat = n := by rw [two_form l (by omega), ← hx0, ← hx1, getF_two, hn]
    have hF : firstL l = if n < 1 ∨ 1000 < n then (14, 0) else if l.length < 6 + n then (2, 0) else if getF ((l.drop 2).take 4) = crcOf ((l.drop 6).take n) then (0, n) else (4, 0) := by
      unfold firstL; rw [if_neg hA, hn']
    have hni : (x0.toNat : Int) * 256 + (x1.toNat : Int) = (n : Int) := by omega
    have hi0 : 0 < l.length := by omega
    have hi1 : (1 : Int) < (l.length : Int) := by omega
    have HF := hid hF
    have h4' := hid h4
    clear hn hF h4 hn' hx0 hx1
    go_enter Try.func93, Try.ntmps93
    go_wp2_with fail
    go_region_held3 (fun w' => w'.cell? ⟨b, o, none⟩ = some (vU8 x0) ∧ w'.cell? ⟨b, o + 1, none⟩ = some (vU8 x1)) (exact ⟨hc0, hc1⟩) (fail)
    by_cases hC : n < 1 ∨ 1000 < n
    · have HF' := hid (show firstL l = (14, 0) by rw [HF.out, if_pos hC])
      clear HF
      rcases hC with hC | hC
      · go_wp2
        go_ret2
        exact ⟨by rw [HF'.out]; rfl, (Only.refl _ _).drew⟩
      · have hC' : ¬ n < 1 := by omega
        go_wp2
        go_ret2
        exact ⟨by rw [HF'.out]; rfl, (Only.refl _ _).drew⟩
    · have hC1 : ¬ n < 1 := by omega
      have hC2 : ¬ 1000 < n := by omega
      by_cases hD : l.length < 6 + n
      · have HF' := hid (show firstL l = (2, 0) by rw [HF.out, if_neg hC, if_pos hD])
        clear HF hC
        go_wp2
        go_ret2
        exact ⟨by rw [HF'.out]; rfl, (Only.refl _ _).drew⟩
      · have hsub := hB.sub 6 n (by omega)
        have hbl : ((l.drop 6).take n).length = n := by simp; omega
        have HF' := hid (show firstL l = if getF ((l.drop 2).take 4) = crcOf ((l.drop 6).take n) then (0, n) else (4, 0) by rw [HF.out, if_neg hC, if_neg hD])
        have HBL := hid hbl
        clear HF hC hbl
        go_wp2_with fail
        refine (refFrame_good _ ((l.drop 6).take n) _ ?_ (by rw [HBL.out]; omega) (by rw [HBL.out]; omega)).mono ?_
        · exact hsub.kept0 (Only.refl _ _).drew
        rintro e w1 ⟨v1, rfl, hf1, ho1⟩
        have ho := (Only.refl [] w).drew.trans0 ho1
        obtain ⟨fb, fo, fcap, rfl, hf2, hf3, hf4, hfr⟩ := (hf1.bs (by rw [frameL_length, HBL.out]; omega)).form (by rw [frameL_length, HBL.out]; omega)
        obtain ⟨F, hF⟩ : ∃ F, F = frameL ((l.drop 6).take n) := ⟨_, rfl⟩
        have hFl : F.length = 6 + n := by rw [hF, frameL_length, HBL.out]
        rw [← hF] at hfr hf4 hf2 ⊢
        rw [hFl] at hf4 hf2 ⊢
        have HFF := hid hF
        have HFL := hid hFl
        have hfr' := hid hfr
        clear hF hFl hfr hc0 hc1 hsub hf1
        go_wp2_with fail
        go_loopw [7] (fun i wr => ∃ k : Nat, 2 ≤ k ∧ k ≤ 6 ∧ i = .int .i64 k ∧ Hid (∀ j, 2 ≤ j → j < k → F[j]? = l[j]?) ∧ Only [] w1 wr) (fun i _ => 6 - (intOf i).toNat)
        case atStart => exact ⟨2, by omega, by omega, rfl, fun j h1 h2 => by omega, Only.refl _ _⟩
        case round =>
          obtain ⟨k, hk1, hk2, rfl, hal, ho2⟩ := hrel
          by_cases hk : k < 6
          · have hfk := ho2.cell (hfr'.out k _ (bytes_get (show k < F.length by rw [HFL.out]; omega))) (by simp)
            have hlk := (ho.trans0 ho2).cell (h4'.out k _ (bytes_get (show k < l.length by omega))) (by simp)
            have hkF : k < F.length := by rw [HFL.out]; omega
            have hkL : k < l.length := by omega
            obtain ⟨fx, hfx⟩ : ∃ x, x = F[k] := ⟨_, rfl⟩
            obtain ⟨lx, hlx⟩ : ∃ x, x = l[k] := ⟨_, rfl⟩
            rw [← hfx] at hfk
            rw [← hlx] at hlk
            have e1 : F[k]? = some fx := by rw [hfx]; simp [hkF]
            have e2 : l[k]? = some lx := by rw [hlx]; simp [hkL]
            have E1 := hid e1
            have E2 := hid e2
            have hk0 : (0 : Int) ≤ (k : Int) := by omega
            have hki : (k : Int) < 6 + (n : Int) := by omega
            have hkn : k < 6 + n := by omega
            have hkl : (k : Int) < (l.length : Int) := by omega
            clear hkF e1 e2 hfx hlx
            by_cases hxx : fx = lx
            · subst hxx
              go_wp2_with fail
              go_region_held3 (fun w' => w'.cell? ⟨fb, fo + k, none⟩ = some (vU8 fx) ∧ w'.cell? ⟨b, o + k, none⟩ = some (vU8 fx)) (exact ⟨hfk, hlk⟩) (fail)
              go_wp2
              go_roundw
              case rel =>
                refine ⟨k + 1, by omega, by omega, by go_num, ?_, ho2.drew⟩
                intro j h1 h2
                by_cases hj : j < k
                · exact hal.out j h1 hj
                · obtain rfl : j = k := by omega
                  rw [E1.out, E2.out]
              case measure => simp [intOf]; omega
            · have hne : ((fx.toNat : Int) != (lx.toNat : Int)) = true := by
                rw [bne_iff_ne]
                intro h
                exact hxx (UInt8.toNat_inj.1 (by omega))
              have HG := hid (show firstL l = (4, 0) by
                rw [HF'.out, if_neg (frame_other l n (by omega) k hk1 hk (by rw [← HFF.out, E1.out, E2.out]; simpa using hxx))])
              clear HF' hxx
              go_wp2_with fail
              go_region_held3 (fun w' => w'.cell? ⟨fb, fo + k, none⟩ = some (vU8 fx) ∧ w'.cell? ⟨b, o + k, none⟩ = some (vU8 lx)) (exact ⟨hfk, hlk⟩) (fail)
              go_wp2
              go_ret2
              exact ⟨by rw [HG.out]; rfl, (ho.trans0 ho2).drew⟩
          · obtain rfl : k = 6 := by omega
            have HG := hid (show firstL l = (0, n) by
              rw [HF'.out, if_pos (frame_same l n (by omega) (by rw [← HFF.out]; exact hal.out))])
            clear HF' hal
            go_wp2
            go_ret2
            exact ⟨by rw [HG.out]; rfl, ho.trans0 ho2⟩
end Go.Proofs.Ytnlmeaijnfjakaa.Sh
