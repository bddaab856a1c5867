/- A log's bytes cut off behind what is fast, the last one turned: plain. -/
import Derived.Test.YtlcfmocojakhpaaPlJou
import Derived.Test.YtlcfmocojakhpaaJouB
namespace Go.Proofs.Ytlcfmocojakhpaa.Sh
open Go Go.RowKit

theorem crcOf_last (y : List UInt8) (a b : UInt8) (h : a ≠ b) : crcOf (y ++ [a]) ≠ crcOf (y ++ [b]) := by
  intro he
  unfold crcOf at he
  rw [crcRaw_append, crcRaw_append] at he
  have h1 : crcRaw (crcRaw (~~~ 0#32) y) [a] = crcRaw (crcRaw (~~~ 0#32) y) [b] := by
    have := congrArg (fun x : BitVec 32 => ~~~ x) he
    simpa using this
  generalize crcRaw (~~~ 0#32) y = c at h1
  simp only [crcRaw, List.foldl_cons, List.foldl_nil, crcByte] at h1
  have h2 : crcBits 8 ((c ^^^ a.toBitVec.setWidth 32) ^^^ (c ^^^ b.toBitVec.setWidth 32)) = 0#32 := by
    rw [crcBits_xor, h1, BitVec.xor_self]
  have h3 := crcBits_inj 8 _ h2
  have h4 : (a.toBitVec.setWidth 32) = (b.toBitVec.setWidth 32) := by
    have e : (c ^^^ a.toBitVec.setWidth 32) ^^^ (c ^^^ b.toBitVec.setWidth 32) = a.toBitVec.setWidth 32 ^^^ b.toBitVec.setWidth 32 := by
      rw [BitVec.xor_comm c, BitVec.xor_comm c]
      exact xor4 _ _ _
    rw [e] at h3
    have := congrArg (fun x => x ^^^ (b.toBitVec.setWidth 32)) h3
    simp only [BitVec.xor_assoc, BitVec.xor_self, BitVec.xor_zero, BitVec.zero_xor] at this
    exact this
  apply h
  apply UInt8.toNat_inj.1
  have h5 := congrArg BitVec.toNat h4
  simp only [BitVec.toNat_setWidth, UInt8.toNat_toBitVec] at h5
  have := UInt8.toNat_lt a
  have := UInt8.toNat_lt b
  omega

theorem first_unlike (l s : List UInt8) (hl : s.length = l.length) (h1 : 1 ≤ l.length) (h2 : l.length ≤ 1000) (hne : crcOf s ≠ crcOf l) : firstL ((frameL l).take 6 ++ s) = (4, 0) := by
  have hp2 := putL_length l.length 2
  have hp4 := putL_length (crcOf l).toNat 4
  have e6 : (frameL l).take 6 = putL l.length 2 ++ putL (crcOf l).toNat 4 := by
    unfold frameL
    rw [List.take_append_of_le_length (by simp; omega), List.take_of_length_le (by simp; omega)]
  rw [e6]
  have et : (putL l.length 2 ++ putL (crcOf l).toNat 4 ++ s).take 2 = putL l.length 2 := by
    rw [List.append_assoc, List.take_append_of_le_length (by omega), List.take_of_length_le (by omega)]
  have en : (getF ((putL l.length 2 ++ putL (crcOf l).toNat 4 ++ s).take 2)).toNat = l.length := by rw [et]; exact get_put2 _ (by omega)
  have ed : ((putL l.length 2 ++ putL (crcOf l).toNat 4 ++ s).drop 2).take 4 = putL (crcOf l).toNat 4 := by
    rw [List.append_assoc, List.drop_append_of_le_length (by omega), List.drop_of_length_le (by omega), List.nil_append, List.take_append_of_le_length (by omega), List.take_of_length_le (by omega)]
  have eb : ((putL l.length 2 ++ putL (crcOf l).toNat 4 ++ s).drop 6).take l.length = s := by
    rw [List.drop_append, List.drop_of_length_le (by simp; omega), List.nil_append]
    rw [show 6 - (putL l.length 2 ++ putL (crcOf l).toNat 4).length = 0 by simp; omega, List.drop_zero, List.take_of_length_le (by omega)]
  have hlen : (putL l.length 2 ++ putL (crcOf l).toNat 4 ++ s).length = 6 + l.length := by simp; omega
  unfold firstL
  rw [en, ed, eb, get_put, hlen, if_neg (by omega), if_neg (by omega), if_neg (by omega), if_neg (fun e => hne e.symm)]

/-- The first bytes of a frame, the last one of them turned. -/
theorem firstL_torn (x : List UInt8) (k : Nat) (t : UInt8) (ht : t ≠ 0) (h1 : 1 ≤ x.length) (h2 : x.length ≤ 1000) (hk2 : k ≤ 6 + x.length) :
    (firstL (((frameL x).take k).set (k - 1) (((frameL x).getD (k - 1) 0) ^^^ t))).1 ≠ 0 := by
  intro h
  have hfl := frameL_length x
  have hb := firstL_le _ h
  obtain ⟨D, hD⟩ : ∃ D, D = ((frameL x).take k).set (k - 1) (((frameL x).getD (k - 1) 0) ^^^ t) := ⟨_, rfl⟩
  rw [← hD] at h hb
  have hl : D.length = k := by rw [hD, List.length_set, List.length_take]; omega
  have hn : (firstL D).2 = (getF (D.take 2)).toNat := by
    unfold firstL at *
    split at h
    · cases h
    split at h
    · cases h
    split at h
    · cases h
    split at h
    · rename_i g1 g2 g3 g4
      rw [if_neg g1, if_neg g2, if_neg g3, if_pos g4]
    · cases h
  have et : ∀ m, m ≤ k - 1 → D.take m = (frameL x).take m := by
    intro m hm
    rw [hD, List.take_set_of_le (by omega), List.take_take, Nat.min_eq_left (by omega)]
  have e2 : D.take 2 = putL x.length 2 := by
    rw [et 2 (by omega)]
    unfold frameL
    rw [List.append_assoc, List.take_left' (putL_length _ _)]
  rw [e2, get_put2 _ (by omega)] at hn
  obtain rfl : k = 6 + x.length := by omega
  have hx : x = x.take (x.length - 1) ++ [x.getD (x.length - 1) 0] := by
    apply List.ext_getElem?
    intro i
    rw [List.getElem?_append, List.length_take]
    split
    · rename_i hi
      rw [List.getElem?_take, if_pos (by omega)]
    · rename_i hi
      by_cases he : i = x.length - 1
      · subst he
        rw [Nat.min_eq_left (by omega), Nat.sub_self, List.getD_eq_getElem?_getD, List.getElem?_eq_getElem (by omega)]
        rfl
      · rw [List.getElem?_eq_none (by omega), List.getElem?_eq_none (by simp; omega)]
  have hf6 : frameL x = (frameL x).take 6 ++ x := by
    unfold frameL
    have : (putL x.length 2 ++ putL (crcOf x).toNat 4).length = 6 := by rw [List.length_append, putL_length, putL_length]
    rw [List.take_left' this]
  have h6l : ((frameL x).take 6).length = 6 := by rw [List.length_take]; omega
  obtain ⟨c, hc⟩ : ∃ c, c = x.getD (x.length - 1) 0 := ⟨_, rfl⟩
  have hgd : (frameL x).getD (6 + x.length - 1) 0 = c := by
    rw [hf6, List.getD_eq_getElem?_getD, List.getElem?_append_right (by omega), h6l, show 6 + x.length - 1 - 6 = x.length - 1 by omega, ← List.getD_eq_getElem?_getD, hc]
  have hDe : D = (frameL x).take 6 ++ (x.take (x.length - 1) ++ [c ^^^ t]) := by
    rw [hD, hgd, List.take_of_length_le (by omega)]
    conv => lhs; rw [hf6]
    rw [List.set_append_right _ _ (by omega), h6l, show 6 + x.length - 1 - 6 = x.length - 1 by omega]
    congr 1
    conv => lhs; rw [hx]
    rw [List.set_append_right _ _ (by simp), List.length_take, Nat.min_eq_left (by omega), List.length_append, List.length_take, Nat.min_eq_left (by omega)]
    simp
  have hne : crcOf (x.take (x.length - 1) ++ [c ^^^ t]) ≠ crcOf x := by
    have := crcOf_last (x.take (x.length - 1)) (c ^^^ t) c (by
      intro e
      apply ht
      have := congrArg (fun y => c ^^^ y) e
      simpa [← UInt8.xor_assoc] using this)
    rw [← hc] at hx
    rwa [← hx] at this
  rw [hDe, first_unlike x _ (by simp; omega) h1 h2 hne] at h
  cases h

/-- What is there behind a crash that tears: whole frames, all fast ones among them. -/
theorem torn_prefix (ls : List (List UInt8)) (h : ∀ x ∈ ls, 1 ≤ x.length ∧ x.length ≤ 1000) (j : Nat) (f l : List UInt8) (keep : Int) (torn : UInt8) (ht : torn ≠ 0) (hj : j ≤ ls.length) (hf : f = flatL (ls.take j)) (hfl : f ++ l = flatL ls) :
    ∃ q, j ≤ q ∧ q ≤ ls.length ∧ (allL (crashL f l keep torn)).1 = ls.take q := by
  obtain ⟨p, hp⟩ : ∃ p, p = keepN keep l.length := ⟨_, rfl⟩
  have hpl : p ≤ l.length := by rw [hp]; unfold keepN; omega
  unfold crashL
  rw [← hp]
  have e : f ++ l.take p = (flatL ls).take (f.length + p) := by
    rw [← hfl, List.take_append, List.take_of_length_le (l := f) (by omega), Nat.add_sub_cancel_left]
  by_cases h0 : 0 < p
  · rw [if_pos h0, e]
    obtain ⟨q, h1, h2, h3, h4⟩ := whole_at ls (f.length + p - 1) (ls.length - j) j (by omega) (by rw [← hf]; omega)
    have hFl : (flatL ls).length = f.length + l.length := by rw [← hfl, List.length_append]
    have hq : q < ls.length := by
      rcases Nat.lt_or_ge q ls.length with h5 | h5
      · exact h5
      · rw [List.take_of_length_le h5] at h3
        omega
    have h4 := h4 hq
    rw [flatL_succ ls q hq, List.length_append, frameL_length] at h4
    refine ⟨q, h1, h2, ?_⟩
    obtain ⟨a, ha⟩ : ∃ a, a = (flatL (ls.take q)).length := ⟨_, rfl⟩
    rw [← ha] at h3 h4
    have hx := h _ (List.getElem_mem hq)
    obtain ⟨x, hxe⟩ : ∃ x, x = ls[q] := ⟨_, rfl⟩
    rw [← hxe] at h4 hx
    have e2 : flatL ls = flatL (ls.take q) ++ (frameL x ++ flatL (ls.drop (q + 1))) := by
      rw [hxe, ← flatL_cons, ← List.drop_eq_getElem_cons hq, ← flatL_append, List.take_append_drop]
    obtain ⟨k, hk⟩ : ∃ k, f.length + p = a + k := ⟨f.length + p - a, by omega⟩
    have hfx := frameL_length x
    have e3 : (flatL ls).take (f.length + p) = flatL (ls.take q) ++ (frameL x).take k := by
      rw [e2, hk, List.take_append, List.take_of_length_le (by omega), ← ha, Nat.add_sub_cancel_left, List.take_append_of_le_length (by omega)]
    have hkl : ((frameL x).take k).length = k := by rw [List.length_take]; omega
    rw [e3, show f.length + p - 1 = a + (k - 1) by omega, List.set_append_right _ _ (by omega), ← ha, Nat.add_sub_cancel_left, List.getD_eq_getElem?_getD, List.getElem?_append_right (by omega), ← ha, Nat.add_sub_cancel_left,
      List.getElem?_take, if_pos (by omega), ← List.getD_eq_getElem?_getD, allL_pre _ _ (fun y hy => h y (List.mem_of_mem_take hy)), allL_bad _ (firstL_torn x k torn ht hx.1 hx.2 (by omega))]
    simp
  · rw [if_neg h0]
    obtain ⟨q, h1, h2, h3, h4⟩ := cut_prefix ls h j p f l hj hf hfl hpl
    exact ⟨q, h1, h2, by rw [h3]⟩
end Go.Proofs.Ytlcfmocojakhpaa.Sh
