/- Of three texts of one length the check of their sum, place by place, is the sum of their checks: the law's walk. -/
import Derived.Test.YtcceiejfphokbaaCrcAwake
import Derived.StillTailTactics
namespace Go.Proofs.Ytcceiejfphokbaa.Sh
open Go Go.RowKit

theorem xor_u32 (x y : BitVec 32) : bits .xor .u32 (x.toNat : Int) (y.toNat : Int) = ((x ^^^ y).toNat : Int) := by
  rw [u32_xor_nat _ _ x.isLt y.isLt, BitVec.toNat_xor]

theorem zipX_get (a b : List UInt8) (h : b.length = a.length) (k : Nat) (hk : k < a.length) : (zipX a b)[k]? = some (a[k] ^^^ b[k]) := by
  induction a generalizing b k with
  | nil => simp at hk
  | cons x a ih =>
    cases b with
    | nil => simp at h
    | cons y b =>
      cases k with
      | zero => rfl
      | succ k =>
        simp only [List.length_cons, Nat.add_right_cancel_iff] at h
        simp only [zipX, List.getElem?_cons_succ, List.getElem_cons_succ]
        exact ih b h k (by simpa using hk)

theorem sums_step (Z a : List UInt8) (k : Nat) (hZ : Z.length = a.length) (hk : k < a.length) (z : UInt8) (hz : Z[k]? = some z) : (Z.take k ++ a.drop k).set k z = Z.take (k + 1) ++ a.drop (k + 1) := by
  apply List.ext_getElem?
  intro i
  rw [List.getElem?_set]
  by_cases h1 : k = i
  · subst h1
    rw [if_pos rfl, if_pos (by simp; omega), List.getElem?_append_left (by simp; omega), List.getElem?_take, if_pos (by omega), hz]
  · rw [if_neg h1]
    by_cases h2 : i < k
    · rw [List.getElem?_append_left (by simp; omega), List.getElem?_append_left (by simp; omega), List.getElem?_take, List.getElem?_take, if_pos h2, if_pos (by omega)]
    · rw [List.getElem?_append_right (by simp; omega), List.getElem?_append_right (by simp; omega), List.getElem?_drop, List.getElem?_drop]
      congr 1
      simp
      omega

theorem sums_at (Z a : List UInt8) (k : Nat) (hZ : Z.length = a.length) (hk : k < a.length) : (Z.take k ++ a.drop k)[k]? = some a[k] := by
  rw [List.getElem?_append_right (by simp; omega), List.getElem?_drop]
  simp [hZ, show min k a.length = k by omega, List.getElem?_eq_getElem hk]

set_option maxHeartbeats 800000 in
theorem crcSums_mid (w : World) {v u t : Value} {a b c : List UInt8} (hv : Bs w v a) (hu : Bs w u b) (ht : Bs w t c) (ha : a.length ≤ 400) (hb : b.length = a.length) (hc : c.length = a.length) :
    Calls Try.prog 4 #[v, u, t] w fun e w' => e = .returned (.bool true) ∧ Only [] w w' := by
  obtain ⟨_, xa, xc, rfl, h1, h2, h3, _⟩ := id hv
  obtain ⟨_, ya, yc, rfl, h1', h2', h3', _⟩ := id hu
  obtain ⟨_, za, zc, rfl, h1'', h2'', h3'', _⟩ := id ht
  have hA1 : ¬ 400 < a.length := by omega
  have hq1 : ((a.length : Int) != (a.length : Int)) = false := by simp
  have HB := hid hb
  have HC := hid hc
  rw [hb, hc]
  clear hb hc
  go_enter Try.func4, Try.ntmps4
  go_wp2_with fail
  refine (awake09_any w).mono ?_
  rintro e w1 ⟨rfl, ho1⟩
  have hv1 := hv.kept0 ho1
  go_wp2_with (at_builtin; refine wpList_app (by rfl) _ _ 22 (by rfl) w1.heap.size 5 1 1 el_u8 (by rfl) (own_built w1 [] 5 1 0 rfl (by omega)) (by rfl) (hv1.kept0 ((Only.refl [] w1).alloc _)) (bytes_one a) (by omega) (by omega) (by simp) ?_; intro v2 w2 hown2 happ2; have hown2 := own_cast hown2 (show _ = a.length by omega) (show _ = bytes a by simp); obtain ⟨sa, sc, rfl⟩ := own_form hown2)
  have ho2 := (ho1.trans0 ((Only.refl [] w1).alloc _)).app happ2 (by intro i hi; simp [Value.ownBlock] at hi; have := ho1.size; exact .inr (by omega))
  have hs2 := ho2.size
  have hs1 := ho1.size
  go_loopw [36] (fun i wr => ∃ (k : Nat) (ss : List UInt8), k ≤ a.length ∧ i = .int .i64 k ∧ Hid (ss = (zipX (zipX a b) c).take k ++ a.drop k) ∧ wr.ownsRow w1.heap.size 5 1 (.slice sa a.length sc) a.length (bytes ss) ∧ Only [] w wr) (fun i _ => a.length - (intOf i).toNat)
  case atStart => exact ⟨0, a, Nat.zero_le _, rfl, by simp [Hid], hown2, ho2⟩
  case round =>
    obtain ⟨k, ss, hk, rfl, hss, hown, ho⟩ := hrel
    by_cases hlt : k < a.length
    · have hZl : (zipX (zipX a b) c).length = a.length := by rw [zipX_length, zipX_length]
      have hat := sums_at (zipX (zipX a b) c) a k hZl hlt
      have hz1 := zipX_get a b HB.out k hlt
      have hz := zipX_get (zipX a b) c (by rw [zipX_length]; exact HC.out) k (by rw [zipX_length]; exact hlt)
      obtain ⟨x, hx⟩ : ∃ x, x = a[k] := ⟨_, rfl⟩
      have hlb : k < b.length := by rw [HB.out]; exact hlt
      have hlc : k < c.length := by rw [HC.out]; exact hlt
      obtain ⟨yb, yo, rfl, hyd⟩ := hu.at k hlb
      obtain ⟨zb, zo, rfl, hzd⟩ := ht.at k hlc
      obtain ⟨y, hy⟩ : ∃ x, x = b[k] := ⟨_, rfl⟩
      obtain ⟨z, hzz⟩ : ∃ x, x = c[k] := ⟨_, rfl⟩
      have hset : ss.set k (x ^^^ (y ^^^ z)) = (zipX (zipX a b) c).take (k + 1) ++ a.drop (k + 1) := by
        rw [hss.out]
        refine sums_step _ _ k hZl hlt _ ?_
        rw [hz]
        have : (zipX a b)[k]'(by rw [zipX_length]; exact hlt) = a[k] ^^^ b[k] := by
          have := hz1
          rw [List.getElem?_eq_getElem (by rw [zipX_length]; exact hlt)] at this
          simpa using this
        rw [this, hx, hy, hzz, UInt8.xor_assoc]
      have HS := hid hset
      have hyc := ho.cell hyd (by simp)
      have hzc := ho.cell hzd (by simp)
      rw [← hy] at hyc
      rw [← hzz] at hzc
      have hsk : ss[k]? = some x := by rw [hss.out, hat, hx]
      obtain ⟨sg, scap, he, hg1, hg2, _, _, hcells⟩ := own_at hown (by omega)
      obtain ⟨rfl, rfl⟩ : sa = some ⟨sg, 0, none⟩ ∧ sc = scap := by simpa using he
      obtain ⟨hsc, hsf⟩ := hcells k (vU8 x) (by simp [bytes, hsk])
      obtain ⟨q, hq⟩ : ∃ q, q = y ^^^ z := ⟨_, rfl⟩
      obtain ⟨r, hr⟩ : ∃ r, r = x ^^^ q := ⟨_, rfl⟩
      have hx1 := xor_u8 y z
      have hx2 := xor_u8 x q
      rw [← hq] at hx1 HS
      rw [← hr] at hx2 HS
      have hbq := u8_bound q
      have hbr := u8_bound r
      have hk0 : (0 : Int) ≤ (k : Int) := by omega
      have hkl : (k : Int) < (a.length : Int) := by omega
      have hbx := u8_bound x
      have hby := u8_bound y
      have hbz := u8_bound z
      clear hq hr he hcells hyd hzd hset hat hz1 hz hx hy hzz hZl hlb hlc hsk hv hu ht hv1 hown2 ho2
      go_wp2_with fail
      go_still_tail 15, (by kernel_rfl)
      change wpList _ _ _ _ _ wr.drew
      go_wp2
      go_roundw
      case rel =>
        refine ⟨k + 1, ss.set k r, by omega, by go_num, HS, ?_, (ho.setCell (.inr (show w.heap.size ≤ sg by omega)) _).drew⟩
        have := own_set hown (i := k) (by omega) (vU8 r)
        rw [show (bytes ss).set k (vU8 r) = bytes (ss.set k r) by simp [bytes, List.map_set]] at this
        exact this
      case measure => simp [intOf]; omega
    · obtain rfl : k = a.length := by omega
      have hss' : ss = zipX (zipX a b) c := by
        rw [hss.out, List.take_of_length_le (by rw [zipX_length, zipX_length]; exact Nat.le_refl _), List.drop_length, List.append_nil]
      have hBs : Bs wr (.slice sa a.length sc) (zipX (zipX a b) c) := Cs.of_own (own_cast hown (by rw [zipX_length, zipX_length]) (by rw [hss'])) (by rw [zipX_length, zipX_length]; omega)
      have hcrc := hid (crcOf_zip3 a b c HB.out HC.out)
      clear hss hss' hown
      go_wp2_with fail
      refine (of_any _ _ _ hBs).mono ?_
      rintro e w3 ⟨rfl, hp3⟩
      have ho3 := ho.trans0 hp3
      go_wp2_with fail
      refine (of_any _ a _ (hv.kept0 ho3)).mono ?_
      rintro e w4 ⟨rfl, hp4⟩
      have ho4 := ho3.trans0 hp4
      go_wp2_with fail
      refine (of_any _ b _ ?_).mono ?_
      · have := hu.kept0 ho4
        rwa [HB.out] at this
      rintro e w5 ⟨rfl, hp5⟩
      have ho5 := ho4.trans0 hp5
      go_wp2_with fail
      refine (of_any _ c _ ?_).mono ?_
      · have := ht.kept0 ho5
        rwa [HC.out] at this
      rintro e w6 ⟨rfl, hp6⟩
      have ho6 := ho5.trans0 hp6
      rw [hcrc.out]
      obtain ⟨p, hp⟩ : ∃ p, p = crcOf a ^^^ crcOf b := ⟨_, rfl⟩
      obtain ⟨q, hq⟩ : ∃ q, q = p ^^^ crcOf c := ⟨_, rfl⟩
      rw [← hp, ← hq]
      have hy1 := xor_u32 (crcOf a) (crcOf b)
      have hy2 := xor_u32 p (crcOf c)
      rw [← hp] at hy1
      rw [← hq] at hy2
      clear hp hq
      go_wp2
      go_ret
      exact ⟨rfl, ho6⟩

set_option maxHeartbeats 800000 in
theorem crcSums_walk (w : World) {v u t : Value} {a b c : List UInt8} (hv : Bs w v a) (hu : Bs w u b) (ht : Bs w t c) :
    Calls Try.prog 4 #[v, u, t] w fun e w' => e = .returned (.bool true) ∧ Only [] w w' := by
  by_cases hA : a.length ≤ 400 ∧ b.length = a.length ∧ c.length = a.length
  · exact crcSums_mid w hv hu ht hA.1 hA.2.1 hA.2.2
  · obtain ⟨_, xa, xc, rfl, h1, h2, h3, _⟩ := id hv
    obtain ⟨_, ya, yc, rfl, h1', h2', h3', _⟩ := id hu
    obtain ⟨_, za, zc, rfl, h1'', h2'', h3'', _⟩ := id ht
    by_cases hA1 : 400 < a.length
    · go_enter Try.func4, Try.ntmps4
      go_wp2_with fail
      refine (awake09_any w).mono ?_
      rintro e w1 ⟨rfl, ho1⟩
      go_wp2_with fail
      refine (awake09_any _).mono ?_
      rintro e w2 ⟨rfl, ho2⟩
      go_wp2
      go_ret
      exact ⟨rfl, ho1.trans0 ho2⟩
    · by_cases hB : b.length = a.length
      · have hc : ((c.length : Int) != (a.length : Int)) = true := by rw [bne_iff_ne]; omega
        have hq : ((a.length : Int) != (a.length : Int)) = false := by simp
        rw [hB]
        clear hA hB
        go_enter Try.func4, Try.ntmps4
        go_wp2_with fail
        refine (awake09_any w).mono ?_
        rintro e w1 ⟨rfl, ho1⟩
        go_wp2_with fail
        refine (awake09_any _).mono ?_
        rintro e w2 ⟨rfl, ho2⟩
        go_wp2
        go_ret
        exact ⟨rfl, ho1.trans0 ho2⟩
      · have hb : ((b.length : Int) != (a.length : Int)) = true := by rw [bne_iff_ne]; omega
        clear hA hB
        go_enter Try.func4, Try.ntmps4
        go_wp2_with fail
        refine (awake09_any w).mono ?_
        rintro e w1 ⟨rfl, ho1⟩
        go_wp2_with fail
        refine (awake09_any _).mono ?_
        rintro e w2 ⟨rfl, ho2⟩
        go_wp2
        go_ret
        exact ⟨rfl, ho1.trans0 ho2⟩
end Go.Proofs.Ytcceiejfphokbaa.Sh
