/- Behind a crash a log has the first ones of its records, and all that were fast: the law's walk. -/
import Derived.Test.YtlcfmocojakhpaaJouI
import Derived.Test.YtlcfmocojakhpaaPlJou
namespace Go.Proofs.Ytlcfmocojakhpaa.Sh
open Go Go.RowKit

/-- An append leaves slices of slices that are new since the log was looked at. -/
theorem nappend_keep (w W V : World) (x : Nat) (f l b : List UInt8) (rs : List (List UInt8)) (h : LgN w W x f l rs) (hV : Only [] W V) (bv : Value) (hb : Bs w bv b) (hl1 : 1 ≤ b.length) (hl2 : b.length ≤ 1000) (hlen : f.length + l.length ≤ 400000) (hrs : rs.length ≤ 1000000) :
    Calls Try.prog 17 #[.pointer (some ⟨x, 0, none⟩), bv] V fun e w' => e = .returned (.int .i64 0) ∧ LgN w w' x f (l ++ frameL b) (rs ++ [b]) ∧ ∀ v ls, OwnBss W.heap.size V v ls → OwnBss W.heap.size w' v ls := by
  obtain ⟨bs, h1, h2, h3⟩ := h
  have hs := h3.size
  have hs2 := hV.size
  have hold : ∀ k, bv.ownBlock = some k → b = [] ∨ k ∉ bs := by
    intro k hk
    refine .inr (fun hm => ?_)
    obtain ⟨b', o, c, rfl, _, _, _, h4⟩ := hb.form (by omega)
    simp [Value.ownBlock] at hk
    subst hk
    have h5 := h4 0 (vU8 b[0]) (bytes_get (by omega))
    have := lt_cell (by simpa using h5)
    have := (h2 _ hm).1
    omega
  refine (lappend_good V x f l b rs bs (h1.kept0 hV) bv ((hb.kept0 h3).kept0 hV) hold hl1 hl2 hlen hrs).mono ?_
  rintro e w' ⟨rfl, hL, hp⟩
  refine ⟨rfl, LgN.went hL (fun k hk => by have := h2 k hk; omega) (h3.trans0 hV) hp, ?_⟩
  rintro v ls ⟨vs, g1, g2⟩
  have hn : ∀ (u : Value) (e n : Nat) (xs : List Value), V.ownsRow W.heap.size e 1 u n xs → ∀ k, u.ownBlock = some k → k ∉ bs := fun u e n xs hu k hk hm => by
    have := (hu.lt k hk).1
    have := (h2 k hm).2
    omega
  exact ⟨vs, own_only g1 hp (hn _ _ _ _ g1), g2.imp fun u y k => ⟨own_only k.1 hp (hn _ _ _ _ k.1), k.2⟩⟩

/-- How many of the first k records are fast, where the s-th was the last one ahead of a sync. -/
def fastAt (s k : Nat) : Nat := if 1 ≤ s ∧ s ≤ k then s else 0

set_option maxRecDepth 20000 in
set_option maxHeartbeats 3200000 in
theorem journalLost_mid (w : World) {v t : Value} {ls : List (List UInt8)} {m : List UInt8} {sy : Nat} {kz : Int} (hv : Bss w v ls) (hm : Bs w t m) (hsy : sy < 256) (hkz : -9223372036854775808 ≤ kz ∧ kz ≤ 9223372036854775807) (q1 : ¬ 12 < ls.length) (q4 : ¬ m.length < 1) (q5 : ¬ 60 < m.length) :
    Calls Try.prog 4 #[v, .int .u8 (sy : Int), .int .i64 kz, t] w fun e w' => e = .returned (.bool true) ∧ Only [] w w' := by
  obtain ⟨a, cap, rfl, h1, h2, h3⟩ := hv.form
  obtain ⟨ta, tc, rfl⟩ := bs_form hm
  have hn0 : ∀ W : World, Bs W (.slice none 0 0) [] := fun W => Bs.empty (by unfold maxLen; omega)
  have hop := fun W (ho : Only [] w W) => nopen_any w W ho _ _ [] [] (hn0 W) (hn0 W) (by simp)
  rw [show allL ([] ++ []) = ([], 0) from allL_bad _ (by simp [firstL])] at hop
  simp only [List.append_nil, List.take_nil] at hop
  replace hop := hid hop
  obtain ⟨s, hs⟩ : ∃ s, s = sy % (ls.length + 1) := ⟨_, rfl⟩
  have hsn : s ≤ ls.length := by have := Nat.mod_lt sy (show 0 < ls.length + 1 by omega); omega
  have hmod : (sy : Int) % ((ls.length : Int) + 1) = (s : Int) := by rw [hs]; simp
  clear hs hn0
  go_enter Try.func4, Try.ntmps4
  go_wp2_with fail
  refine (awake12_any _).mono ?_
  rintro e w1 ⟨rfl, ho1⟩
  go_wp2_with fail
  with_reducible refine (hop.out _ ho1).mono ?_
  rintro e w2 ⟨x, rfl, g1, o2'⟩
  go_wp2_with fail
  go_loopw [38] (fun i wr => ∃ (k : Nat) (f l : List UInt8), k ≤ ls.length ∧ i = .int .i64 k ∧ LgN w wr x f l (ls.take k) ∧ f.length + l.length ≤ 66 * k ∧ Hid (f = flatL (ls.take (fastAt s k))) ∧ Hid (f ++ l = flatL (ls.take k)) ∧ Hid (∀ y ∈ ls.take k, 1 ≤ y.length ∧ y.length ≤ 60)) (fun i _ => ls.length - (intOf i).toNat)
  case atStart => exact ⟨0, [], [], Nat.zero_le _, rfl, g1, by simp, hid (by rw [show fastAt s 0 = 0 by unfold fastAt; rw [if_neg (by omega)]]; simp [flatL]), hid (by simp [flatL]), hid (by simp)⟩
  case round =>
    obtain ⟨k, f, l, hk, rfl, g, hl, hf, hfl, hy⟩ := hrel
    by_cases hlt : k < ls.length
    · obtain ⟨b0, o0, xv, rfl, c1, hx⟩ := hv.at k hlt
      have c1' := g.o.cell c1 (by simp)
      obtain ⟨R, hR⟩ : ∃ R, R = ls[k] := ⟨_, rfl⟩
      have ht : ls.take (k + 1) = ls.take k ++ [R] := by rw [hR, List.take_succ_eq_append_getElem hlt]
      rw [← hR] at hx
      obtain ⟨xa, xc, rfl⟩ := bs_form hx
      have HT := hid ht
      clear hR c1 ht
      by_cases r0 : R.length = 0
      · have hO := g.o
        go_wp2_with fail
        go_ret
        exact ⟨rfl, hO⟩
      have r0' : ¬ R.length < 1 := by omega
      by_cases r1 : 60 < R.length
      · have hO := g.o
        go_wp2_with fail
        go_ret
        exact ⟨rfl, hO⟩
      have apk := nappend_good w wr x f l R (ls.take k) g _ hx (by omega) (by omega) (by omega) (by simp; omega)
      rw [← HT.out] at apk
      replace apk := hid apk
      go_wp2_with fail
      with_reducible refine apk.out.mono ?_
      rintro e w3 ⟨rfl, g3⟩
      have hft : Hid (f ++ (l ++ frameL R) = flatL (ls.take (k + 1))) := by
        show _ = _
        rw [HT.out, flatL_append, ← hfl.out]; simp [flatL]
      have hyt : Hid (∀ y ∈ ls.take (k + 1), 1 ≤ y.length ∧ y.length ≤ 60) := by
        intro y hm
        rw [HT.out, List.mem_append] at hm
        rcases hm with hm | hm
        · exact hy.out y hm
        · obtain rfl : y = R := by simpa using hm
          omega
      by_cases hks : k + 1 = s
      · have hkb : ((k : Int) + 1 == (s : Int)) = true := by simp; omega
        have syk := hid (nsync_any w w3 x _ _ _ g3 (by rw [List.length_append, frameL_length]; omega))
        have hfs : fastAt s (k + 1) = k + 1 := by unfold fastAt; rw [if_pos (by omega)]; omega
        have HFS := hid hfs
        have hks' := hid hks
        clear hfs hks
        go_wp2_with fail
        with_reducible refine syk.out.mono ?_
        rintro e w4 ⟨rfl, g4⟩
        go_wp2
        go_roundw
        case rel => exact ⟨k + 1, _, _, by omega, by go_num, g4, by rw [List.length_append, List.length_append, frameL_length]; simp; omega, hid (by rw [HFS.out]; exact hft.out), hid (by rw [List.append_nil]; exact hft.out), hyt⟩
        case measure => simp [intOf]; omega
      · have hkb : ((k : Int) + 1 == (s : Int)) = false := by simp; omega
        have hfs : fastAt s (k + 1) = fastAt s k := by unfold fastAt; split <;> split <;> omega
        have HFS := hid hfs
        clear hfs
        go_wp2
        go_roundw
        case rel => exact ⟨k + 1, f, l ++ frameL R, by omega, by go_num, g3, by rw [List.length_append, frameL_length]; omega, hid (by rw [HFS.out]; exact hf.out), hft, hyt⟩
        case measure => simp [intOf]; omega
    · obtain rfl : k = ls.length := by omega
      have hfa : fastAt s ls.length = s := by unfold fastAt; split <;> omega
      have hf' : f = flatL (ls.take s) := by rw [hf.out, hfa]
      have hfl' : f ++ l = flatL ls := by rw [hfl.out, List.take_length]
      have hy' : ∀ y ∈ ls, 1 ≤ y.length ∧ y.length ≤ 60 := by have := hy.out; rwa [List.take_length] at this
      have hy1 : ∀ y ∈ ls, 1 ≤ y.length ∧ y.length ≤ 1000 := fun y h => by have := hy' y h; omega
      rw [List.take_length] at g
      obtain ⟨p, hp⟩ : ∃ p, p = keepN kz l.length := ⟨_, rfl⟩
      have hpl : p ≤ l.length := by rw [hp]; unfold keepN; omega
      obtain ⟨q, hsq, hqn, hall, hCt⟩ := cut_prefix ls hy1 s p f l hsn hf' hfl' hpl
      have hfr : ∀ j, (allL (flatL (ls.take j))).1 = ls.take j := fun j => by
        have := allL_frames (ls.take j) (fun y h => hy1 y (List.mem_of_mem_take h))
        show (allL ((ls.take j).map frameL).flatten).1 = _
        rw [this]
      have hsl : (ls.take s).length = s := by simp; omega
      have hql : (ls.take q).length = q := by simp; omega
      have hfl1 : (allL f).1.length = s := by rw [hf', hfr, hsl]
      have fa := nfast_any w wr x f l ls g (by omega)
      rw [hfl1] at fa
      replace fa := hid fa
      have di := hid (fun W (h : LgN w W x f l ls) => ndisk_any w W x _ _ _ h (by omega))
      obtain ⟨C, hC⟩ : ∃ C, C = f ++ l.take p := ⟨_, rfl⟩
      have hCl : C.length ≤ 1000 := by rw [hC]; simp; omega
      have cr := fun W fv lv (hf : Bs W fv f) (hl : Bs W lv l) => dcrash_any W fv lv f l kz 0 hf hl hkz (by omega)
      simp only [crashL_zero, ← hp, ← hC, show (((0 : UInt8).toNat : Nat) : Int) = 0 from rfl] at cr
      rw [← hC] at hall hCt
      have o2 := fun W fv (ho : Only [] w W) (hf : Bs W fv C) => nopen_any w W ho fv _ C [] hf (Bs.empty (a := none) (cap := 0) (by unfold maxLen; omega)) (by simp; omega)
      simp only [List.append_nil, hall, hCt] at o2
      replace cr := hid cr
      replace o2 := hid o2
      replace hCl := hid hCl
      have HQL := hid hql
      have HFR := hid hfr
      have hFL : Hid ((flatL ls).length ≤ 2000) := by show _ ≤ _; rw [← hfl']; simp; omega
      have HEL := hid (show ∀ r ∈ ls.take q, r.length ≤ 1000000 from fun r h => by have := hy' r (List.mem_of_mem_take h); omega)
      have hlen64 : Hid (f.length ≤ 1000 ∧ l.length ≤ 1000) := ⟨by omega, by omega⟩
      clear hf' hfl' hy' hy1 hp hpl hall hCt hfr hsl hql hfl1 hC hfa
      go_wp2_with fail
      with_reducible refine fa.out.mono ?_
      rintro e w3 ⟨rfl, o3⟩
      have g3 := g.kept0 o3
      go_wp2_with fail
      with_reducible refine (di.out _ g3).mono ?_
      rintro e w5 ⟨v5, u5, rfl, f5, l5, o5⟩
      have g5 := g3.kept0 o5
      go_wp2_with fail
      with_reducible refine (cr.out _ _ _ (f5.bs (by have := hlen64.out; omega)) (l5.bs (by have := hlen64.out; omega))).mono ?_
      rintro e w6 ⟨v6, rfl, f6, o6⟩
      have g6 := g5.kept0 o6
      go_wp2_with fail
      with_reducible refine (o2.out _ _ g6.o (f6.bs (by have := hCl.out; omega))).mono ?_
      rintro e w7 ⟨y, rfl, k7, o7⟩
      have re := hid (nrecords_any w w7 y _ _ _ k7 (by rw [HQL.out]; omega) HEL.out)
      go_wp2_with fail
      with_reducible refine re.out.mono ?_
      rintro e w8 ⟨v8, rfl, r8, o8⟩
      have k8 := k7.kept0 o8
      have b8 := r8.bss (by rw [HQL.out]; omega)
      obtain ⟨pa, pc, rfl⟩ : ∃ a c, v8 = .slice a q c := by
        obtain ⟨vs, h, _⟩ := r8
        rw [HQL.out] at h
        exact own_form h
      clear re
      have hpre := ((hv.kept0 k8.o).pre q hqn)
      have li := hid (lists_any _ _ (ls.take q) (ls.take q) _ b8 hpre)
      go_wp2_with fail
      with_reducible refine li.out.mono ?_
      rintro e w9 ⟨rfl, o9⟩
      have k9 := k8.kept0 o9
      have b9 := b8.kept0 o9
      have fa2 := nfast_any w w9 y _ _ _ k9 (by have := flatL_le ls q; have := hFL.out; simp; omega)
      rw [HFR.out, HQL.out] at fa2
      replace fa2 := hid fa2
      go_wp2_with fail
      with_reducible refine fa2.out.mono ?_
      rintro e w10 ⟨rfl, o10⟩
      have k10 := k9.kept0 o10
      have hV := (o8.trans0 o9).trans0 o10
      have r10 := (r8.kept0 o9).kept0 o10
      have ap := hid (nappend_keep w w7 w10 y _ _ m (ls.take q) k7 hV _ hm (by omega) (by omega) (by have := flatL_le ls q; have := hFL.out; simp; omega) (by rw [HQL.out]; omega))
      clear b9 b8 r8
      go_wp2_with fail
      with_reducible refine ap.out.mono ?_
      rintro e w11 ⟨rfl, k11, hkeep⟩
      have r11 := hkeep _ _ r10
      clear hkeep r10 ap
      have hml : (ls.take q ++ [m]).length = q + 1 := by rw [List.length_append, HQL.out]; rfl
      have HML := hid hml
      have re2 := hid (nrecords_any w w11 y _ _ _ k11 (by rw [HML.out]; omega) (fun r h => by
        rcases List.mem_append.1 h with h | h
        · exact HEL.out r h
        · obtain rfl : r = m := by simpa using h
          omega))
      clear hml
      go_wp2_with fail
      with_reducible refine re2.out.mono ?_
      rintro e w12 ⟨v12, rfl, r12, o12⟩
      have b11 := (r11.bss (by rw [HQL.out]; omega)).kept0 o12
      have b12 := r12.bss (by rw [HML.out]; omega)
      have hO := k11.o.trans0 o12
      obtain ⟨sa, sc, rfl⟩ : ∃ a c, v12 = .slice a (q + 1) c := by
        obtain ⟨vs, h, _⟩ := r12
        rw [HML.out] at h
        exact own_form h
      have hsc : q + 1 ≤ sc := by
        obtain ⟨_, _, he, h, _⟩ := b12.form
        simp only [Value.slice.injEq] at he
        omega
      have hsc2 : (q : Int) ≤ (sc : Int) := by omega
      have hsc3 : ¬ sc < q := by omega
      have ht12 : (ls.take q ++ [m]).take q = ls.take q := by rw [List.take_left' HQL.out]
      have p12 := b12.pre q (by rw [HML.out]; omega)
      rw [ht12] at p12
      have li2 := hid (lists_any _ _ (ls.take q) (ls.take q) _ p12 b11)
      obtain ⟨b0, o0, xv, hsa, cx, hxm⟩ := b12.at q (by rw [HML.out]; omega)
      have hgm : (ls.take q ++ [m])[q]'(by rw [HML.out]; omega) = m := by
        rw [List.getElem_append_right (by rw [HQL.out]; omega)]
        simp
      rw [hgm] at hxm
      subst hsa
      obtain ⟨xa, xc, rfl⟩ := bs_form hxm
      clear re2 r11 r12 b11 b12 p12 ht12
      go_wp2_with fail
      with_reducible refine li2.out.mono ?_
      rintro e w13 ⟨rfl, o13⟩
      have cx13 := o13.cell cx (by simp)
      have sa13 := hid (same_any _ _ m m _ (hxm.kept0 o13) ((hm.kept0 hO).kept0 o13))
      clear cx
      go_wp2_with fail
      with_reducible refine sa13.out.mono ?_
      rintro e w14 ⟨rfl, o14⟩
      clear cx13 sa13
      go_wp2_with fail
      go_ret
      exact ⟨rfl, (hO.trans0 o13).trans0 o14⟩

set_option maxRecDepth 20000 in
set_option maxHeartbeats 3200000 in
theorem journalLost_walk (w : World) {v t : Value} {ls : List (List UInt8)} {m : List UInt8} {sz kz : Int} (hv : Bss w v ls) (hsz : (Lit.int .u8 sz).wf = true) (hkz : (Lit.int .i64 kz).wf = true) (hm : Bs w t m) :
    Calls Try.prog 4 #[v, .int .u8 sz, .int .i64 kz, t] w fun e w' => e = .returned (.bool true) ∧ Only [] w w' := by
  have hs := wfu8 hsz
  obtain ⟨sy, rfl⟩ : ∃ sy : Nat, sz = (sy : Int) := ⟨sz.toNat, by omega⟩
  have hk := wfi64 hkz
  by_cases q1 : 12 < ls.length
  · clear hsz hkz hs hk
    obtain ⟨a, cap, rfl, h1, h2, h3⟩ := hv.form
    obtain ⟨ta, tc, rfl⟩ := bs_form hm
    go_enter Try.func4, Try.ntmps4
    go_wp2_with fail
    refine (awake12_any _).mono ?_
    rintro e w1 ⟨rfl, ho1⟩
    go_wp2_with fail
    refine (awake12_any _).mono ?_
    rintro e w2 ⟨rfl, ho2⟩
    go_wp2
    go_ret
    exact ⟨rfl, ho1.trans0 ho2⟩
  by_cases q2 : m.length = 0
  · clear hsz hkz hs hk
    obtain ⟨a, cap, rfl, h1, h2, h3⟩ := hv.form
    obtain ⟨ta, tc, rfl⟩ := bs_form hm
    go_enter Try.func4, Try.ntmps4
    go_wp2_with fail
    refine (awake12_any _).mono ?_
    rintro e w1 ⟨rfl, ho1⟩
    go_wp2_with fail
    refine (awake12_any _).mono ?_
    rintro e w2 ⟨rfl, ho2⟩
    go_wp2
    go_ret
    exact ⟨rfl, ho1.trans0 ho2⟩
  have q4 : ¬ m.length < 1 := by omega
  by_cases q5 : 60 < m.length
  · clear hsz hkz hs hk q2
    obtain ⟨a, cap, rfl, h1, h2, h3⟩ := hv.form
    obtain ⟨ta, tc, rfl⟩ := bs_form hm
    go_enter Try.func4, Try.ntmps4
    go_wp2_with fail
    refine (awake12_any _).mono ?_
    rintro e w1 ⟨rfl, ho1⟩
    go_wp2_with fail
    refine (awake12_any _).mono ?_
    rintro e w2 ⟨rfl, ho2⟩
    go_wp2
    go_ret
    exact ⟨rfl, ho1.trans0 ho2⟩
  exact journalLost_mid w hv hm (by omega) hk q1 q4 q5
end Go.Proofs.Ytlcfmocojakhpaa.Sh
