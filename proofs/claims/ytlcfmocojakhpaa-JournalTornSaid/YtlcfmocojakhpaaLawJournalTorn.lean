/- With the last byte that is there torn, too, a log has the first ones of its records, and all that were fast: the law's walk. -/
import Derived.Test.YtlcfmocojakhpaaJouK
import Derived.Test.YtlcfmocojakhpaaPlTorn
namespace Go.Proofs.Ytlcfmocojakhpaa.Sh
open Go Go.RowKit

set_option maxRecDepth 20000 in
set_option maxHeartbeats 3200000 in
theorem journalTorn_mid (w : World) {v : Value} {ls : List (List UInt8)} {sy : Nat} {kz : Int} {torn : UInt8} (hv : Bss w v ls) (hsy : sy < 256) (hkz : -9223372036854775808 ≤ kz ∧ kz ≤ 9223372036854775807) (q1 : ¬ 12 < ls.length) (ht : torn ≠ 0) :
    Calls Try.prog 5 #[v, .int .u8 (sy : Int), .int .i64 kz, .int .u8 (torn.toNat : Int)] w fun e w' => e = .returned (.bool true) ∧ Only [] w w' := by
  obtain ⟨a, cap, rfl, h1, h2, h3⟩ := hv.form
  have htb : ((torn.toNat : Int) == 0) = false := by
    rw [beq_eq_false_iff_ne]
    intro h
    exact ht (UInt8.toNat_inj.1 (by simpa using h))
  have HT0 := hid ht
  clear ht
  have hn0 : ∀ W : World, Bs W (.slice none 0 0) [] := fun W => Bs.empty (by unfold maxLen; omega)
  have hop := fun W (ho : Only [] w W) => nopen_any w W ho _ _ [] [] (hn0 W) (hn0 W) (by simp)
  rw [show allL ([] ++ []) = ([], 0) from allL_bad _ (by simp [firstL])] at hop
  simp only [List.append_nil, List.take_nil] at hop
  replace hop := hid hop
  obtain ⟨s, hs⟩ : ∃ s, s = sy % (ls.length + 1) := ⟨_, rfl⟩
  have hsn : s ≤ ls.length := by have := Nat.mod_lt sy (show 0 < ls.length + 1 by omega); omega
  have hmod : (sy : Int) % ((ls.length : Int) + 1) = (s : Int) := by rw [hs]; simp
  clear hs hn0
  go_enter Try.func5, Try.ntmps5
  go_wp2_with fail
  refine (awake12_any _).mono ?_
  rintro e w1 ⟨rfl, ho1⟩
  go_wp2_with fail
  with_reducible refine (hop.out _ ho1).mono ?_
  rintro e w2 ⟨x, rfl, g1, o2'⟩
  go_wp2_with fail
  go_loopw [28] (fun i wr => ∃ (k : Nat) (f l : List UInt8), k ≤ ls.length ∧ i = .int .i64 k ∧ LgN w wr x f l (ls.take k) ∧ f.length + l.length ≤ 66 * k ∧ Hid (f = flatL (ls.take (fastAt s k))) ∧ Hid (f ++ l = flatL (ls.take k)) ∧ Hid (∀ y ∈ ls.take k, 1 ≤ y.length ∧ y.length ≤ 60)) (fun i _ => ls.length - (intOf i).toNat)
  case atStart => exact ⟨0, [], [], Nat.zero_le _, rfl, g1, by simp, hid (by rw [show fastAt s 0 = 0 by unfold fastAt; rw [if_neg (by omega)]]; simp [flatL]), hid (by simp [flatL]), hid (by simp)⟩
  case round =>
    obtain ⟨k, f, l, hk, rfl, g, hl, hf, hfl, hy⟩ := hrel
    by_cases hlt : k < ls.length
    · obtain ⟨b0, o0, xv, rfl, c1, hx⟩ := hv.at k hlt
      have c1' := g.o.cell c1 (by simp)
      obtain ⟨R, hR⟩ : ∃ R, R = ls[k] := ⟨_, rfl⟩
      have ht : ls.take (k + 1) = ls.take k ++ [R] := by rw [hR, List.take_succ_eq_append_getElem hlt]
      rw [← hR] at hx
      obtain ⟨xa, xc, rfl⟩ := bs_form hx
      have HT := hid ht
      clear hR c1 ht
      by_cases r0 : R.length = 0
      · have hO := g.o
        go_wp2_with fail
        go_ret
        exact ⟨rfl, hO⟩
      have r0' : ¬ R.length < 1 := by omega
      by_cases r1 : 60 < R.length
      · have hO := g.o
        go_wp2_with fail
        go_ret
        exact ⟨rfl, hO⟩
      have apk := nappend_good w wr x f l R (ls.take k) g _ hx (by omega) (by omega) (by omega) (by simp; omega)
      rw [← HT.out] at apk
      replace apk := hid apk
      go_wp2_with fail
      with_reducible refine apk.out.mono ?_
      rintro e w3 ⟨rfl, g3⟩
      have hft : Hid (f ++ (l ++ frameL R) = flatL (ls.take (k + 1))) := by
        show _ = _
        rw [HT.out, flatL_append, ← hfl.out]; simp [flatL]
      have hyt : Hid (∀ y ∈ ls.take (k + 1), 1 ≤ y.length ∧ y.length ≤ 60) := by
        intro y hm
        rw [HT.out, List.mem_append] at hm
        rcases hm with hm | hm
        · exact hy.out y hm
        · obtain rfl : y = R := by simpa using hm
          omega
      by_cases hks : k + 1 = s
      · have hkb : ((k : Int) + 1 == (s : Int)) = true := by simp; omega
        have syk := hid (nsync_any w w3 x _ _ _ g3 (by rw [List.length_append, frameL_length]; omega))
        have hfs : fastAt s (k + 1) = k + 1 := by unfold fastAt; rw [if_pos (by omega)]; omega
        have HFS := hid hfs
        have hks' := hid hks
        clear hfs hks
        go_wp2_with fail
        with_reducible refine syk.out.mono ?_
        rintro e w4 ⟨rfl, g4⟩
        go_wp2
        go_roundw
        case rel => exact ⟨k + 1, _, _, by omega, by go_num, g4, by rw [List.length_append, List.length_append, frameL_length]; simp; omega, hid (by rw [HFS.out]; exact hft.out), hid (by rw [List.append_nil]; exact hft.out), hyt⟩
        case measure => simp [intOf]; omega
      · have hkb : ((k : Int) + 1 == (s : Int)) = false := by simp; omega
        have hfs : fastAt s (k + 1) = fastAt s k := by unfold fastAt; split <;> split <;> omega
        have HFS := hid hfs
        clear hfs
        go_wp2
        go_roundw
        case rel => exact ⟨k + 1, f, l ++ frameL R, by omega, by go_num, g3, by rw [List.length_append, frameL_length]; omega, hid (by rw [HFS.out]; exact hf.out), hft, hyt⟩
        case measure => simp [intOf]; omega
    · obtain rfl : k = ls.length := by omega
      have hfa : fastAt s ls.length = s := by unfold fastAt; split <;> omega
      have hf' : f = flatL (ls.take s) := by rw [hf.out, hfa]
      have hfl' : f ++ l = flatL ls := by rw [hfl.out, List.take_length]
      have hy' : ∀ y ∈ ls, 1 ≤ y.length ∧ y.length ≤ 60 := by have := hy.out; rwa [List.take_length] at this
      have hy1 : ∀ y ∈ ls, 1 ≤ y.length ∧ y.length ≤ 1000 := fun y h => by have := hy' y h; omega
      rw [List.take_length] at g
      obtain ⟨q, hsq, hqn, hall⟩ := torn_prefix ls hy1 s f l kz torn HT0.out hsn hf' hfl'
      have hfr : ∀ j, (allL (flatL (ls.take j))).1 = ls.take j := fun j => by
        have := allL_frames (ls.take j) (fun y h => hy1 y (List.mem_of_mem_take h))
        show (allL ((ls.take j).map frameL).flatten).1 = _
        rw [this]
      have hsl : (ls.take s).length = s := by simp; omega
      have hql : (ls.take q).length = q := by simp; omega
      have hfl1 : (allL f).1.length = s := by rw [hf', hfr, hsl]
      have fa := fun W (h : LgN w W x f l ls) => nfast_any w W x f l ls h (by omega)
      rw [hfl1] at fa
      replace fa := hid fa
      have di := hid (fun W (h : LgN w W x f l ls) => ndisk_any w W x _ _ _ h (by omega))
      obtain ⟨C, hC⟩ : ∃ C, C = crashL f l kz torn := ⟨_, rfl⟩
      have hCl : C.length ≤ 1000 := by rw [hC]; unfold crashL; split <;> simp <;> omega
      have cr := fun W fv lv (hf : Bs W fv f) (hl : Bs W lv l) => dcrash_any W fv lv f l kz torn hf hl hkz (by omega)
      simp only [← hC] at cr
      rw [← hC] at hall
      have o2 := fun W fv (ho : Only [] w W) (hf : Bs W fv C) => nopen_any w W ho fv _ C [] hf (Bs.empty (a := none) (cap := 0) (by unfold maxLen; omega)) (by simp; omega)
      simp only [List.append_nil, hall] at o2
      obtain ⟨C2, hC2⟩ : ∃ C2, C2 = C.take (allL C).2 := ⟨_, rfl⟩
      simp only [← hC2] at o2
      replace cr := hid cr
      replace o2 := hid o2
      replace hCl := hid hCl
      have HQL := hid hql
      have HEL := hid (show ∀ r ∈ ls.take q, r.length ≤ 1000000 from fun r h => by have := hy' r (List.mem_of_mem_take h); omega)
      have hlen64 : Hid (f.length ≤ 1000 ∧ l.length ≤ 1000) := ⟨by omega, by omega⟩
      clear hf' hfl' hy' hy1 hall hfr hsl hql hfl1 hC hC2 hfa
      go_wp2_with fail
      with_reducible refine (di.out _ g).mono ?_
      rintro e w5 ⟨v5, u5, rfl, f5, l5, o5⟩
      have g5 := g.kept0 o5
      go_wp2_with fail
      with_reducible refine (cr.out _ _ _ (f5.bs (by have := hlen64.out; omega)) (l5.bs (by have := hlen64.out; omega))).mono ?_
      rintro e w6 ⟨v6, rfl, f6, o6⟩
      have g6 := g5.kept0 o6
      go_wp2_with fail
      with_reducible refine (o2.out _ _ g6.o (f6.bs (by have := hCl.out; omega))).mono ?_
      rintro e w7 ⟨y, rfl, k7, o7⟩
      have g7 := g6.kept0 o7
      have re := hid (nrecords_any w w7 y _ _ _ k7 (by rw [HQL.out]; omega) HEL.out)
      go_wp2_with fail
      with_reducible refine re.out.mono ?_
      rintro e w8 ⟨v8, rfl, r8, o8⟩
      have g8 := g7.kept0 o8
      have b8 := r8.bss (by rw [HQL.out]; omega)
      obtain ⟨pa, pc, rfl⟩ : ∃ a c, v8 = .slice a q c := by
        obtain ⟨vs, h, _⟩ := r8
        rw [HQL.out] at h
        exact own_form h
      clear re r8
      go_wp2_with fail
      with_reducible refine (fa.out _ g8).mono ?_
      rintro e w9 ⟨rfl, o9⟩
      have hpre := (((hv.kept0 g8.o).kept0 o9).pre q hqn)
      have li := hid (lists_any _ _ (ls.take q) (ls.take q) _ (b8.kept0 o9) hpre)
      have hO := g8.o.trans0 o9
      clear hpre b8
      go_wp2_with fail
      with_reducible refine li.out.mono ?_
      rintro e w10 ⟨rfl, o10⟩
      go_wp2_with fail
      go_ret
      exact ⟨rfl, hO.trans0 o10⟩

set_option maxRecDepth 20000 in
set_option maxHeartbeats 3200000 in
theorem journalTorn_walk (w : World) {v : Value} {ls : List (List UInt8)} {sz kz tz : Int} (hv : Bss w v ls) (hsz : (Lit.int .u8 sz).wf = true) (hkz : (Lit.int .i64 kz).wf = true) (htz : (Lit.int .u8 tz).wf = true) :
    Calls Try.prog 5 #[v, .int .u8 sz, .int .i64 kz, .int .u8 tz] w fun e w' => e = .returned (.bool true) ∧ Only [] w w' := by
  have hs := wfu8 hsz
  obtain ⟨sy, rfl⟩ : ∃ sy : Nat, sz = (sy : Int) := ⟨sz.toNat, by omega⟩
  have hk := wfi64 hkz
  obtain ⟨torn, rfl⟩ := u8_of (wfu8 htz)
  by_cases q1 : 12 < ls.length
  · clear hsz hkz hs hk htz
    obtain ⟨a, cap, rfl, h1, h2, h3⟩ := hv.form
    go_enter Try.func5, Try.ntmps5
    go_wp2_with fail
    refine (awake12_any _).mono ?_
    rintro e w1 ⟨rfl, ho1⟩
    go_wp2_with fail
    refine (awake12_any _).mono ?_
    rintro e w2 ⟨rfl, ho2⟩
    go_wp2
    go_ret
    exact ⟨rfl, ho1.trans0 ho2⟩
  by_cases q2 : torn = 0
  · subst q2
    rw [show (((0 : UInt8).toNat : Nat) : Int) = 0 from rfl]
    clear hsz hkz hs hk htz
    obtain ⟨a, cap, rfl, h1, h2, h3⟩ := hv.form
    go_enter Try.func5, Try.ntmps5
    go_wp2_with fail
    refine (awake12_any _).mono ?_
    rintro e w1 ⟨rfl, ho1⟩
    go_wp2_with fail
    refine (awake12_any _).mono ?_
    rintro e w2 ⟨rfl, ho2⟩
    go_wp2
    go_ret
    exact ⟨rfl, ho1.trans0 ho2⟩
  exact journalTorn_mid w hv (by omega) hk q1 q2
end Go.Proofs.Ytlcfmocojakhpaa.Sh
