/- Compacted there is one record alone, that stays whatever comes; behind it others stand as ever: the law's walk. -/
import Derived.Test.YtlcfmocojakhpaaJouI
namespace Go.Proofs.Ytlcfmocojakhpaa.Sh
open Go Go.RowKit

theorem crashL_nil (f : List UInt8) (keep : Int) (torn : UInt8) : crashL f [] keep torn = f := by
  have : keepN keep ([] : List UInt8).length = 0 := by unfold keepN; simp; omega
  unfold crashL
  rw [this]
  simp

theorem allL_one (b : List UInt8) (h1 : 1 ≤ b.length) (h2 : b.length ≤ 1000) : allL (frameL b) = ([b], 6 + b.length) := by
  have := allL_append b [] h1 h2
  rw [List.append_nil, allL_bad [] (by simp [firstL])] at this
  exact this

set_option maxRecDepth 20000 in
set_option maxHeartbeats 3200000 in
theorem journalCompacts_walk (w : World) {v u t : Value} {ls : List (List UInt8)} {b m : List UInt8} {kz tz : Int} (hv : Bss w v ls) (hb : Bs w u b) (hm : Bs w t m) (hk : (Lit.int .i64 kz).wf = true) (ht : (Lit.int .u8 tz).wf = true) :
    Calls Try.prog 7 #[v, u, t, .int .i64 kz, .int .u8 tz] w fun e w' => e = .returned (.bool true) ∧ Only [] w w' := by
  obtain ⟨a, cap, rfl, h1, h2, h3⟩ := hv.form
  obtain ⟨ua, uc, rfl⟩ := bs_form hb
  obtain ⟨ta, tc, rfl⟩ := bs_form hm
  obtain ⟨torn, rfl⟩ := u8_of (wfu8 ht)
  have hkz := wfi64 hk
  clear hk ht
  by_cases hbad : 12 < ls.length ∨ b.length = 0 ∨ 60 < b.length ∨ m.length = 0 ∨ 60 < m.length
  · by_cases q1 : 12 < ls.length
    · clear hbad
      go_enter Try.func7, Try.ntmps7
      go_wp2_with fail
      refine (awake12_any _).mono ?_
      rintro e w1 ⟨rfl, ho1⟩
      go_wp2_with fail
      refine (awake12_any _).mono ?_
      rintro e w2 ⟨rfl, ho2⟩
      go_wp2
      go_ret
      exact ⟨rfl, ho1.trans0 ho2⟩
    by_cases q2 : b.length = 0
    · clear hbad
      go_enter Try.func7, Try.ntmps7
      go_wp2_with fail
      refine (awake12_any _).mono ?_
      rintro e w1 ⟨rfl, ho1⟩
      go_wp2_with fail
      refine (awake12_any _).mono ?_
      rintro e w2 ⟨rfl, ho2⟩
      go_wp2
      go_ret
      exact ⟨rfl, ho1.trans0 ho2⟩
    have q2' : ¬ b.length < 1 := by omega
    by_cases q3 : 60 < b.length
    · clear hbad
      go_enter Try.func7, Try.ntmps7
      go_wp2_with fail
      refine (awake12_any _).mono ?_
      rintro e w1 ⟨rfl, ho1⟩
      go_wp2_with fail
      refine (awake12_any _).mono ?_
      rintro e w2 ⟨rfl, ho2⟩
      go_wp2
      go_ret
      exact ⟨rfl, ho1.trans0 ho2⟩
    by_cases q4 : m.length = 0
    · clear hbad
      go_enter Try.func7, Try.ntmps7
      go_wp2_with fail
      refine (awake12_any _).mono ?_
      rintro e w1 ⟨rfl, ho1⟩
      go_wp2_with fail
      refine (awake12_any _).mono ?_
      rintro e w2 ⟨rfl, ho2⟩
      go_wp2
      go_ret
      exact ⟨rfl, ho1.trans0 ho2⟩
    have q4' : ¬ m.length < 1 := by omega
    have q5 : 60 < m.length := by omega
    clear hbad
    go_enter Try.func7, Try.ntmps7
    go_wp2_with fail
    refine (awake12_any _).mono ?_
    rintro e w1 ⟨rfl, ho1⟩
    go_wp2_with fail
    refine (awake12_any _).mono ?_
    rintro e w2 ⟨rfl, ho2⟩
    go_wp2
    go_ret
    exact ⟨rfl, ho1.trans0 ho2⟩
  have q1 : ¬ 12 < ls.length := by omega
  have q2 : ¬ b.length < 1 := by omega
  have q3 : ¬ 60 < b.length := by omega
  have q4 : ¬ m.length < 1 := by omega
  have q5 : ¬ 60 < m.length := by omega
  clear hbad
  have hn0 : ∀ W : World, Bs W (.slice none 0 0) [] := fun W => Bs.empty (by unfold maxLen; omega)
  have hop := fun W (ho : Only [] w W) => nopen_any w W ho _ _ [] [] (hn0 W) (hn0 W) (by simp)
  rw [show allL ([] ++ []) = ([], 0) from allL_bad _ (by simp [firstL])] at hop
  simp only [List.append_nil, List.take_nil] at hop
  obtain ⟨F, hF⟩ : ∃ F, F = frameL b := ⟨_, rfl⟩
  obtain ⟨G, hG⟩ : ∃ G, G = frameL m := ⟨_, rfl⟩
  have lF : F.length = 6 + b.length := by rw [hF, frameL_length]
  have lG : G.length = 6 + m.length := by rw [hG, frameL_length]
  have hall : allL F = ([b], 6 + b.length) := by rw [hF, allL_one b (by omega) (by omega)]
  have co := fun W x f l rs (h : LgN w W x f l rs) => ncompact_good w W x f l b rs h _ hb (by omega) (by omega)
  rw [← hF] at co
  have ap := fun W V x y f2 rs2 (h : LgN w W x F [] [b]) (hy : LgN W V y f2 [] rs2) => nappend_two w W V x y F [] m [b] f2 [] rs2 h hy _ hm (by omega) (by omega) (by simp; omega) (by simp)
  rw [← hG] at ap
  simp only [List.nil_append, List.cons_append] at ap
  have di := fun W x (h : LgN w W x F [] [b]) => ndisk_any w W x _ _ _ h (by simp; omega)
  have cr := fun W fv lv (hf : Bs W fv F) (hl : Bs W lv []) => dcrash_any W fv lv F [] kz torn hf hl hkz (by simp; omega)
  simp only [crashL_nil] at cr
  have o2 := fun W fv (hf : Bs W fv F) => nopen_any W W (Only.refl [] W) fv _ F [] hf (hn0 W) (by simp; omega)
  simp only [List.append_nil, hall] at o2
  have fa := fun W x (h : LgN w W x F G [b, m]) => nfast_any w W x _ _ _ h (by omega)
  simp only [hall] at fa
  have re := fun W x (h : LgN w W x F G [b, m]) => nrecords_any w W x _ _ _ h (by simp) (by simp; omega)
  have re2 := fun W x f (h : LgN w W x f [] [b]) => nrecords_any w W x _ _ _ h (by simp) (by simp; omega)
  replace hop := hid hop
  replace co := hid co
  replace ap := hid ap
  replace di := hid di
  replace cr := hid cr
  replace o2 := hid o2
  replace fa := hid fa
  replace re := hid re
  replace re2 := hid re2
  have LF := hid lF
  clear hn0 hF hG lF lG hall hkz
  go_enter Try.func7, Try.ntmps7
  go_wp2_with fail
  refine (awake12_any _).mono ?_
  rintro e w1 ⟨rfl, ho1⟩
  go_wp2_with fail
  with_reducible refine (hop.out _ ho1).mono ?_
  rintro e w2 ⟨x, rfl, g1, o2'⟩
  go_wp2_with fail
  go_loopw [48] (fun i wr => ∃ (k : Nat) (l : List UInt8) (rs : List (List UInt8)), k ≤ ls.length ∧ i = .int .i64 k ∧ LgN w wr x [] l rs ∧ l.length ≤ 66 * k ∧ rs.length ≤ k) (fun i _ => ls.length - (intOf i).toNat)
  case atStart => exact ⟨0, [], [], Nat.zero_le _, rfl, g1, by simp, by simp⟩
  case round =>
    obtain ⟨k, l, rs, hk, rfl, g, hl, hr⟩ := hrel
    by_cases hlt : k < ls.length
    · obtain ⟨b0, o0, xv, rfl, c1, hx⟩ := hv.at k hlt
      have c1' := g.o.cell c1 (by simp)
      obtain ⟨R, hR⟩ : ∃ R, R = ls[k] := ⟨_, rfl⟩
      rw [← hR] at hx
      obtain ⟨xa, xc, rfl⟩ := bs_form hx
      clear hR c1
      by_cases r1 : 60 < R.length
      · have hO := g.o
        go_wp2_with fail
        go_ret
        exact ⟨rfl, hO⟩
      · by_cases r2 : 1 ≤ R.length
        · have apk := hid (nappend_good w wr x [] l R rs g _ hx r2 (by omega) (by simp; omega) (by omega))
          go_wp2_with fail
          with_reducible refine apk.out.mono ?_
          rintro e w3 ⟨rfl, g3⟩
          go_wp2
          go_roundw
          case rel => exact ⟨k + 1, _, _, by omega, by go_num, g3, by rw [List.length_append, frameL_length]; omega, by simp; omega⟩
          case measure => simp [intOf]; omega
        · have apk := hid (lappend_bad wr x _ R (hx.kept0 g.o) (by omega))
          go_wp2_with fail
          with_reducible refine apk.out.mono ?_
          rintro e w3 ⟨rfl, rfl⟩
          go_wp2
          go_roundw
          case rel => exact ⟨k + 1, _, _, by omega, by go_num, g, by omega, by omega⟩
          case measure => simp [intOf]; omega
    · obtain rfl : k = ls.length := by omega
      go_wp2_with fail
      with_reducible refine (co.out _ _ _ _ _ g).mono ?_
      rintro e w3 ⟨rfl, g3⟩
      go_wp2_with fail
      with_reducible refine (di.out _ _ g3).mono ?_
      rintro e w5 ⟨v5, u5, rfl, f5, l5, o5⟩
      have g5 := g3.kept0 o5
      go_wp2_with fail
      with_reducible refine (cr.out _ _ _ (f5.bs (by have := LF.out; omega)) (l5.bs (by simp))).mono ?_
      rintro e w6 ⟨v6, rfl, f6, o6⟩
      have g6 := g5.kept0 o6
      go_wp2_with fail
      with_reducible refine (o2.out _ _ (f6.bs (by have := LF.out; omega))).mono ?_
      rintro e w7 ⟨y, rfl, k7, o7⟩
      go_wp2_with fail
      with_reducible refine (ap.out _ _ _ _ _ _ g6 k7).mono ?_
      rintro e w8 ⟨rfl, g8, k8⟩
      go_wp2_with fail
      with_reducible refine (fa.out _ _ g8).mono ?_
      rintro e w9 ⟨rfl, o9⟩
      have g9 := g8.kept0 o9
      have k9 := k8.kept0 o9
      go_wp2_with fail
      with_reducible refine (re.out _ _ g9).mono ?_
      rintro e w10 ⟨v10, rfl, r10, o10⟩
      have k10 := k9.kept0 o10
      have b10 := r10.bss (by simp)
      obtain ⟨pa, pc, rfl⟩ : ∃ a c, v10 = .slice a 2 c := by obtain ⟨vs, h, _⟩ := r10; exact own_form h
      have hoA := (Only.refl [] w10).alloc (Obj.cells #[.slice ua b.length uc, .slice ta m.length tc] 22)
      have bw := bss_two ((hb.kept0 g9.o).kept0 o10) ((hm.kept0 g9.o).kept0 o10) 22
      have hli := hid (lists_any _ _ [b, m] [b, m] _ (b10.kept0 hoA) bw)
      have k11 := k10.kept0 hoA
      clear r10 b10 bw
      go_wp2_with fail
      with_reducible refine hli.out.mono ?_
      rintro e w11 ⟨rfl, o11⟩
      have k12 := k11.kept0 o11
      clear hli
      go_wp2_with fail
      with_reducible refine (re2.out _ _ _ k12).mono ?_
      rintro e w12 ⟨v12, rfl, r12, o12⟩
      have b12 := r12.bss (by simp)
      obtain ⟨sa, sc, rfl⟩ : ∃ a c, v12 = .slice a 1 c := by obtain ⟨vs, h, _⟩ := r12; exact own_form h
      have hoB := (Only.refl [] w12).alloc (Obj.cells #[.slice ua b.length uc] 22)
      have bw : Bss (w12.alloc (Obj.cells #[.slice ua b.length uc] 22)) (.slice (some ⟨w12.heap.size, 0, none⟩) 1 1) [b] :=
        ⟨_, cs_built w12 [.slice ua b.length uc] 22 1 1 (0, 0) rfl (by omega), .cons (((hb.kept0 k12.o).kept0 o12).kept0 hoB) .nil⟩
      have hli := hid (lists_any _ _ [b] [b] _ (b12.kept0 hoB) bw)
      have hO := (k12.o.trans0 o12).trans0 hoB
      clear r12 b12 bw
      go_wp2_with fail
      with_reducible refine hli.out.mono ?_
      rintro e w13 ⟨rfl, o13⟩
      clear hli
      go_wp2_with fail
      go_ret
      exact ⟨rfl, hO.trans0 o13⟩
end Go.Proofs.Ytlcfmocojakhpaa.Sh
