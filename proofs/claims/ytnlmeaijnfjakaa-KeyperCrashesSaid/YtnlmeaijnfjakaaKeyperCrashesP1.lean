/- Texts of this proof, merged: LawKeyperCrashes. -/
import Derived.Test.YtnlmeaijnfjakaaZ9
/- Behind a crash a keyper is what it was: the law's walk. (Printed by gen_kcrash.py.) -/
namespace Go.Proofs.Ytnlmeaijnfjakaa.Sh
set_option linter.unusedSimpArgs false
set_option linter.unusedVariables false
open Go Go.RowKit

/-- The document's keyper, opened, that is newer than a world. -/
theorem r_open (w W : World) (ho : Only [] w W) (fv lv : Value) (f l : List UInt8) (hf : Bs W fv f) (hl : Bs W lv l) (hlen : f.length + l.length ≤ 500000) :
    Calls Try.prog 21 #[dskV fv lv] W fun e w' => ∃ y C, e = .returned (.pointer (some ⟨y, 0, none⟩)) ∧ RKB w' y (allL (f ++ l)).1 C ∧ (∀ i ∈ C, W.heap.size ≤ i) ∧ Only [] W w' := by
  refine (rkopen_any W fv lv f l hf hl hlen).mono ?_
  rintro e w' ⟨y, rfl, hk, o⟩
  exact ⟨y, _, rfl, hk, fun i hi => (mem_newBs.1 hi).1, o⟩
theorem both_made {w W W' : World} {k y : Nat} {rs : List (List UInt8)} {B C : List Nat} (ha : Ky w W k rs B) (hb : RKB W' y rs C) (hC : ∀ i ∈ C, W.heap.size ≤ i) (o : Only [] W W') : Both w W' k y rs B C := by
  have hs := ha.only.size
  exact ⟨ha.kb.kept0 o, hb, ha.new, fun i hi => by have := hC i hi; omega, fun i hi hm => by have := ha.kb.lt i hi; have := hC i hm; omega, ha.only.trans0 o⟩

set_option maxRecDepth 20000 in
set_option maxHeartbeats 12800000 in
theorem keyperCrashes_mid (w : World) {v u : Value} {l more : List KOp} {keep : Int} {torn : UInt8} (hl : KOps w v l) (hm : KOps w u more) (hkeep : -9223372036854775808 ≤ keep ∧ keep ≤ 9223372036854775807) (hf : fewK l = true) (hf2 : fewK more = true) :
    Calls Try.prog 8 #[v, .int .i64 keep, .int .u8 (torn.toNat : Int), u] w fun e w' => e = .returned (.bool true) ∧ Only [] w w' := by
  obtain ⟨va, vc, rfl, h1, h2, h3⟩ := hl.form
  obtain ⟨ua, uc, rfl, g1, g2, g3⟩ := hm.form
  obtain ⟨hfe, hl60⟩ := fewK_ok hf
  obtain ⟨hfe2, hm60⟩ := fewK_ok hf2
  replace hfe := hid hfe
  replace hfe2 := hid hfe2
  have hok := hid hl.ok
  have hok2 := hid hm.ok
  have hn0 : ∀ W : World, Bs W (.slice none 0 0) [] := fun W => Bs.empty (by unfold maxLen; omega)
  have hop := fun W (o : Only [] w W) => ky_open w W o _ _ [] [] (hn0 W) (hn0 W) (by simp)
  have rop := fun W (o : Only [] w W) => r_open w W o _ _ [] [] (hn0 W) (hn0 W) (by simp)
  rw [show allL ([] ++ []) = ([], 0) from allL_bad _ (by simp [firstL])] at hop rop
  replace hop := hid hop
  replace rop := hid rop
  have hfw := fun W (o : Only [] w W) => few20_any _ l W (hl.kept0 o)
  have hfw2 := fun W (o : Only [] w W) => few20_any _ more W (hm.kept0 o)
  rw [hf] at hfw
  rw [hf2] at hfw2
  replace hfw := hid hfw
  replace hfw2 := hid hfw2
  clear hn0 hf hf2
  go_enter Try.func8, Try.ntmps8
  go_wp2_with fail
  refine (awake20_any _).mono ?_
  rintro e w1 ⟨rfl, o1⟩
  go_wp2_with fail
  refine (hfw.out _ o1).mono ?_
  rintro e w' ⟨rfl, h9⟩
  obtain rfl : w1 = w' := h9.symm
  clear h9
  go_wp2_with fail
  refine (hfw2.out _ o1).mono ?_
  rintro e w' ⟨rfl, h9⟩
  obtain rfl : w1 = w' := h9.symm
  clear h9
  go_wp2_with fail
  refine (hop.out _ o1).mono ?_
  rintro e w2 ⟨k, B2, rfl, k2, _, o2⟩
  go_wp2_with fail
  refine (rop.out _ k2.only).mono ?_
  rintro e w3 ⟨y, C3, rfl, y3, hC3, o3⟩
  have hb3 := both_made k2 y3 hC3 o3
  clear hfw hfw2 hop rop k2 y3 hC3
  go_wp2_with fail
  go_loopw [33] (fun i wr => ∃ (j : Nat) (rs : List (List UInt8)) (B C : List Nat), j ≤ l.length ∧ i = .int .i64 j ∧ Both w wr k y rs B C ∧ Few j rs) (fun i _ => l.length - (intOf i).toNat)
  case atStart => exact ⟨0, [], B2, C3, Nat.zero_le _, rfl, hb3, Few.nil⟩
  case round =>
    obtain ⟨j, rs, B, C, hj, rfl, hb, hfew⟩ := hrel
    by_cases hlt : j < l.length
    · clear hm
      obtain ⟨b, o, rfl, hel⟩ := hl.at j hlt
      have hoks := hok.out _ (List.getElem_mem hlt)
      have hsml := hfe.out _ (List.getElem_mem hlt)
      obtain ⟨O, hO'⟩ : ∃ O, O = l[j] := ⟨_, rfl⟩
      rw [← hO'] at hel hoks hsml
      clear hO'
      obtain ⟨⟨c0, c1, c2, c3, c5⟩, ⟨x4, c4, h4⟩, x6, c6, h6⟩ := hel
      replace c0 := hb.only.cell c0 (by simp)
      replace c1 := hb.only.cell c1 (by simp)
      replace c2 := hb.only.cell c2 (by simp)
      replace c3 := hb.only.cell c3 (by simp)
      replace c4 := hb.only.cell c4 (by simp)
      replace c5 := hb.only.cell c5 (by simp)
      replace c6 := hb.only.cell c6 (by simp)
      have dd := hid (do_any w wr k y rs B C j hb hfew (by omega) O hoks x4 x6 h4 h6 hsml.1 hsml.2)
      obtain ⟨sa, sc, rfl⟩ := bs_form h4
      obtain ⟨ga, gc, rfl⟩ := bs_form h6
      clear hb h4 h6
      go_wp2_with fail
      refine dd.out.mono ?_
      rintro e w5 ⟨rfl, B5, C5, hb5, f5⟩
      clear dd
      go_wp2
      go_roundw
      case rel => exact ⟨j + 1, _, B5, C5, by omega, by go_num, hb5, f5⟩
      case measure => simp [intOf]; omega
    · obtain rfl : j = l.length := by omega
      have fl := hfew.1
      have dk := hid (ky_disk w wr k rs B l.length hb.ky hfew (by omega))
      have cr := hid (fun W fv lv (hf : Bs W fv (flatL rs)) (hl : Bs W lv []) => ky_crash W rs l.length hfew (by omega) fv lv hf hl keep hkeep torn)
      have hone := hid hb.a.one
      have re := hid (fun W (ho : Only [] w W) fv (hf : Bs W fv (flatL rs)) => ky_reopen w W rs l.length ho hfew (by omega) hone.out fv hf)
      have hB := hid hb
      have hfw9 := hid hfew
      clear hb hfew
      go_wp2_with fail
      refine dk.out.mono ?_
      rintro e w5 ⟨fv, lv, rfl, hf5, hl5, o5⟩
      have bf := hid (hf5.bs (by omega))
      have bl := hid (hl5.bs (by simp))
      clear hf5 hl5
      go_wp2_with fail
      refine (cr.out _ _ _ bf.out bl.out).mono ?_
      rintro e w6 ⟨fv6, rfl, hB6, o6⟩
      have bf6 := hid hB6
      go_wp2_with fail
      refine (re.out _ ((hB.out.only.trans0 o5).trans0 o6) _ bf6.out).mono ?_
      rintro e w7 ⟨m, D, rfl, hM, hD, o7⟩
      have o57 := (o5.trans0 o6).trans0 o7
      have hb7 := hid (hB.out.kept0 o57)
      have s56 := (o5.trans0 o6).size
      have hm7 := hid (show Both w w7 m y rs D C from ⟨hM.kb, hb7.out.b, hM.new, hb7.out.nb, fun i hi hm => by have h1 := hB.out.b.lt i hm; have h2 := hD i hi; omega, hM.only⟩)
      have sm1 := hid (fun W' (hW : Only [] w7 W') => same20_any w W' m y rs D C l.length (hm7.out.kept0 hW) hfw9.out (by omega))
      have sm2 := hid (fun W' (hW : Only [] w7 W') => same20_any w W' k y rs B C l.length (hb7.out.kept0 hW) hfw9.out (by omega))
      clear hM hD dk cr re hB6
      go_wp2_with fail
      refine (sm1.out _ (Only.refl _ _)).mono ?_
      rintro e w8 ⟨rfl, o8⟩
      go_wp2_with fail
      refine (sm2.out _ o8).mono ?_
      rintro e w9 ⟨rfl, o9⟩
      have hm9 := hm7.out.kept0 (o8.trans0 o9)
      clear sm1 sm2
      go_wp2_with fail
      go_loopw [66] (fun i wr => ∃ (j : Nat) (rs : List (List UInt8)) (B C : List Nat), j ≤ more.length ∧ i = .int .i64 j ∧ Both w wr m y rs B C ∧ Few (l.length + j) rs) (fun i _ => more.length - (intOf i).toNat)
      case atStart => exact ⟨0, rs, D, C, Nat.zero_le _, rfl, hm9, hfw9.out⟩
      case round =>
        obtain ⟨j, rs, B, C, hj, rfl, hb, hfew⟩ := hrel
        by_cases hlt : j < more.length
        · clear hl
          obtain ⟨b, o, rfl, hel⟩ := hm.at j hlt
          have hoks := hok2.out _ (List.getElem_mem hlt)
          have hsml := hfe2.out _ (List.getElem_mem hlt)
          obtain ⟨O, hO'⟩ : ∃ O, O = more[j] := ⟨_, rfl⟩
          rw [← hO'] at hel hoks hsml
          clear hO'
          obtain ⟨⟨c0, c1, c2, c3, c5⟩, ⟨x4, c4, h4⟩, x6, c6, h6⟩ := hel
          replace c0 := hb.only.cell c0 (by simp)
          replace c1 := hb.only.cell c1 (by simp)
          replace c2 := hb.only.cell c2 (by simp)
          replace c3 := hb.only.cell c3 (by simp)
          replace c4 := hb.only.cell c4 (by simp)
          replace c5 := hb.only.cell c5 (by simp)
          replace c6 := hb.only.cell c6 (by simp)
          have dd := hid (do_any w wr m y rs B C (l.length + j) hb hfew (by omega) O hoks x4 x6 h4 h6 hsml.1 hsml.2)
          obtain ⟨sa, sc, rfl⟩ := bs_form h4
          obtain ⟨ga, gc, rfl⟩ := bs_form h6
          clear hb h4 h6
          go_wp2_with fail
          refine dd.out.mono ?_
          rintro e w10 ⟨rfl, B5, C5, hb5, f5⟩
          have sm := hid (same20_any w w10 m y _ B5 C5 _ hb5 f5 (by omega))
          have HB5 := hid hb5
          clear dd hb5
          go_wp2_with fail
          refine sm.out.mono ?_
          rintro e w11 ⟨rfl, o11⟩
          have hb11 := HB5.out.kept0 o11
          clear sm
          go_wp2
          go_roundw
          case rel => exact ⟨j + 1, _, B5, C5, by omega, by go_num, hb11, by rw [← Nat.add_assoc]; exact f5⟩
          case measure => simp [intOf]; omega
        · obtain rfl : j = more.length := by omega
          have hfin := hid hb.only
          clear hb
          go_wp2
          go_ret
          exact ⟨rfl, hfin.out⟩

set_option maxRecDepth 20000 in
set_option maxHeartbeats 1600000 in
theorem keyperCrashes_walk (w : World) {v u : Value} {l more : List KOp} {kz tz : Int} (hl : KOps w v l) (hkz : (Lit.int .i64 kz).wf = true) (htz : (Lit.int .u8 tz).wf = true) (hm : KOps w u more) :
    Calls Try.prog 8 #[v, .int .i64 kz, .int .u8 tz, u] w fun e w' => e = .returned (.bool true) ∧ Only [] w w' := by
  obtain ⟨torn, rfl⟩ := u8_of (wfu8 htz)
  have hkeep := wfi64 hkz
  clear hkz htz
  cases hf : fewK l with
  | false =>
    obtain ⟨va, vc, rfl, h1, h2, h3⟩ := hl.form
    have hfw := fun W (o : Only [] w W) => few20_any _ l W (hl.kept0 o)
    rw [hf] at hfw
    replace hfw := hid hfw
    clear hf
    go_enter Try.func8, Try.ntmps8
    go_wp2_with fail
    refine (awake20_any _).mono ?_
    rintro e w1 ⟨rfl, o1⟩
    go_wp2_with fail
    refine (hfw.out _ o1).mono ?_
    rintro e w' ⟨rfl, h9⟩
    obtain rfl : w1 = w' := h9.symm
    clear h9
    go_wp2_with fail
    refine (awake20_any _).mono ?_
    rintro e w2 ⟨rfl, o2⟩
    go_wp2
    go_ret
    exact ⟨rfl, o1.trans0 o2⟩
  | true =>
    cases hf2 : fewK more with
    | true => exact keyperCrashes_mid w hl hm hkeep hf hf2
    | false =>
      obtain ⟨va, vc, rfl, h1, h2, h3⟩ := hl.form
      obtain ⟨ua, uc, rfl, g1, g2, g3⟩ := hm.form
      have hfw := fun W (o : Only [] w W) => few20_any _ l W (hl.kept0 o)
      have hfw2 := fun W (o : Only [] w W) => few20_any _ more W (hm.kept0 o)
      rw [hf] at hfw
      rw [hf2] at hfw2
      replace hfw := hid hfw
      replace hfw2 := hid hfw2
      clear hf hf2
      go_enter Try.func8, Try.ntmps8
      go_wp2_with fail
      refine (awake20_any _).mono ?_
      rintro e w1 ⟨rfl, o1⟩
      go_wp2_with fail
      refine (hfw.out _ o1).mono ?_
      rintro e w' ⟨rfl, h9⟩
      obtain rfl : w1 = w' := h9.symm
      clear h9
      go_wp2_with fail
      refine (hfw2.out _ o1).mono ?_
      rintro e w' ⟨rfl, h9⟩
      obtain rfl : w1 = w' := h9.symm
      clear h9
      go_wp2_with fail
      refine (awake20_any _).mono ?_
      rintro e w2 ⟨rfl, o2⟩
      go_wp2
      go_ret
      exact ⟨rfl, o1.trans0 o2⟩
end Go.Proofs.Ytnlmeaijnfjakaa.Sh
