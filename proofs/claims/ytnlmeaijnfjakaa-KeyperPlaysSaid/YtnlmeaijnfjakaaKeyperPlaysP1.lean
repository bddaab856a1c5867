/- Texts of this proof, merged: LawKeyperPlays. -/
import Derived.Test.YtnlmeaijnfjakaaZ9
/- Whatever is kept, ordered, forgotten, and wherever it crashes: the law's walk. (Printed by gen_kplays.py.) -/
namespace Go.Proofs.Ytnlmeaijnfjakaa.Sh
set_option linter.unusedSimpArgs false
set_option linter.unusedVariables false
open Go Go.RowKit

set_option maxRecDepth 20000 in
set_option maxHeartbeats 12800000 in
theorem keyperPlays_mid (w : World) {v : Value} {l : List KOp} (hl : KOps w v l) (hf : fewK l = true) :
    Calls Try.prog 7 #[v] w fun e w' => e = .returned (.bool true) ∧ Only [] w w' := by
  obtain ⟨va, vc, rfl, h1, h2, h3⟩ := hl.form
  obtain ⟨hfe, hl60⟩ := fewK_ok hf
  replace hfe := hid hfe
  have hok := hid hl.ok
  have hn0 : ∀ W : World, Bs W (.slice none 0 0) [] := fun W => Bs.empty (by unfold maxLen; omega)
  have hop := fun W (o : Only [] w W) => ky_open w W o _ _ [] [] (hn0 W) (hn0 W) (by simp)
  have rop := fun W (o : Only [] w W) => r_open w W o _ _ [] [] (hn0 W) (hn0 W) (by simp)
  rw [show allL ([] ++ []) = ([], 0) from allL_bad _ (by simp [firstL])] at hop rop
  replace hop := hid hop
  replace rop := hid rop
  have hfw := fun W (o : Only [] w W) => few20_any _ l W (hl.kept0 o)
  rw [hf] at hfw
  replace hfw := hid hfw
  clear hn0 hf
  go_enter Try.func7, Try.ntmps7
  go_wp2_with fail
  refine (awake20_any _).mono ?_
  rintro e w1 ⟨rfl, o1⟩
  go_wp2_with fail
  refine (hfw.out _ o1).mono ?_
  rintro e w' ⟨rfl, h9⟩
  obtain rfl : w1 = w' := h9.symm
  clear h9
  go_wp2_with fail
  refine (hop.out _ o1).mono ?_
  rintro e w2 ⟨k, B2, rfl, k2, _, o2⟩
  go_wp2_with fail
  refine (rop.out _ k2.only).mono ?_
  rintro e w3 ⟨y, C3, rfl, y3, hC3, o3⟩
  have hb3 := both_made k2 y3 hC3 o3
  clear hfw hop rop k2 y3 hC3
  go_wp2_with fail
  go_loopw [3, 4, 20] (fun kv yv i wr => ∃ (j k y : Nat) (rs : List (List UInt8)) (B C : List Nat), j ≤ l.length ∧ kv = .pointer (some ⟨k, 0, none⟩) ∧ yv = .pointer (some ⟨y, 0, none⟩) ∧ i = .int .i64 j ∧ Both w wr k y rs B C ∧ Few j rs) (fun _ _ i _ => l.length - (intOf i).toNat)
  case atStart => exact ⟨0, k, y, [], B2, C3, Nat.zero_le _, rfl, rfl, rfl, hb3, Few.nil⟩
  case round =>
    obtain ⟨j, k, y, rs, B, C, hj, rfl, rfl, rfl, hb, hfew⟩ := hrel
    by_cases hlt : j < l.length
    · have HL0 := hid hl
      obtain ⟨b, o, rfl, hel⟩ := HL0.out.at j hlt
      have hoks := hok.out _ (List.getElem_mem hlt)
      have hsml := hfe.out _ (List.getElem_mem hlt)
      obtain ⟨O, hO'⟩ : ∃ O, O = l[j] := ⟨_, rfl⟩
      rw [← hO'] at hel hoks hsml
      clear hO'
      obtain ⟨⟨c0, c1, c2, c3, c5⟩, ⟨x4, c4, h4⟩, x6, c6, h6⟩ := hel
      replace c0 := hb.only.cell c0 (by simp)
      replace c1 := hb.only.cell c1 (by simp)
      replace c2 := hb.only.cell c2 (by simp)
      replace c3 := hb.only.cell c3 (by simp)
      replace c4 := hb.only.cell c4 (by simp)
      replace c5 := hb.only.cell c5 (by simp)
      replace c6 := hb.only.cell c6 (by simp)
      have hdo := hid (fun W k y (B C : List Nat) (h : Both w W k y rs B C) => do_any w W k y rs B C j h hfew (by omega) O hoks x4 x6 h4 h6 hsml.1 hsml.2)
      obtain ⟨sa, sc, rfl⟩ := bs_form h4
      obtain ⟨ga, gc, rfl⟩ := bs_form h6
      obtain ⟨kind, keep, a, torn, share, slot, L⟩ := O
      have hkeep : -9223372036854775808 ≤ keep ∧ keep ≤ 9223372036854775807 := hoks.2.1
      simp only at c0 c1 c2 c3 c4 c5 c6 hsml
      obtain ⟨slen, hslen⟩ : ∃ n, n = share.length := ⟨_, rfl⟩
      obtain ⟨llen, hllen⟩ : ∃ n, n = L.length := ⟨_, rfl⟩
      rw [← hslen] at c4
      rw [← hllen] at c6
      have hkv := hid (show kopV ⟨kind, keep, a, torn, share, slot, L⟩ (.slice sa share.length sc) (.slice ga L.length gc) = .agg #[.int .i64 kind, .int .i64 keep, vU8 a, vU8 torn, .slice sa slen sc, .int .u64 (slot : Int), .slice ga llen gc] by rw [hslen, hllen]; rfl)
      clear hslen hllen
      by_cases e4 : kind = 4
      · subst e4
        obtain ⟨x, ls, bs, hKy, _⟩ := id hb.b
        have cy4 := hKy.c4
        obtain ⟨fa, fc, ja, jc, ⟨x0, _⟩, ⟨x1, _⟩, hxf, hxl, _⟩ := hKy.log.sees
        have fl := hfew.1
        have hone := hid hb.a.one
        have dk := hid (fun W (h : Ky w W k rs B) => ky_disk w W k rs B j h hfew (by omega))
        have cr := hid (fun W fv lv (hf : Bs W fv (flatL rs)) (hl : Bs W lv []) => ky_crash W rs j hfew (by omega) fv lv hf hl keep hkeep torn)
        have re := hid (fun W (ho : Only [] w W) fv (hf : Bs W fv (flatL rs)) => ky_reopen w W rs j ho hfew (by omega) hone.out fv hf)
        have rcr := hid (fun W fv lv (hf : Bs W fv (flatL rs)) (hl : Bs W lv []) => r_crash W rs j hfew (by omega) fv lv hf hl keep hkeep torn)
        have rre := hid (fun W (ho : Only [] w W) fv (hf : Bs W fv (flatL rs)) => r_reopen w W rs j ho hfew (by omega) hone.out fv hf)
        have hbK := hid hb
        have HXF := hid hxf
        have HXL := hid hxl
        obtain ⟨FN, hFN⟩ : ∃ n, n = (flatL rs).length := ⟨_, rfl⟩
        rw [← hFN] at x0 HXF
        simp only [List.length_nil] at x1 HXL
        have od : Only [] wr wr.drew := (Only.refl [] wr).drew
        clear hb hKy hxf hxl hFN
        go_wp2_with fail
        go_region_held3 (fun V => (V.cell? ⟨b, o + j * 7 + 1, none⟩ = some (.int .i64 keep) ∧ V.cell? ⟨b, o + j * 7 + 3, none⟩ = some (.int .u8 (torn.toNat : Int))) ∧ V.cell? ⟨y, 4, none⟩ = some (.pointer (some ⟨x, 0, none⟩)) ∧ V.cell? ⟨x, 0, none⟩ = some (.slice fa FN fc) ∧ V.cell? ⟨x, 1, none⟩ = some (.slice ja 0 jc))
          (first | exact ⟨⟨c1, c3⟩, cy4, x0, x1⟩ | exact ⟨⟨od.cell c1 (by simp), od.cell c3 (by simp)⟩, od.cell cy4 (by simp), od.cell x0 (by simp), od.cell x1 (by simp)⟩ | exact ⟨⟨p5.cell c1 (by simp), p5.cell c3 (by simp)⟩, p5.cell cy4 (by simp), p5.cell x0 (by simp), p5.cell x1 (by simp)⟩ | exact ⟨⟨p6.cell c1 (by simp), p6.cell c3 (by simp)⟩, p6.cell cy4 (by simp), p6.cell x0 (by simp), p6.cell x1 (by simp)⟩ | exact ⟨⟨p7.cell c1 (by simp), p7.cell c3 (by simp)⟩, p7.cell cy4 (by simp), p7.cell x0 (by simp), p7.cell x1 (by simp)⟩ | exact ⟨⟨p8.cell c1 (by simp), p8.cell c3 (by simp)⟩, p8.cell cy4 (by simp), p8.cell x0 (by simp), p8.cell x1 (by simp)⟩ | exact ⟨⟨p9.cell c1 (by simp), p9.cell c3 (by simp)⟩, p9.cell cy4 (by simp), p9.cell x0 (by simp), p9.cell x1 (by simp)⟩)
          (first
          | (go_at_call 19; refine (dk.out _ (hbK.out.ky.kept0 od)).mono ?_; rintro e w5 ⟨fv, lv, rfl, hf5, hl5, q5⟩; have p5 : Only [] wr w5 := od.trans0 q5)
          | (go_at_call 27; refine (cr.out _ _ _ (hf5.bs (by omega)) (hl5.bs (by simp))).mono ?_; rintro e w6 ⟨fv6, rfl, hB6, q6⟩; have p6 : Only [] wr w6 := p5.trans0 q6)
          | (go_at_call 11; refine (re.out _ (hbK.out.only.trans0 p6) _ hB6).mono ?_; rintro e w7 ⟨k7, B7, rfl, K7, b7, q7⟩; have p7 : Only [] wr w7 := p6.trans0 q7)
          | (go_at_call 28; refine (rcr.out _ _ _ (HXF.out.kept0 p7) (HXL.out.kept0 p7)).mono ?_; rintro e w8 ⟨fv8, rfl, hB8, q8⟩; have p8 : Only [] wr w8 := p7.trans0 q8)
          | (go_at_call 21; refine (rre.out _ (hbK.out.only.trans0 p8) _ hB8).mono ?_; rintro e w9 ⟨y9, C9, rfl, K9, c9, q9⟩; have p9 : Only [] wr w9 := p8.trans0 q9))
        have s8 := p8.size
        have h7 := K7.only.size
        have hb9 : Both w w9 k7 y9 rs B7 C9 := ⟨(K7.kb.kept0 q8).kept0 q9, K9, K7.new, fun i hi => by have := c9 i hi; have := q8.size; omega, fun i hi hm => by have h1 := K7.kb.lt i hi; have h2 := c9 i hm; have h3 := q8.size; omega, (K7.only.trans0 q8).trans0 q9⟩
        have dd := hdo.out w9 k7 y9 B7 C9 hb9
        have l1 := p9.cell c0 (by simp)
        have l2 := p9.cell c1 (by simp)
        have l3 := p9.cell c2 (by simp)
        have l4 := p9.cell c3 (by simp)
        have l5 := p9.cell c4 (by simp)
        have l6 := p9.cell c5 (by simp)
        have l7 := p9.cell c6 (by simp)
        rw [hkv.out] at dd
        obtain ⟨RS, hRS⟩ : ∃ RS, RS = doR rs ⟨4, keep, a, torn, share, slot, L⟩ := ⟨_, rfl⟩
        rw [← hRS] at dd
        replace dd := hid dd
        clear hRS hb9 K7 K9 b7 c9 dk cr re rcr rre hbK HXF HXL hdo hkv
        go_wp2_with fail
        refine dd.out.mono ?_
        rintro e w10 ⟨rfl, B5, C5, hb5, f5⟩
        have sm := hid (same20_any w w10 k7 y9 _ B5 C5 _ hb5 f5 (by omega))
        have HB5 := hid hb5
        clear dd hb5
        go_wp2_with fail
        refine sm.out.mono ?_
        rintro e w11 ⟨rfl, o11⟩
        have hb11 := HB5.out.kept0 o11
        clear sm
        go_wp2
        go_roundw
        case rel => exact ⟨j + 1, k7, y9, _, B5, C5, by omega, rfl, rfl, by go_num, hb11, f5⟩
        case measure => simp [intOf]; omega
      · have dd := hdo.out wr k y B C hb
        rw [hkv.out] at dd
        obtain ⟨RS, hRS⟩ : ∃ RS, RS = doR rs ⟨kind, keep, a, torn, share, slot, L⟩ := ⟨_, rfl⟩
        rw [← hRS] at dd
        replace dd := hid dd
        clear hRS hb hdo hkv
        go_wp2_with fail
        refine dd.out.mono ?_
        rintro e w10 ⟨rfl, B5, C5, hb5, f5⟩
        have sm := hid (same20_any w w10 k y _ B5 C5 _ hb5 f5 (by omega))
        have HB5 := hid hb5
        clear dd hb5
        go_wp2_with fail
        refine sm.out.mono ?_
        rintro e w11 ⟨rfl, o11⟩
        have hb11 := HB5.out.kept0 o11
        clear sm
        go_wp2
        go_roundw
        case rel => exact ⟨j + 1, k, y, _, B5, C5, by omega, rfl, rfl, by go_num, hb11, f5⟩
        case measure => simp [intOf]; omega
    · obtain rfl : j = l.length := by omega
      have hfin := hid hb.only
      clear hb
      go_wp2
      go_ret
      exact ⟨rfl, hfin.out⟩

set_option maxRecDepth 20000 in
set_option maxHeartbeats 1600000 in
theorem keyperPlays_walk (w : World) {v : Value} {l : List KOp} (hl : KOps w v l) :
    Calls Try.prog 7 #[v] w fun e w' => e = .returned (.bool true) ∧ Only [] w w' := by
  cases hf : fewK l with
  | true => exact keyperPlays_mid w hl hf
  | false =>
    obtain ⟨va, vc, rfl, h1, h2, h3⟩ := hl.form
    have hfw := fun W (o : Only [] w W) => few20_any _ l W (hl.kept0 o)
    rw [hf] at hfw
    replace hfw := hid hfw
    clear hf
    go_enter Try.func7, Try.ntmps7
    go_wp2_with fail
    refine (awake20_any _).mono ?_
    rintro e w1 ⟨rfl, o1⟩
    go_wp2_with fail
    refine (hfw.out _ o1).mono ?_
    rintro e w' ⟨rfl, h9⟩
    obtain rfl : w1 = w' := h9.symm
    clear h9
    go_wp2_with fail
    refine (awake20_any _).mono ?_
    rintro e w2 ⟨rfl, o2⟩
    go_wp2
    go_ret
    exact ⟨rfl, o1.trans0 o2⟩
end Go.Proofs.Ytnlmeaijnfjakaa.Sh
