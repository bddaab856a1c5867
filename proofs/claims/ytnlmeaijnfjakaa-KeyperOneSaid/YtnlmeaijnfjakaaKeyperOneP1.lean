/- Texts of this proof, merged: LawKeyperOne. -/
import Derived.Test.YtnlmeaijnfjakaaZ7
/- A keyper tells shares for one order of a slot alone: the law's walk. -/
namespace Go.Proofs.Ytnlmeaijnfjakaa.Sh
set_option linter.unusedSimpArgs false
set_option linter.unusedVariables false
open Go Go.RowKit

set_option maxRecDepth 20000 in
set_option maxHeartbeats 6400000 in
theorem keyperOne_mid (w : World) {v : Value} {l : List KOp} (hl : KOps w v l) (hf : fewK l = true) :
    Calls Try.prog 6 #[v] w fun e w' => e = .returned (.bool true) ∧ Only [] w w' := by
  obtain ⟨va, vc, rfl, h1, h2, h3⟩ := hl.form
  obtain ⟨hfe, hl60⟩ := fewK_ok hf
  replace hfe := hid hfe
  have hok := hid hl.ok
  have hn0 : ∀ W : World, Bs W (.slice none 0 0) [] := fun W => Bs.empty (by unfold maxLen; omega)
  have hop := fun W (o : Only [] w W) => ky_open w W o _ _ [] [] (hn0 W) (hn0 W) (by simp)
  rw [show allL ([] ++ []) = ([], 0) from allL_bad _ (by simp [firstL])] at hop
  replace hop := hid hop
  have hfw := fun W (o : Only [] w W) => few20_any _ l W (hl.kept0 o)
  rw [hf] at hfw
  replace hfw := hid hfw
  have hmm := @run_makeMap Try.prog
  clear hn0 hf
  go_enter Try.func6, Try.ntmps6
  go_wp2_with fail
  refine (awake20_any _).mono ?_
  rintro e w1 ⟨rfl, o1⟩
  go_wp2_with fail
  refine (hfw.out _ o1).mono ?_
  rintro e w' ⟨rfl, h9⟩
  obtain rfl : w1 = w' := h9.symm
  clear h9
  go_wp2_with fail
  refine (hop.out _ o1).mono ?_
  rintro e w2 ⟨k, B2, rfl, k2, b2, o2⟩
  go_wp2_with fail
  obtain ⟨w3, hw3⟩ : ∃ w3, w3 = w2.alloc (.map #[] 0) := ⟨_, rfl⟩
  have o3 : Only [] w2 w3 := by rw [hw3]; exact (Only.refl [] w2).alloc _
  have hM3 : Mp Try.prog 30 w3 w2.heap.size [] := by rw [hw3]; exact mp_made _ _ w2
  have k3 := k2.kept0 o3
  rw [← hw3]
  have hs12 := (o1.trans0 o2).size
  have L2 := k2.kb.lt
  obtain ⟨mb, hmb⟩ : ∃ mb, mb = w2.heap.size := ⟨_, rfl⟩
  rw [← hmb] at hM3 ⊢
  have hmB : mb ∉ B2 := fun hm => by have := L2 mb hm; omega
  have hmw : w.heap.size ≤ mb := by omega
  clear hmm hw3 k2 b2 hmb L2 hs12 hfw hop
  go_loopw [3, 5, 6, 28] (fun kv last any i wr => ∃ (n k : Nat) (rs : List (List UInt8)) (B : List Nat) (os : List (Nat × List UInt8)), n ≤ l.length ∧ kv = .pointer (some ⟨k, 0, none⟩) ∧ i = .int .i64 n ∧ last = .int .u64 ((openK rs).slot : Int) ∧ any = .bool (openK rs).told ∧ Ky w wr k rs B ∧ Few n rs ∧ Mp Try.prog 30 wr mb (os.map encO) ∧ OrdI (openK rs) os ∧ mb ∉ B) (fun _ _ _ i _ => l.length - (intOf i).toNat)
  case atStart => exact ⟨0, k, [], B2, [], Nat.zero_le _, rfl, rfl, rfl, rfl, k3, Few.nil, hM3, ⟨by simp, by simp⟩, hmB⟩
  case round =>
    obtain ⟨n, k, rs, B, os, hn, rfl, rfl, rfl, rfl, hk, hfew, hM, hO, hmB⟩ := hrel
    by_cases hlt : n < l.length
    · obtain ⟨b, o, rfl, hel⟩ := hl.at n hlt
      have hoks := hok.out _ (List.getElem_mem hlt)
      have hsml := hfe.out _ (List.getElem_mem hlt)
      obtain ⟨O, hO'⟩ : ∃ O, O = l[n] := ⟨_, rfl⟩
      rw [← hO'] at hel hoks hsml
      clear hO'
      obtain ⟨kind, keep, a, torn, share, slot, L⟩ := O
      obtain ⟨⟨c0, c1, c2, c3, c5⟩, ⟨x4, c4, h4⟩, x6, c6, h6⟩ := hel
      simp only at c0 c1 c2 c3 c4 c5 c6 h4 h6 hsml
      obtain ⟨sa, sc, rfl⟩ := bs_form h4
      obtain ⟨ga, gc, rfl⟩ := bs_form h6
      have hLw := hid h6
      replace c0 := hk.only.cell c0 (by simp)
      replace c1 := hk.only.cell c1 (by simp)
      replace c2 := hk.only.cell c2 (by simp)
      replace c3 := hk.only.cell c3 (by simp)
      replace c4 := hk.only.cell c4 (by simp)
      replace c5 := hk.only.cell c5 (by simp)
      replace c6 := hk.only.cell c6 (by simp)
      replace h4 := h4.kept0 hk.only
      replace h6 := h6.kept0 hk.only
      have hslot : slot < 18446744073709551616 := hoks.2.2
      have hkeep : -9223372036854775808 ≤ keep ∧ keep ≤ 9223372036854775807 := hoks.2.1
      obtain ⟨w4, hw4⟩ : ∃ w4, w4 = wr.alloc (Obj.cells #[.int .i64 kind, .int .i64 keep, .int .u8 (a.toNat : Int), .int .u8 (torn.toNat : Int), .slice sa share.length sc, .int .u64 (slot : Int), .slice ga L.length gc] 32) := ⟨_, rfl⟩
      have o4 : Only [] wr w4 := by rw [hw4]; exact (Only.refl [] wr).alloc _
      obtain ⟨ob, hob⟩ : ∃ ob, ob = wr.heap.size := ⟨_, rfl⟩
      have d1 : w4.cell? ⟨ob, 1, none⟩ = some (.int .i64 keep) := by rw [hw4, hob]; simp [go_sem]
      have d2 : w4.cell? ⟨ob, 2, none⟩ = some (.int .u8 (a.toNat : Int)) := by rw [hw4, hob]; simp [go_sem]
      have d3 : w4.cell? ⟨ob, 3, none⟩ = some (.int .u8 (torn.toNat : Int)) := by rw [hw4, hob]; simp [go_sem]
      have d4 : w4.cell? ⟨ob, 4, none⟩ = some (.slice sa share.length sc) := by rw [hw4, hob]; simp [go_sem]
      have d5 : w4.cell? ⟨ob, 5, none⟩ = some (.int .u64 (slot : Int)) := by rw [hw4, hob]; simp [go_sem]
      have d6 : w4.cell? ⟨ob, 6, none⟩ = some (.slice ga L.length gc) := by rw [hw4, hob]; simp [go_sem]
      have s4 : w4.heap.size = ob + 1 := by rw [hw4, hob]; simp
      have hob1 : wr.heap.size ≤ ob := by omega
      have hob2 : ob ≤ wr.heap.size := by omega
      have hBl := hid hk.kb.lt
      have hobB : ob ∉ B := fun hm => by have := hBl.out ob hm; omega
      have hmlt := hM.lt
      have hwb := hk.only.size
      have k4 := hk.kept0 o4
      have hM4 := hM.kept0 o4
      have hs4 := h4.kept0 o4
      have hL4 := h6.kept0 o4
      have od : Only [] w4 w4.drew := (Only.refl [] w4).drew
      obtain ⟨S0, hS0⟩ : ∃ S0, S0 = (openK rs).slot := ⟨_, rfl⟩
      obtain ⟨T0, hT0⟩ : ∃ T0, T0 = (openK rs).told := ⟨_, rfl⟩
      rw [← hS0, ← hT0]
      replace hS0 := hid hS0
      replace hT0 := hid hT0
      replace hO := hid hO
      have hn60 : n ≤ 60 := by omega
      clear hk hM h4 h6 o4 hoks
      by_cases e1 : kind = 1
      · subst e1
        have kp := hid (fun W (h : Ky w W k rs B) (hb : Bs W (.slice sa share.length sc) share) => ky_keep w W k rs B n h hfew (by omega) (nm a) (nm_len a) _ share hb (by omega))
        have eS := hid (show (openK (keepR rs (nm a) share)).slot = S0 by rw [openK_keepR _ _ _ (nm_len a), (keepK_rest _ _ _).1, ← hS0.out])
        have eT := hid (show (openK (keepR rs (nm a) share)).told = T0 by rw [openK_keepR _ _ _ (nm_len a), (keepK_rest _ _ _).2.1, ← hT0.out])
        have oE := hid (show OrdI (openK (keepR rs (nm a) share)) os by
          refine hO.out.same ?_ ?_ ?_ <;> rw [openK_keepR _ _ _ (nm_len a)]
          · exact (keepK_rest _ _ _).1
          · exact (keepK_rest _ _ _).2.1
          · exact (keepK_rest _ _ _).2.2)
        have na := hid (fun W => name_any W a)
        obtain ⟨R', hR'⟩ : ∃ R', R' = keepR rs (nm a) share := ⟨_, rfl⟩
        rw [← hR'] at kp eS eT oE
        clear hR'
        cases T0
        all_goals
          go_wp2_with fail
          rw [← hw4, ← hob]
          clear hw4 hob
          go_region_held3 (fun W => W.cell? ⟨ob, 2, none⟩ = some (.int .u8 (a.toNat : Int)) ∧ W.cell? ⟨ob, 4, none⟩ = some (.slice sa share.length sc))
            (first | exact ⟨d2, d4⟩ | exact ⟨od.cell d2 (by simp), od.cell d4 (by simp)⟩ | exact ⟨p5.cell d2 (by simp), p5.cell d4 (by simp)⟩ | exact ⟨o6.cell (p5.cell d2 (by simp)) hobB, o6.cell (p5.cell d4 (by simp)) hobB⟩)
            (first
            | (go_at_call 13; refine (na.out _).mono ?_; rintro e w5 ⟨rfl, q5⟩; have p5 : Only [] w4 w5 := od.trans0 q5)
            | (go_at_call 14; refine (kp.out _ (k4.kept0 p5) (hs4.kept0 p5)).mono ?_; rintro e w6 ⟨rfl, B6, k6, b6, o6, f6⟩))
          have p5s := p5.size
          have nbE : mb ∉ B6 := fun hm => by
            rcases b6 mb hm with h | h
            · exact hmB h
            · omega
          have kE := k6
          have mE := (hM4.kept0 p5).kept o6 hmB
          have fE := f6
          clear kp k6 b6 k4 hM4 hs4 hL4
          have ms := mslot_any w6 k R' B6 kE.kb
          rw [eS.out, eT.out] at ms
          replace ms := hid ms
          go_wp2_with fail
          refine ms.out.mono ?_
          rintro e w9 ⟨rfl, q9⟩
          have kE9 := kE.kept0 q9
          have mE9 := mE.kept0 q9
          clear ms kE mE
          go_wp2
          go_roundw
          case rel => exact ⟨n + 1, k, R', B6, os, by omega, rfl, by go_num, by rw [eS.out], by rw [eT.out], kE9, fE, mE9, oE.out, nbE⟩
          case measure => simp [intOf]; omega
      by_cases e2 : kind = 2
      · subst e2
        obtain ⟨ids, hids⟩ : ∃ ids, ids = L.map nm := ⟨_, rfl⟩
        have hidl : ∀ d ∈ ids, d.length = 32 := by
          rw [hids]
          intro d hd
          obtain ⟨y, _, rfl⟩ := List.mem_map.1 hd
          exact nm_len y
        have hil : ids.length ≤ 60 := by rw [hids]; simp; omega
        have cm := hid (fun W (h : Ky w W k rs B) u (hu : Dgs W u ids) hB => ky_commit w W k rs B n h hfew (by omega) slot hslot u ids hu hB)
        have na := fun W (hb : Bs W (.slice ga L.length gc) L) => names_any W _ L hb (by omega)
        simp only [← hids] at na
        replace na := hid na
        obtain ⟨C, hC⟩ : ∃ C, C = (commitK (openK rs) slot ids).1.2 := ⟨_, rfl⟩
        rw [← hC] at cm
        have hopn := openK_commitR rs slot ids hslot hidl
        obtain ⟨R', hR'⟩ : ∃ R', R' = mcommitR rs slot ids := ⟨_, rfl⟩
        obtain ⟨ML, hML⟩ : ∃ ML, ML = mcommitL rs slot ids := ⟨_, rfl⟩
        have hMLl : ML.length ≤ 60 := by
          rw [hML]
          unfold mcommitL
          split
          · simp [outL]; omega
          · simp
        rw [← hR'] at hopn
        simp only [← hR', ← hML] at cm
        clear hR' hML
        by_cases hC0 : C = 0
        · subst hC0
          have hcomm := commitK_ok hC.symm
          have eS := hid (show (openK R').slot = slot by
            rw [hopn]
            rcases hcomm.2 with ⟨_, h2, _, h4⟩ | ⟨_, h4⟩
            · rw [h4, h2]
            · rw [h4])
          have eT := hid (show (openK R').told = true by
            rw [hopn]
            rcases hcomm.2 with ⟨h1, _, _, h4⟩ | ⟨_, h4⟩
            · rw [h4, h1]
            · rw [h4])
          obtain ⟨st, hst⟩ : ∃ st, st = strB L := ⟨_, rfl⟩
          have cv := fun W (hb : Bs W (.slice ga L.length gc) L) => conv_bs W _ L hb
          simp only [← hst] at cv
          replace cv := hid cv
          have hnes : ∀ W, (binOp .neq 9 (.string st) (.string st)).run Try.prog W = .ok (.bool false) W := fun W => by simp [go_sem]
          replace hids := hid hids
          replace hst := hid hst
          replace hC := hid hC
          replace hopn := hid hopn
          clear hcomm
          go_wp2_with fail
          rw [← hw4, ← hob]
          clear hw4 hob
          go_region_held3 (fun W => W.cell? ⟨ob, 5, none⟩ = some (.int .u64 (slot : Int)) ∧ W.cell? ⟨ob, 6, none⟩ = some (.slice ga L.length gc))
            (first | exact ⟨d5, d6⟩ | exact ⟨od.cell d5 (by simp), od.cell d6 (by simp)⟩ | exact ⟨p5.cell d5 (by simp), p5.cell d6 (by simp)⟩ | exact ⟨o6.cell (p5.cell d5 (by simp)) hobB, o6.cell (p5.cell d6 (by simp)) hobB⟩)
            (first
            | (go_at_call 16; refine (na.out _ (hL4.kept0 od)).mono ?_; rintro e w5 ⟨u5, rfl, hu5, q5⟩; have p5 : Only [] w4 w5 := od.trans0 q5)
            | (go_at_call 15; refine (cm.out _ (k4.kept0 p5) _ (hu5.dgs (by omega)) (fun i hi => .inr (fun hm => by have h1 := (hu5.1.lt i hi).1; have h2 := hBl.out i hm; have h3 := od.size; omega))).mono ?_; rintro e w6 ⟨ov, V, B6, rfl, k6, hov, v1, v2, v3, o6, f6⟩))
          obtain ⟨oa, oc, rfl, _⟩ := (hov.bss (by omega)).form
          have p5s := p5.size
          have o6s := o6.size
          have nbE : mb ∉ B6 := fun hm => by
            rcases (v2 mb hm).1 with h | h
            · exact hmB h
            · omega
          have x5 := o6.cell (p5.cell d5 (by simp)) hobB
          have x6 := o6.cell (p5.cell d6 (by simp)) hobB
          have hM6 := (hM4.kept0 p5).kept o6 hmB
          have hL6 := hLw.out.kept0 k6.only
          obtain ⟨sv, ok, lk, hok, hnlt, hput⟩ := hO.out.step (m := openK rs) hM6 slot hslot L (by rw [← hids.out]; exact hC.out.symm)
          rw [← hids.out, ← hopn.out, ← hst.out] at hput
          rw [← hT0.out, ← hS0.out] at hnlt
          rw [← hT0.out, ← hst.out] at hok
          obtain ⟨w7, os', hp7, hM7, hO7, q7, q7s⟩ := hput w6 (Only.refl _ _)
          have lk6 := lk w6 (Only.refl _ _)
          have cv6 := cv.out w6 hL6
          have hobm : ob ≠ mb := by omega
          have y5 := q7.cell x5 (by simpa using hobm)
          have kE := k6.away q7 (fun i hi => by rw [List.mem_singleton.1 hi]; exact ⟨nbE, hmw⟩)
          have mE := hM7
          have fE := f6
          have oE := hid hO7
          clear hput lk k6 hov v2 hM6 hM4 hL4 hL6 hs4 k4 cm na hM7 hO7
          have hlast : T0 = true → ¬ ((slot : Int) < (S0 : Int)) := fun ht h9 => hnlt ⟨ht, by omega⟩
          cases ok
          case' true =>
            obtain ⟨rfl, rfl⟩ := hok rfl
            have hla := hlast rfl
            clear hok hlast hnlt
          case' false =>
            cases T0
            case' true => have hla := hlast rfl
            all_goals clear hok hlast hnlt
          all_goals
            go_wp2_with (refine wpList_put (by rfl) _ _ _ (by rfl) (by rfl) (by rfl) (by rfl) ⟨_, hp7, ?_⟩)
            have ms := mslot_any w7 k R' B6 kE.kb
            rw [eS.out, eT.out] at ms
            replace ms := hid ms
            refine ms.out.mono ?_
            rintro e w9 ⟨rfl, q9⟩
            have kE9 := kE.kept0 q9
            have mE9 := mE.kept0 q9
            clear ms kE mE
            go_wp2
            go_roundw
            case rel => exact ⟨n + 1, k, R', B6, os', by omega, rfl, by go_num, by rw [eS.out], by rw [eT.out], kE9, fE, mE9, oE.out, nbE⟩
            case measure => simp [intOf]; omega
        · have hCz : ¬ ((C : Int) = 0) := by omega
          have hRb := hid (show openK R' = openK rs by rw [hopn]; exact commitK_bad (by rw [← hC]; exact hC0))
          clear hopn hids hC
          go_wp2_with fail
          rw [← hw4, ← hob]
          clear hw4 hob
          go_region_held3 (fun W => W.cell? ⟨ob, 5, none⟩ = some (.int .u64 (slot : Int)) ∧ W.cell? ⟨ob, 6, none⟩ = some (.slice ga L.length gc))
            (first | exact ⟨d5, d6⟩ | exact ⟨od.cell d5 (by simp), od.cell d6 (by simp)⟩ | exact ⟨p5.cell d5 (by simp), p5.cell d6 (by simp)⟩ | exact ⟨o6.cell (p5.cell d5 (by simp)) hobB, o6.cell (p5.cell d6 (by simp)) hobB⟩)
            (first
            | (go_at_call 16; refine (na.out _ (hL4.kept0 od)).mono ?_; rintro e w5 ⟨u5, rfl, hu5, q5⟩; have p5 : Only [] w4 w5 := od.trans0 q5)
            | (go_at_call 15; refine (cm.out _ (k4.kept0 p5) _ (hu5.dgs (by omega)) (fun i hi => .inr (fun hm => by have h1 := (hu5.1.lt i hi).1; have h2 := hBl.out i hm; have h3 := od.size; omega))).mono ?_; rintro e w6 ⟨ov, V, B6, rfl, k6, hov, v1, v2, v3, o6, f6⟩))
          obtain ⟨oa, oc, rfl, _⟩ := (hov.bss (by omega)).form
          have p5s := p5.size
          have o6s := o6.size
          have nbE : mb ∉ B6 := fun hm => by
            rcases (v2 mb hm).1 with h | h
            · exact hmB h
            · omega
          have hM6 := (hM4.kept0 p5).kept o6 hmB
          have oE := hid (show OrdI (openK R') os by rw [hRb.out]; exact hO.out)
          have eS := hid (show (openK R').slot = S0 by rw [hRb.out]; exact hS0.out.symm)
          have eT := hid (show (openK R').told = T0 by rw [hRb.out]; exact hT0.out.symm)
          clear hov v2 hM4 hL4 hs4 k4 cm na
          go_wp2
          go_roundw
          case rel => exact ⟨n + 1, k, R', B6, os, by omega, rfl, by go_num, by rw [eS.out], by rw [eT.out], k6, f6, hM6, oE.out, nbE⟩
          case measure => simp [intOf]; omega
      by_cases e3 : kind = 3
      · subst e3
        obtain ⟨ids, hids⟩ : ∃ ids, ids = L.map nm := ⟨_, rfl⟩
        have hidl : ∀ d ∈ ids, d.length = 32 := by
          rw [hids]
          intro d hd
          obtain ⟨y, _, rfl⟩ := List.mem_map.1 hd
          exact nm_len y
        have hil : ids.length ≤ 60 := by rw [hids]; simp; omega
        have fm := hid (fun W (h : Ky w W k rs B) u (hu : Dgs W u ids) => ky_forget w W k rs B n h hfew (by omega) u ids hu)
        have na := fun W (hb : Bs W (.slice ga L.length gc) L) => names_any W _ L hb (by omega)
        simp only [← hids] at na
        replace na := hid na
        have hr := forget_rest rs ids hidl
        obtain ⟨R', hR'⟩ : ∃ R', R' = (mforgetE rs ids).2 := ⟨_, rfl⟩
        obtain ⟨E1, hE1⟩ : ∃ E1, E1 = (mforgetE rs ids).1.1 := ⟨_, rfl⟩
        obtain ⟨E2, hE2⟩ : ∃ E2, E2 = (mforgetE rs ids).1.2 := ⟨_, rfl⟩
        rw [← hR'] at hr
        simp only [← hR', ← hE1, ← hE2] at fm
        have eS := hid (show (openK R').slot = S0 by rw [hr.1]; exact hS0.out.symm)
        have eT := hid (show (openK R').told = T0 by rw [hr.2.1]; exact hT0.out.symm)
        have oE := hid (show OrdI (openK R') os from hO.out.same hr.1 hr.2.1 hr.2.2)
        clear hR' hE1 hE2 hids hr
        cases T0
        all_goals
          go_wp2_with fail
          rw [← hw4, ← hob]
          clear hw4 hob
          refine (na.out _ hL4).mono ?_
          rintro e w5 ⟨u5, rfl, hu5, q5⟩
          have p5s := q5.size
          go_wp2_with fail
          refine (fm.out _ (k4.kept0 q5) _ (hu5.dgs (by omega))).mono ?_
          rintro e w6 ⟨rfl, B6, k6, b6, o6, f6⟩
          have nbE : mb ∉ B6 := fun hm => by
            rcases b6 mb hm with h | h
            · exact hmB h
            · omega
          have kE := k6
          have mE := (hM4.kept0 q5).kept o6 hmB
          have fE := f6
          clear fm na k6 b6 k4 hM4 hs4 hL4
          have ms := mslot_any w6 k R' B6 kE.kb
          rw [eS.out, eT.out] at ms
          replace ms := hid ms
          go_wp2_with fail
          refine ms.out.mono ?_
          rintro e w9 ⟨rfl, q9⟩
          have kE9 := kE.kept0 q9
          have mE9 := mE.kept0 q9
          clear ms kE mE
          go_wp2
          go_roundw
          case rel => exact ⟨n + 1, k, R', B6, os, by omega, rfl, by go_num, by rw [eS.out], by rw [eT.out], kE9, fE, mE9, oE.out, nbE⟩
          case measure => simp [intOf]; omega
      by_cases e4 : kind = 4
      · subst e4
        have di := hid (fun W (h : Ky w W k rs B) => ky_disk w W k rs B n h hfew (by omega))
        have cr := hid (fun W fv lv (hf : Bs W fv (flatL rs)) (hl : Bs W lv []) => ky_crash W rs n hfew (by omega) fv lv hf hl keep hkeep torn)
        have re := hid (fun W (ho : Only [] w W) fv (hf : Bs W fv (flatL rs)) => ky_reopen w W rs n ho hfew (by omega) k4.kb.one fv hf)
        have fl := hfew.1
        have eS := hid hS0.out.symm
        have eT := hid hT0.out.symm
        cases T0
        all_goals
          go_wp2_with fail
          rw [← hw4, ← hob]
          clear hw4 hob
          go_region_held3 (fun W => W.cell? ⟨ob, 1, none⟩ = some (.int .i64 keep) ∧ W.cell? ⟨ob, 3, none⟩ = some (.int .u8 (torn.toNat : Int)))
            (first | exact ⟨d1, d3⟩ | exact ⟨od.cell d1 (by simp), od.cell d3 (by simp)⟩ | exact ⟨p5.cell d1 (by simp), p5.cell d3 (by simp)⟩ | exact ⟨p6.cell d1 (by simp), p6.cell d3 (by simp)⟩ | exact ⟨p7.cell d1 (by simp), p7.cell d3 (by simp)⟩)
            (first
            | (go_at_call 19; refine (di.out _ (k4.kept0 od)).mono ?_; rintro e w5 ⟨fv, lv, rfl, hf5, hl5, q5⟩; have p5 : Only [] w4 w5 := od.trans0 q5)
            | (go_at_call 27; refine (cr.out _ _ _ (hf5.bs (by omega)) (hl5.bs (by simp))).mono ?_; rintro e w6 ⟨fv6, rfl, hB6, q6⟩; have p6 : Only [] w4 w6 := p5.trans0 q6)
            | (go_at_call 11; refine (re.out _ (k4.only.trans0 p6) _ hB6).mono ?_; rintro e w7 ⟨k7, B7, rfl, kE, b7, q7⟩; have p7 : Only [] w4 w7 := p6.trans0 q7))
          have p6s := p6.size
          have nbE : mb ∉ B7 := fun hm => by have := b7 mb hm; omega
          have mE := hM4.kept0 p7
          have fE := hfew.same
          have oE := hO
          clear di cr re b7 k4 hM4 hs4 hL4
          have ms := mslot_any w7 k7 rs B7 kE.kb
          rw [eS.out, eT.out] at ms
          replace ms := hid ms
          go_wp2_with fail
          refine ms.out.mono ?_
          rintro e w9 ⟨rfl, q9⟩
          have kE9 := kE.kept0 q9
          have mE9 := mE.kept0 q9
          clear ms kE mE
          go_wp2
          go_roundw
          case rel => exact ⟨n + 1, k7, rs, B7, os, by omega, rfl, by go_num, by rw [eS.out], by rw [eT.out], kE9, fE, mE9, oE.out, nbE⟩
          case measure => simp [intOf]; omega
      · have eS := hid hS0.out.symm
        have eT := hid hT0.out.symm
        have kE := k4
        have mE := hM4
        have fE := hfew.same
        have oE := hO
        have nbE := hmB
        clear k4 hM4 hs4 hL4
        cases T0
        all_goals
          have ms := mslot_any w4 k rs B kE.kb
          rw [eS.out, eT.out] at ms
          replace ms := hid ms
          go_wp2_with fail
          rw [← hw4]
          clear hw4 hob
          refine ms.out.mono ?_
          rintro e w9 ⟨rfl, q9⟩
          have kE9 := kE.kept0 q9
          have mE9 := mE.kept0 q9
          clear ms kE mE
          go_wp2
          go_roundw
          case rel => exact ⟨n + 1, k, rs, B, os, by omega, rfl, by go_num, by rw [eS.out], by rw [eT.out], kE9, fE, mE9, oE.out, nbE⟩
          case measure => simp [intOf]; omega
    · obtain rfl : n = l.length := by omega
      have hfin := hid hk.only
      clear hk hM hO hfew
      go_wp2
      go_ret
      exact ⟨rfl, hfin.out⟩

set_option maxRecDepth 20000 in
set_option maxHeartbeats 1600000 in
theorem keyperOne_walk (w : World) {v : Value} {l : List KOp} (hl : KOps w v l) :
    Calls Try.prog 6 #[v] w fun e w' => e = .returned (.bool true) ∧ Only [] w w' := by
  cases hf : fewK l with
  | true => exact keyperOne_mid w hl hf
  | false =>
    obtain ⟨va, vc, rfl, h1, h2, h3⟩ := hl.form
    have hfw := fun W (o : Only [] w W) => few20_any _ l W (hl.kept0 o)
    rw [hf] at hfw
    replace hfw := hid hfw
    clear hf
    go_enter Try.func6, Try.ntmps6
    go_wp2_with fail
    refine (awake20_any _).mono ?_
    rintro e w1 ⟨rfl, o1⟩
    go_wp2_with fail
    refine (hfw.out _ o1).mono ?_
    rintro e w' ⟨rfl, h9⟩
    obtain rfl : w1 = w' := h9.symm
    clear h9
    go_wp2_with fail
    refine (awake20_any _).mono ?_
    rintro e w2 ⟨rfl, o2⟩
    go_wp2
    go_ret
    exact ⟨rfl, o1.trans0 o2⟩
end Go.Proofs.Ytnlmeaijnfjakaa.Sh
