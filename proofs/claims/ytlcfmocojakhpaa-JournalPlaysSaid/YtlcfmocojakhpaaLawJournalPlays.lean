/- Whatever is appended, synced, compacted, and wherever it crashes, each answer, the records, and the disk are the document's: the law's walk. (Printed by gen_jplays.py.) -/
import Derived.Test.YtlcfmocojakhpaaReadJ
import Derived.Test.YtlcfmocojakhpaaLists
import Derived.Test.YtlcfmocojakhpaaJPlay5
namespace Go.Proofs.Ytlcfmocojakhpaa.Sh
open Go Go.RowKit


set_option maxRecDepth 20000 in
set_option maxHeartbeats 12800000 in
theorem journalPlays_walk (w : World) {v u : Value} {D : List UInt8 × List UInt8} {ops : List JOp} (hv : DskRep w v D) (hu : JOps w u ops) :
    Calls Try.prog 6 #[v, u] w fun e w' => e = .returned (.bool true) ∧ Only [] w w' := by
  obtain ⟨fv, lv, rfl, hf, hl⟩ := hv
  obtain ⟨f0, l0⟩ := D
  simp only at hf hl
  obtain ⟨fa, fc, rfl⟩ := bs_form hf
  obtain ⟨la, lc, rfl⟩ := bs_form hl
  obtain ⟨oa, ocap, rfl, u1, u2, u3⟩ := hu.form
  obtain ⟨w1, hw1⟩ : ∃ w1, w1 = w.alloc (Obj.cells #[.slice fa f0.length fc, .slice la l0.length lc] 24) := ⟨_, rfl⟩
  have o1 : Only [] w w1 := by rw [hw1]; exact (Only.refl [] w).alloc _
  have c0 : w1.cell? ⟨w.heap.size, 0, none⟩ = some (.slice fa f0.length fc) := by rw [hw1]; simp [go_sem]
  have c1 : w1.cell? ⟨w.heap.size, 1, none⟩ = some (.slice la l0.length lc) := by rw [hw1]; simp [go_sem]
  obtain ⟨x, hx⟩ : ∃ x, x = fewJ ops := ⟨_, rfl⟩
  have hfew := fun W (h : JOps W (.slice oa ops.length ocap) ops) => few12_any _ ops W h
  simp only [← hx] at hfew
  replace hfew := hid hfew
  have hu1 := hu.kept0 o1
  by_cases hbad : x = false ∨ 100 < f0.length ∨ 100 < l0.length
  · cases x with
    | false =>
      clear hbad hx
      go_enter Try.func6, Try.ntmps6
      go_wp2_with fail
      rw [← hw1]
      clear hw1
      refine (awake12_any _).mono ?_
      rintro e w2 ⟨rfl, o2⟩
      replace c0 := o2.cell c0 (by simp)
      replace c1 := o2.cell c1 (by simp)
      go_wp2_with fail
      refine (hfew.out _ (hu1.kept0 o2)).mono ?_
      rintro e w' ⟨rfl, rfl⟩
      go_wp2_with fail
      refine (awake12_any _).mono ?_
      rintro e w3 ⟨rfl, o3⟩
      go_wp2
      go_ret
      exact ⟨rfl, (o1.trans0 o2).trans0 o3⟩
    | true =>
      by_cases h100 : 100 < f0.length
      all_goals
        first
          | (have hq : 100 < f0.length := h100
             clear hbad hx)
          | (have hq : 100 < l0.length := by
               rcases hbad with h | h | h
               · cases h
               · exact absurd h h100
               · exact h
             clear hbad hx)
        go_enter Try.func6, Try.ntmps6
        go_wp2_with fail
        rw [← hw1]
        clear hw1
        refine (awake12_any _).mono ?_
        rintro e w2 ⟨rfl, o2⟩
        replace c0 := o2.cell c0 (by simp)
        replace c1 := o2.cell c1 (by simp)
        go_wp2_with fail
        refine (hfew.out _ (hu1.kept0 o2)).mono ?_
        rintro e w' ⟨rfl, rfl⟩
        go_wp2_with fail
        refine (awake12_any _).mono ?_
        rintro e w3 ⟨rfl, o3⟩
        go_wp2
        go_ret
        exact ⟨rfl, (o1.trans0 o2).trans0 o3⟩
  obtain rfl : x = true := by
    cases x
    · exact absurd (.inl rfl) hbad
    · rfl
  have g1 : ¬ 100 < f0.length := fun h => hbad (.inr (.inl h))
  have g2 : ¬ 100 < l0.length := fun h => hbad (.inr (.inr h))
  obtain ⟨hsmall, hn40⟩ := fewJ_ok hx.symm
  replace hsmall := hid hsmall
  have hok : Hid (∀ o ∈ ops, o.ok) := by
    obtain ⟨_, _, _, _, _, _, h, _⟩ := hu
    exact h
  clear hbad hx
  obtain ⟨z0, hz0⟩ : ∃ z0, z0 = f0 ++ l0 := ⟨_, rfl⟩
  have hz0l : z0.length ≤ 200 := by rw [hz0]; simp; omega
  obtain ⟨a1, a2, a3⟩ := all_few z0
  have hop := fun W (hf : Bs W (.slice fa f0.length fc) f0) (hl : Bs W (.slice la l0.length lc) l0) => open_any W _ _ f0 l0 hf hl (by omega)
  have hrop := fun W (hf : Bs W (.slice fa f0.length fc) f0) (hl : Bs W (.slice la l0.length lc) l0) => ropen_any W _ _ f0 l0 hf hl (by omega)
  simp only [← hz0] at hop hrop
  obtain ⟨F0, hF0⟩ : ∃ F0, F0 = z0.take (allL z0).2 := ⟨_, rfl⟩
  obtain ⟨R0, hR0⟩ : ∃ R0, R0 = (allL z0).1 := ⟨_, rfl⟩
  simp only [← hF0, ← hR0] at hop hrop a1 a2 a3
  replace hop := hid hop
  replace hrop := hid hrop
  replace a3 := hid a3
  clear hz0 hF0 hR0
  have hf1 := hf.kept0 o1
  have hl1 := hl.kept0 o1
  go_enter Try.func6, Try.ntmps6
  go_wp2_with fail
  rw [← hw1]
  clear hw1
  refine (awake12_any _).mono ?_
  rintro e w2 ⟨rfl, o2⟩
  replace c0 := o2.cell c0 (by simp)
  replace c1 := o2.cell c1 (by simp)
  go_wp2_with fail
  refine (hfew.out _ (hu1.kept0 o2)).mono ?_
  rintro e w' ⟨rfl, h9⟩
  obtain rfl : w2 = w' := h9.symm
  have O2 := o1.trans0 o2
  have od : Only [] w2 w2.drew := (Only.refl [] w2).drew
  have hf2 := (hf1.kept0 o2).kept0 od
  have hl2 := (hl1.kept0 o2).kept0 od
  clear hfew hu1 hf1 hl1
  go_wp2_with fail
  go_region_held3 (fun w' => w'.cell? ⟨w.heap.size, 0, none⟩ = some (.slice fa f0.length fc) ∧ w'.cell? ⟨w.heap.size, 1, none⟩ = some (.slice la l0.length lc))
    (first | exact ⟨c0, c1⟩ | exact ⟨p3.cell c0 (by simp), p3.cell c1 (by simp)⟩ | exact ⟨p4.cell c0 (by simp), p4.cell c1 (by simp)⟩)
    (first
    | (go_at_call 16; refine (hop.out _ hf2 hl2).mono ?_; rintro e w3 ⟨x, rfl, hL3, q3⟩; have p3 : Only [] w2 w3 := od.trans0 q3)
    | (go_at_call 25; refine (hrop.out _ (hf2.kept0 q3) (hl2.kept0 q3)).mono ?_; rintro e w4 ⟨y, rfl, hL4, q4⟩; have p4 : Only [] w2 w4 := p3.trans0 q4))
  have T4 : Two w w4 x y F0 [] R0 := two_open (O2.trans0 od) (fun k hk => mem_newBs.1 hk) hL3 q3 (Only.refl _ _) q4 hL4 (fun k hk => mem_newBs.1 hk)
  have O4 := O2.trans0 p4
  clear hop hrop c0 c1 hf2 hl2 hL3 hL4 hf hl
  obtain ⟨ya, yb, yc, yd, ye, yf, y0, y1, y2, yB1, yB2, yB3, _⟩ := T4.ref (by omega)
  have di := hid (fun W (h : Two w W x y F0 [] R0) => ndisk_any w W x _ _ _ h.lgn (by first | omega | (simp; omega)))
  have re := hid (fun W (h : Two w W x y F0 [] R0) => nrecords_any w W x _ _ _ h.lgn (by omega) (fun r hr => by have := a3.out r hr; omega))
  have Td := T4.kept0 (Only.refl [] w4).drew
  have td : Only [] w4 w4.drew := (Only.refl [] w4).drew
  have hlf : F0.length ≤ 1000000 ∧ ([] : List UInt8).length ≤ 1000000 ∧ R0.length ≤ 1000000 := by refine ⟨?_, ?_, ?_⟩ <;> (try simp) <;> omega
  replace hlf := hid hlf
  have sm := hid (fun W fv lv (hF : Fresh w4.drew W fv F0) (hL : Fresh w4.drew W lv ([] : List UInt8)) (hk : Only [] w4 W) => same12_any W fv lv _ _ F0 ([] : List UInt8) (hF.bs (by have := hlf.out; omega)) (hL.bs (by have := hlf.out; omega)) (yB1.kept0 hk) (yB2.kept0 hk))
  have li := hid (fun V W rv (h : OwnBss V W rv R0) (hk : Only [] w4 W) => (show Calls Try.prog 22 #[rv, .slice ye R0.length yf] W fun e w' => e = .returned (.bool true) ∧ Only [] W w' from (lists_any _ _ R0 R0 _ (h.bss (by have := hlf.out; omega)) (yB3.kept0 hk)).mono (fun e w' h => by rw [decide_eq_true rfl] at h; exact h)))
  clear yB1 yB2 yB3
  go_wp2_with fail
  go_region_held3 (fun w' => w'.cell? ⟨y, 0, none⟩ = some (.slice ya F0.length yb) ∧ w'.cell? ⟨y, 1, none⟩ = some (.slice yc ([] : List UInt8).length yd) ∧ w'.cell? ⟨y, 2, none⟩ = some (.slice ye R0.length yf))
    (first | exact ⟨y0, y1, y2⟩ | exact ⟨k1.cell y0 (by simp), k1.cell y1 (by simp), k1.cell y2 (by simp)⟩ | exact ⟨k2.cell y0 (by simp), k2.cell y1 (by simp), k2.cell y2 (by simp)⟩ | exact ⟨k3.cell y0 (by simp), k3.cell y1 (by simp), k3.cell y2 (by simp)⟩ | exact ⟨k4.cell y0 (by simp), k4.cell y1 (by simp), k4.cell y2 (by simp)⟩)
    (first
    | (go_at_call 20; refine (di.out _ Td).mono ?_; rintro e v1 ⟨dfv, dlv, rfl, hdf, hdl, r1⟩; have k1 : Only [] w4 v1 := td.trans0 r1; have T1 := Td.kept0 r1)
    | (go_at_call 14; refine (sm.out _ _ _ hdf hdl k1).mono ?_; rintro e v2 ⟨rfl, r2⟩; have k2 : Only [] w4 v2 := k1.trans0 r2; have T2 := T1.kept0 r2)
    | (go_at_call 21; refine (re.out _ T2).mono ?_; rintro e v3 ⟨rv, rfl, hrv, r3⟩; have k3 : Only [] w4 v3 := k2.trans0 r3; have T3 := T2.kept0 r3)
    | (go_at_call 22; refine (li.out _ _ _ hrv k3).mono ?_; rintro e v4 ⟨rfl, r4⟩; have k4 : Only [] w4 v4 := k3.trans0 r4; have T4' := T3.kept0 r4))
  clear di re sm li Td hdf hdl hrv y0 y1 y2 T1 T2 T3
  go_wp2_with fail
  go_loopw [5, 6, 58] (fun xv yv i wr => ∃ (k : Nat) (f l : List UInt8) (rs : List (List UInt8)) (x y : Nat), k ≤ ops.length ∧ xv = .pointer (some ⟨x, 0, none⟩) ∧ yv = .pointer (some ⟨y, 0, none⟩) ∧ i = .int .i64 k ∧ Two w wr x y f l rs ∧ f.length + l.length ≤ 200 + 66 * k ∧ rs.length ≤ 200 + 66 * k ∧ Hid (∀ r ∈ rs, r.length ≤ 1000)) (fun _ _ i _ => ops.length - (intOf i).toNat)
  case atStart => exact ⟨0, F0, [], R0, x, y, Nat.zero_le _, rfl, rfl, rfl, T4', by simp; omega, by omega, a3⟩
  case round =>
    clear T4 T4' a1 a2 a3 hlf k1 k2 k3 k4 r1 r2 r3 r4 p3 p4 q3 q4 O4 td
    obtain ⟨k, f, l, rs, x, y, hk, rfl, rfl, rfl, T, hfl, hrs, hra⟩ := hrel
    by_cases hlt : k < ops.length
    · obtain ⟨ob, oo, rfl, e0, e1, e2, bv, e3, hB⟩ := hu.at k hlt
      have ho := T.o
      have d0 := ho.cell e0 (by simp)
      have d1 := ho.cell e1 (by simp)
      have d2 := ho.cell e2 (by simp)
      have d3 := ho.cell e3 (by simp)
      obtain ⟨o, hoe⟩ : ∃ o, o = ops[k] := ⟨_, rfl⟩
      have hb60 := hsmall.out o (by rw [hoe]; exact List.getElem_mem hlt)
      have hko := hok.out o (by rw [hoe]; exact List.getElem_mem hlt)
      rw [← hoe] at d0 d1 d2 hB
      obtain ⟨kd, kp, tn, b⟩ := o
      obtain ⟨hkd, hkp⟩ := hko
      simp only at d0 d1 d2 hB hb60 hkd hkp
      obtain ⟨ba, bc, rfl⟩ := bs_form hB
      obtain ⟨wA, hwA⟩ : ∃ wA, wA = wr.alloc (Obj.cells #[.int .i64 kd, .int .i64 kp, .int .u8 (tn.toNat : Int), .slice ba b.length bc] 52) := ⟨_, rfl⟩
      have oA : Only [] wr wA := by rw [hwA]; exact (Only.refl [] wr).alloc _
      have q1 : wA.cell? ⟨wr.heap.size, 1, none⟩ = some (.int .i64 kp) := by rw [hwA]; simp [go_sem]
      have q2 : wA.cell? ⟨wr.heap.size, 2, none⟩ = some (.int .u8 (tn.toNat : Int)) := by rw [hwA]; simp [go_sem]
      have q3 : wA.cell? ⟨wr.heap.size, 3, none⟩ = some (.slice ba b.length bc) := by rw [hwA]; simp [go_sem]
      have TA := T.kept0 oA
      have hyl : y < wr.heap.size := by obtain ⟨_, _, _, _, _, _, _, _, _, _, _, _, h⟩ := T.ref (by omega); exact h
      have oAd : Only [] wr wA.drew := oA.drew
      have dAd : Only [] wA wA.drew := (Only.refl [] wA).drew
      have TAd := TA.kept0 dAd
      have HB := hid hB
      have HT := hid T
      have HKP := hid hkp
      have hfl2 : f.length + l.length ≤ 2840 := by omega
      have hrs2 : rs.length ≤ 2840 := by omega
      clear e0 e1 e2 e3 hoe hB T ho hkd hkp
      by_cases k1 : kd = 1
      · subst k1
        obtain ⟨l', hl'⟩ : ∃ l', l' = l ++ frameL b := ⟨_, rfl⟩
        have hll : l'.length ≤ l.length + 66 := by rw [hl', List.length_append, frameL_length]; omega
        obtain ⟨rs', hrs'⟩ : ∃ rs', rs' = rs ++ [b] := ⟨_, rfl⟩
        have hrl : rs'.length ≤ rs.length + 1 := by rw [hrs']; simp
        have hra' : Hid (∀ r ∈ rs', r.length ≤ 1000) := by
          intro r hr
          rw [hrs'] at hr
          rcases List.mem_append.1 hr with h | h
          · exact hra.out r h
          · obtain rfl : r = b := by simpa using h
            omega
        by_cases hb1 : 1 ≤ b.length
        · have ap1 := tappend1 w wr wA.drew x y f l b rs HT.out oAd _ HB.out hb1 (by omega) (by omega) (by omega)
          have ap2 := fun W (h : Mid w W x y f l rs f (l ++ frameL b) (rs ++ [b])) => tappend2 w W x y f l b rs h _ HB.out hb1 (by omega) (by omega) (by omega)
          rw [← hl', ← hrs'] at ap1
          simp only [← hl', ← hrs'] at ap2
          replace ap1 := hid ap1
          replace ap2 := hid ap2
          clear hl' hrs'
          go_wp2_with fail
          rw [← hwA]
          clear hwA
          go_region_held3 (fun w' => w'.cell? ⟨wr.heap.size, 3, none⟩ = some (.slice ba b.length bc))
            (first | exact q3 | exact n5 | exact hy6.cell n5 (by simp; omega))
            (first
            | (go_at_call 17; refine ap1.out.mono ?_; rintro e w5 ⟨rfl, M5, ds, hds, hdl⟩; have n5 := hds.cell (dAd.cell q3 (by simp)) (by intro hm; have := hdl _ hm; simp only at this; omega))
            | (go_at_call 26; refine (ap2.out _ M5).mono ?_; rintro e w6 ⟨rfl, T6, hy6⟩))
          obtain ⟨ya, yb, yc, yd, ye, yf, y0, y1, y2, yB1, yB2, yB3, _⟩ := T6.ref (by omega)
          have di := hid (fun W (h : Two w W x y f l' rs') => ndisk_any w W x _ _ _ h.lgn (by first | omega | (simp; omega)))
          have re := hid (fun W (h : Two w W x y f l' rs') => nrecords_any w W x _ _ _ h.lgn (by omega) (fun r hr => by have := hra'.out r hr; omega))
          have fa := fun W (h : Two w W x y f l' rs') => nfast_any w W x _ _ _ h.lgn (by first | omega | (simp; omega))
          have rfa := fun W (h : Two w W x y f l' rs') => (show Calls Try.prog 30 #[.pointer (some ⟨y, 0, none⟩)] W fun e w' => e = .returned (.int .i64 ((allL f).1.length : Int)) ∧ Only [] W w' by obtain ⟨cs, h⟩ := h.rlg; exact rfast_any W y _ _ _ cs h (by first | omega | (simp; omega)))
          obtain ⟨NF, hNF⟩ : ∃ NF, NF = (allL f).1.length := ⟨_, rfl⟩
          simp only [← hNF] at fa rfa
          replace fa := hid fa
          replace rfa := hid rfa
          clear hNF
          have hNN : ((NF : Int) != (NF : Int)) = false := by simp
          have Td := T6.kept0 (Only.refl [] w6).drew
          have td : Only [] w6 w6.drew := (Only.refl [] w6).drew
          have hlf : f.length ≤ 1000000 ∧ l'.length ≤ 1000000 ∧ rs'.length ≤ 1000000 := by refine ⟨?_, ?_, ?_⟩ <;> (try simp) <;> omega
          replace hlf := hid hlf
          have sm := hid (fun W fv lv (hF : Fresh w6.drew W fv f) (hL : Fresh w6.drew W lv l') (hk : Only [] w6 W) => same12_any W fv lv _ _ f l' (hF.bs (by have := hlf.out; omega)) (hL.bs (by have := hlf.out; omega)) (yB1.kept0 hk) (yB2.kept0 hk))
          have li := hid (fun V W rv (h : OwnBss V W rv rs') (hk : Only [] w6 W) => (show Calls Try.prog 22 #[rv, .slice ye rs'.length yf] W fun e w' => e = .returned (.bool true) ∧ Only [] W w' from (lists_any _ _ rs' rs' _ (h.bss (by have := hlf.out; omega)) (yB3.kept0 hk)).mono (fun e w' h => by rw [decide_eq_true rfl] at h; exact h)))
          clear yB1 yB2 yB3
          go_wp2_with fail
          go_region_held3 (fun w' => w'.cell? ⟨y, 0, none⟩ = some (.slice ya f.length yb) ∧ w'.cell? ⟨y, 1, none⟩ = some (.slice yc l'.length yd) ∧ w'.cell? ⟨y, 2, none⟩ = some (.slice ye rs'.length yf))
            (first | exact ⟨y0, y1, y2⟩ | exact ⟨k1.cell y0 (by simp), k1.cell y1 (by simp), k1.cell y2 (by simp)⟩ | exact ⟨k2.cell y0 (by simp), k2.cell y1 (by simp), k2.cell y2 (by simp)⟩ | exact ⟨k3.cell y0 (by simp), k3.cell y1 (by simp), k3.cell y2 (by simp)⟩ | exact ⟨k4.cell y0 (by simp), k4.cell y1 (by simp), k4.cell y2 (by simp)⟩ | exact ⟨k5.cell y0 (by simp), k5.cell y1 (by simp), k5.cell y2 (by simp)⟩ | exact ⟨k6.cell y0 (by simp), k6.cell y1 (by simp), k6.cell y2 (by simp)⟩)
            (first
            | (go_at_call 20; refine (di.out _ Td).mono ?_; rintro e v1 ⟨dfv, dlv, rfl, hdf, hdl, r1⟩; have k1 : Only [] w6 v1 := td.trans0 r1; have T1 := Td.kept0 r1)
            | (go_at_call 14; refine (sm.out _ _ _ hdf hdl k1).mono ?_; rintro e v2 ⟨rfl, r2⟩; have k2 : Only [] w6 v2 := k1.trans0 r2; have T2 := T1.kept0 r2)
            | (go_at_call 21; refine (re.out _ T2).mono ?_; rintro e v3 ⟨rv, rfl, hrv, r3⟩; have k3 : Only [] w6 v3 := k2.trans0 r3; have T3 := T2.kept0 r3)
            | (go_at_call 22; refine (li.out _ _ _ hrv k3).mono ?_; rintro e v4 ⟨rfl, r4⟩; have k4 : Only [] w6 v4 := k3.trans0 r4; have T4' := T3.kept0 r4)
            | (go_at_call 19; refine (fa.out _ T4').mono ?_; rintro e v5 ⟨rfl, r5⟩; have k5 : Only [] w6 v5 := k4.trans0 r5; have T5' := T4'.kept0 r5)
            | (go_at_call 30; refine (rfa.out _ T5').mono ?_; rintro e v6 ⟨rfl, r6⟩; have k6 : Only [] w6 v6 := k5.trans0 r6; have T6' := T5'.kept0 r6))
          clear di re fa rfa sm li Td hdf hdl hrv y0 y1 y2 T1 T2 T3 T4' T5' hlf k2 k3 k4 k5
          go_wp2
          go_roundw
          case rel => exact ⟨k + 1, f, l', rs', x, y, by omega, rfl, rfl, by go_num, T6', by omega, by omega, hra'⟩
          case measure => simp [intOf]; omega
        · have ap1 := hid (fun W (h : Only [] wA W) => lappend_bad W x _ b ((HB.out.kept0 TA.o).kept0 h) (by omega))
          have ap2 := hid (fun W (h : Only [] wA W) => rappend_bad W y _ b ((HB.out.kept0 TA.o).kept0 h) (by omega))
          clear hl' hrs' hra' hrl hll
          go_wp2_with fail
          rw [← hwA]
          clear hwA
          go_region_held3 (fun w' => w'.cell? ⟨wr.heap.size, 3, none⟩ = some (.slice ba b.length bc))
            (first | exact q3 | exact dAd.cell q3 (by simp))
            (first
            | (go_at_call 17; refine (ap1.out _ dAd).mono ?_; rintro e w5 ⟨rfl, rfl⟩)
            | (go_at_call 26; refine (ap2.out _ dAd).mono ?_; rintro e w6 ⟨rfl, rfl⟩))
          obtain ⟨ya, yb, yc, yd, ye, yf, y0, y1, y2, yB1, yB2, yB3, _⟩ := TAd.ref (by omega)
          have di := hid (fun W (h : Two w W x y f l rs) => ndisk_any w W x _ _ _ h.lgn (by first | omega | (simp; omega)))
          have re := hid (fun W (h : Two w W x y f l rs) => nrecords_any w W x _ _ _ h.lgn (by omega) (fun r hr => by have := hra.out r hr; omega))
          have fa := fun W (h : Two w W x y f l rs) => nfast_any w W x _ _ _ h.lgn (by first | omega | (simp; omega))
          have rfa := fun W (h : Two w W x y f l rs) => (show Calls Try.prog 30 #[.pointer (some ⟨y, 0, none⟩)] W fun e w' => e = .returned (.int .i64 ((allL f).1.length : Int)) ∧ Only [] W w' by obtain ⟨cs, h⟩ := h.rlg; exact rfast_any W y _ _ _ cs h (by first | omega | (simp; omega)))
          obtain ⟨NF, hNF⟩ : ∃ NF, NF = (allL f).1.length := ⟨_, rfl⟩
          simp only [← hNF] at fa rfa
          replace fa := hid fa
          replace rfa := hid rfa
          clear hNF
          have hNN : ((NF : Int) != (NF : Int)) = false := by simp
          have Td := TAd.kept0 (Only.refl [] wA.drew).drew
          have td : Only [] wA.drew wA.drew.drew := (Only.refl [] wA.drew).drew
          have hlf : f.length ≤ 1000000 ∧ l.length ≤ 1000000 ∧ rs.length ≤ 1000000 := by refine ⟨?_, ?_, ?_⟩ <;> (try simp) <;> omega
          replace hlf := hid hlf
          have sm := hid (fun W fv lv (hF : Fresh wA.drew.drew W fv f) (hL : Fresh wA.drew.drew W lv l) (hk : Only [] wA.drew W) => same12_any W fv lv _ _ f l (hF.bs (by have := hlf.out; omega)) (hL.bs (by have := hlf.out; omega)) (yB1.kept0 hk) (yB2.kept0 hk))
          have li := hid (fun V W rv (h : OwnBss V W rv rs) (hk : Only [] wA.drew W) => (show Calls Try.prog 22 #[rv, .slice ye rs.length yf] W fun e w' => e = .returned (.bool true) ∧ Only [] W w' from (lists_any _ _ rs rs _ (h.bss (by have := hlf.out; omega)) (yB3.kept0 hk)).mono (fun e w' h => by rw [decide_eq_true rfl] at h; exact h)))
          clear yB1 yB2 yB3
          go_wp2_with fail
          go_region_held3 (fun w' => w'.cell? ⟨y, 0, none⟩ = some (.slice ya f.length yb) ∧ w'.cell? ⟨y, 1, none⟩ = some (.slice yc l.length yd) ∧ w'.cell? ⟨y, 2, none⟩ = some (.slice ye rs.length yf))
            (first | exact ⟨y0, y1, y2⟩ | exact ⟨k1.cell y0 (by simp), k1.cell y1 (by simp), k1.cell y2 (by simp)⟩ | exact ⟨k2.cell y0 (by simp), k2.cell y1 (by simp), k2.cell y2 (by simp)⟩ | exact ⟨k3.cell y0 (by simp), k3.cell y1 (by simp), k3.cell y2 (by simp)⟩ | exact ⟨k4.cell y0 (by simp), k4.cell y1 (by simp), k4.cell y2 (by simp)⟩ | exact ⟨k5.cell y0 (by simp), k5.cell y1 (by simp), k5.cell y2 (by simp)⟩ | exact ⟨k6.cell y0 (by simp), k6.cell y1 (by simp), k6.cell y2 (by simp)⟩)
            (first
            | (go_at_call 20; refine (di.out _ Td).mono ?_; rintro e v1 ⟨dfv, dlv, rfl, hdf, hdl, r1⟩; have k1 : Only [] wA.drew v1 := td.trans0 r1; have T1 := Td.kept0 r1)
            | (go_at_call 14; refine (sm.out _ _ _ hdf hdl k1).mono ?_; rintro e v2 ⟨rfl, r2⟩; have k2 : Only [] wA.drew v2 := k1.trans0 r2; have T2 := T1.kept0 r2)
            | (go_at_call 21; refine (re.out _ T2).mono ?_; rintro e v3 ⟨rv, rfl, hrv, r3⟩; have k3 : Only [] wA.drew v3 := k2.trans0 r3; have T3 := T2.kept0 r3)
            | (go_at_call 22; refine (li.out _ _ _ hrv k3).mono ?_; rintro e v4 ⟨rfl, r4⟩; have k4 : Only [] wA.drew v4 := k3.trans0 r4; have T4' := T3.kept0 r4)
            | (go_at_call 19; refine (fa.out _ T4').mono ?_; rintro e v5 ⟨rfl, r5⟩; have k5 : Only [] wA.drew v5 := k4.trans0 r5; have T5' := T4'.kept0 r5)
            | (go_at_call 30; refine (rfa.out _ T5').mono ?_; rintro e v6 ⟨rfl, r6⟩; have k6 : Only [] wA.drew v6 := k5.trans0 r6; have T6' := T5'.kept0 r6))
          clear di re fa rfa sm li Td hdf hdl hrv y0 y1 y2 T1 T2 T3 T4' T5' hlf k2 k3 k4 k5
          go_wp2
          go_roundw
          case rel => exact ⟨k + 1, f, l, rs, x, y, by omega, rfl, rfl, by go_num, T6', by omega, by omega, hra⟩
          case measure => simp [intOf]; omega
      by_cases k2 : kd = 2
      · subst k2
        have h500 : f.length + l.length ≤ 500000 := by omega
        obtain ⟨F', hF'⟩ : ∃ F', F' = f ++ l := ⟨_, rfl⟩
        have hFl : F'.length ≤ f.length + l.length := by rw [hF', List.length_append]; omega
        have sy2 := fun W (h : Mid w W x y f l rs (f ++ l) [] rs) => tsync2 w W x y f l rs h h500
        have sy1 := tsync1 w wA x y f l rs TA h500
        rw [← hF'] at sy1
        simp only [← hF'] at sy2
        replace sy1 := hid sy1
        replace sy2 := hid sy2
        clear hF'
        go_wp2_with fail
        rw [← hwA]
        clear hwA
        refine sy1.out.mono ?_
        rintro e w5 ⟨rfl, M5⟩
        go_wp2_with fail
        refine (sy2.out _ M5).mono ?_
        rintro e w6 ⟨rfl, T6⟩
        obtain ⟨ya, yb, yc, yd, ye, yf, y0, y1, y2, yB1, yB2, yB3, _⟩ := T6.ref (by omega)
        have di := hid (fun W (h : Two w W x y F' [] rs) => ndisk_any w W x _ _ _ h.lgn (by first | omega | (simp; omega)))
        have re := hid (fun W (h : Two w W x y F' [] rs) => nrecords_any w W x _ _ _ h.lgn (by omega) (fun r hr => by have := hra.out r hr; omega))
        have fa := fun W (h : Two w W x y F' [] rs) => nfast_any w W x _ _ _ h.lgn (by first | omega | (simp; omega))
        have rfa := fun W (h : Two w W x y F' [] rs) => (show Calls Try.prog 30 #[.pointer (some ⟨y, 0, none⟩)] W fun e w' => e = .returned (.int .i64 ((allL F').1.length : Int)) ∧ Only [] W w' by obtain ⟨cs, h⟩ := h.rlg; exact rfast_any W y _ _ _ cs h (by first | omega | (simp; omega)))
        obtain ⟨NF, hNF⟩ : ∃ NF, NF = (allL F').1.length := ⟨_, rfl⟩
        simp only [← hNF] at fa rfa
        replace fa := hid fa
        replace rfa := hid rfa
        clear hNF
        have hNN : ((NF : Int) != (NF : Int)) = false := by simp
        have Td := T6.kept0 (Only.refl [] w6).drew
        have td : Only [] w6 w6.drew := (Only.refl [] w6).drew
        have hlf : F'.length ≤ 1000000 ∧ ([] : List UInt8).length ≤ 1000000 ∧ rs.length ≤ 1000000 := by refine ⟨?_, ?_, ?_⟩ <;> (try simp) <;> omega
        replace hlf := hid hlf
        have sm := hid (fun W fv lv (hF : Fresh w6.drew W fv F') (hL : Fresh w6.drew W lv ([] : List UInt8)) (hk : Only [] w6 W) => same12_any W fv lv _ _ F' ([] : List UInt8) (hF.bs (by have := hlf.out; omega)) (hL.bs (by have := hlf.out; omega)) (yB1.kept0 hk) (yB2.kept0 hk))
        have li := hid (fun V W rv (h : OwnBss V W rv rs) (hk : Only [] w6 W) => (show Calls Try.prog 22 #[rv, .slice ye rs.length yf] W fun e w' => e = .returned (.bool true) ∧ Only [] W w' from (lists_any _ _ rs rs _ (h.bss (by have := hlf.out; omega)) (yB3.kept0 hk)).mono (fun e w' h => by rw [decide_eq_true rfl] at h; exact h)))
        clear yB1 yB2 yB3
        go_wp2_with fail
        go_region_held3 (fun w' => w'.cell? ⟨y, 0, none⟩ = some (.slice ya F'.length yb) ∧ w'.cell? ⟨y, 1, none⟩ = some (.slice yc ([] : List UInt8).length yd) ∧ w'.cell? ⟨y, 2, none⟩ = some (.slice ye rs.length yf))
          (first | exact ⟨y0, y1, y2⟩ | exact ⟨k1.cell y0 (by simp), k1.cell y1 (by simp), k1.cell y2 (by simp)⟩ | exact ⟨k2.cell y0 (by simp), k2.cell y1 (by simp), k2.cell y2 (by simp)⟩ | exact ⟨k3.cell y0 (by simp), k3.cell y1 (by simp), k3.cell y2 (by simp)⟩ | exact ⟨k4.cell y0 (by simp), k4.cell y1 (by simp), k4.cell y2 (by simp)⟩ | exact ⟨k5.cell y0 (by simp), k5.cell y1 (by simp), k5.cell y2 (by simp)⟩ | exact ⟨k6.cell y0 (by simp), k6.cell y1 (by simp), k6.cell y2 (by simp)⟩)
          (first
          | (go_at_call 20; refine (di.out _ Td).mono ?_; rintro e v1 ⟨dfv, dlv, rfl, hdf, hdl, r1⟩; have k1 : Only [] w6 v1 := td.trans0 r1; have T1 := Td.kept0 r1)
          | (go_at_call 14; refine (sm.out _ _ _ hdf hdl k1).mono ?_; rintro e v2 ⟨rfl, r2⟩; have k2 : Only [] w6 v2 := k1.trans0 r2; have T2 := T1.kept0 r2)
          | (go_at_call 21; refine (re.out _ T2).mono ?_; rintro e v3 ⟨rv, rfl, hrv, r3⟩; have k3 : Only [] w6 v3 := k2.trans0 r3; have T3 := T2.kept0 r3)
          | (go_at_call 22; refine (li.out _ _ _ hrv k3).mono ?_; rintro e v4 ⟨rfl, r4⟩; have k4 : Only [] w6 v4 := k3.trans0 r4; have T4' := T3.kept0 r4)
          | (go_at_call 19; refine (fa.out _ T4').mono ?_; rintro e v5 ⟨rfl, r5⟩; have k5 : Only [] w6 v5 := k4.trans0 r5; have T5' := T4'.kept0 r5)
          | (go_at_call 30; refine (rfa.out _ T5').mono ?_; rintro e v6 ⟨rfl, r6⟩; have k6 : Only [] w6 v6 := k5.trans0 r6; have T6' := T5'.kept0 r6))
        clear di re fa rfa sm li Td hdf hdl hrv y0 y1 y2 T1 T2 T3 T4' T5' hlf k2 k3 k4 k5
        go_wp2
        go_roundw
        case rel => exact ⟨k + 1, F', [], rs, x, y, by omega, rfl, rfl, by go_num, T6', by (try simp); omega, by omega, hra⟩
        case measure => simp [intOf]; omega
      by_cases k3 : kd = 3
      · subst k3
        obtain ⟨F', hF'⟩ : ∃ F', F' = frameL b := ⟨_, rfl⟩
        have hll : F'.length ≤ 66 := by rw [hF', frameL_length]; omega
        obtain ⟨rs', hrs'⟩ : ∃ rs', rs' = [b] := ⟨_, rfl⟩
        have hrl : rs'.length ≤ 1 := by rw [hrs']; simp
        have hra' : Hid (∀ r ∈ rs', r.length ≤ 1000) := by
          intro r hr
          rw [hrs'] at hr
          obtain rfl : r = b := by simpa using hr
          omega
        by_cases hb1 : 1 ≤ b.length
        · have ap1 := tcompact1 w wr wA.drew x y f l b rs HT.out oAd _ HB.out hb1 (by omega)
          have ap2 := fun W (h : Mid w W x y f l rs (frameL b) [] [b]) => tcompact2 w W x y f l b rs h _ HB.out hb1 (by omega)
          rw [← hF', ← hrs'] at ap1
          simp only [← hF', ← hrs'] at ap2
          replace ap1 := hid ap1
          replace ap2 := hid ap2
          clear hF' hrs'
          go_wp2_with fail
          rw [← hwA]
          clear hwA
          go_region_held3 (fun w' => w'.cell? ⟨wr.heap.size, 3, none⟩ = some (.slice ba b.length bc))
            (first | exact q3 | exact n5 | exact hy6.cell n5 (by simp; omega))
            (first
            | (go_at_call 28; refine ap1.out.mono ?_; rintro e w5 ⟨rfl, M5, ds, hds, hdl⟩; have n5 := hds.cell (dAd.cell q3 (by simp)) (by intro hm; have := hdl _ hm; simp only at this; omega))
            | (go_at_call 29; refine (ap2.out _ M5).mono ?_; rintro e w6 ⟨rfl, T6, hy6⟩))
          obtain ⟨ya, yb, yc, yd, ye, yf, y0, y1, y2, yB1, yB2, yB3, _⟩ := T6.ref (by omega)
          have di := hid (fun W (h : Two w W x y F' [] rs') => ndisk_any w W x _ _ _ h.lgn (by first | omega | (simp; omega)))
          have re := hid (fun W (h : Two w W x y F' [] rs') => nrecords_any w W x _ _ _ h.lgn (by omega) (fun r hr => by have := hra'.out r hr; omega))
          have fa := fun W (h : Two w W x y F' [] rs') => nfast_any w W x _ _ _ h.lgn (by first | omega | (simp; omega))
          have rfa := fun W (h : Two w W x y F' [] rs') => (show Calls Try.prog 30 #[.pointer (some ⟨y, 0, none⟩)] W fun e w' => e = .returned (.int .i64 ((allL F').1.length : Int)) ∧ Only [] W w' by obtain ⟨cs, h⟩ := h.rlg; exact rfast_any W y _ _ _ cs h (by first | omega | (simp; omega)))
          obtain ⟨NF, hNF⟩ : ∃ NF, NF = (allL F').1.length := ⟨_, rfl⟩
          simp only [← hNF] at fa rfa
          replace fa := hid fa
          replace rfa := hid rfa
          clear hNF
          have hNN : ((NF : Int) != (NF : Int)) = false := by simp
          have Td := T6.kept0 (Only.refl [] w6).drew
          have td : Only [] w6 w6.drew := (Only.refl [] w6).drew
          have hlf : F'.length ≤ 1000000 ∧ ([] : List UInt8).length ≤ 1000000 ∧ rs'.length ≤ 1000000 := by refine ⟨?_, ?_, ?_⟩ <;> (try simp) <;> omega
          replace hlf := hid hlf
          have sm := hid (fun W fv lv (hF : Fresh w6.drew W fv F') (hL : Fresh w6.drew W lv ([] : List UInt8)) (hk : Only [] w6 W) => same12_any W fv lv _ _ F' ([] : List UInt8) (hF.bs (by have := hlf.out; omega)) (hL.bs (by have := hlf.out; omega)) (yB1.kept0 hk) (yB2.kept0 hk))
          have li := hid (fun V W rv (h : OwnBss V W rv rs') (hk : Only [] w6 W) => (show Calls Try.prog 22 #[rv, .slice ye rs'.length yf] W fun e w' => e = .returned (.bool true) ∧ Only [] W w' from (lists_any _ _ rs' rs' _ (h.bss (by have := hlf.out; omega)) (yB3.kept0 hk)).mono (fun e w' h => by rw [decide_eq_true rfl] at h; exact h)))
          clear yB1 yB2 yB3
          go_wp2_with fail
          go_region_held3 (fun w' => w'.cell? ⟨y, 0, none⟩ = some (.slice ya F'.length yb) ∧ w'.cell? ⟨y, 1, none⟩ = some (.slice yc ([] : List UInt8).length yd) ∧ w'.cell? ⟨y, 2, none⟩ = some (.slice ye rs'.length yf))
            (first | exact ⟨y0, y1, y2⟩ | exact ⟨k1.cell y0 (by simp), k1.cell y1 (by simp), k1.cell y2 (by simp)⟩ | exact ⟨k2.cell y0 (by simp), k2.cell y1 (by simp), k2.cell y2 (by simp)⟩ | exact ⟨k3.cell y0 (by simp), k3.cell y1 (by simp), k3.cell y2 (by simp)⟩ | exact ⟨k4.cell y0 (by simp), k4.cell y1 (by simp), k4.cell y2 (by simp)⟩ | exact ⟨k5.cell y0 (by simp), k5.cell y1 (by simp), k5.cell y2 (by simp)⟩ | exact ⟨k6.cell y0 (by simp), k6.cell y1 (by simp), k6.cell y2 (by simp)⟩)
            (first
            | (go_at_call 20; refine (di.out _ Td).mono ?_; rintro e v1 ⟨dfv, dlv, rfl, hdf, hdl, r1⟩; have k1 : Only [] w6 v1 := td.trans0 r1; have T1 := Td.kept0 r1)
            | (go_at_call 14; refine (sm.out _ _ _ hdf hdl k1).mono ?_; rintro e v2 ⟨rfl, r2⟩; have k2 : Only [] w6 v2 := k1.trans0 r2; have T2 := T1.kept0 r2)
            | (go_at_call 21; refine (re.out _ T2).mono ?_; rintro e v3 ⟨rv, rfl, hrv, r3⟩; have k3 : Only [] w6 v3 := k2.trans0 r3; have T3 := T2.kept0 r3)
            | (go_at_call 22; refine (li.out _ _ _ hrv k3).mono ?_; rintro e v4 ⟨rfl, r4⟩; have k4 : Only [] w6 v4 := k3.trans0 r4; have T4' := T3.kept0 r4)
            | (go_at_call 19; refine (fa.out _ T4').mono ?_; rintro e v5 ⟨rfl, r5⟩; have k5 : Only [] w6 v5 := k4.trans0 r5; have T5' := T4'.kept0 r5)
            | (go_at_call 30; refine (rfa.out _ T5').mono ?_; rintro e v6 ⟨rfl, r6⟩; have k6 : Only [] w6 v6 := k5.trans0 r6; have T6' := T5'.kept0 r6))
          clear di re fa rfa sm li Td hdf hdl hrv y0 y1 y2 T1 T2 T3 T4' T5' hlf k2 k3 k4 k5
          go_wp2
          go_roundw
          case rel => exact ⟨k + 1, F', [], rs', x, y, by omega, rfl, rfl, by go_num, T6', by (try simp); omega, by omega, hra'⟩
          case measure => simp [intOf]; omega
        · have ap1 := hid (fun W (h : Only [] wA W) => lcompact_bad W x _ b ((HB.out.kept0 TA.o).kept0 h) (by omega))
          have ap2 := hid (fun W (h : Only [] wA W) => rcompact_bad W y _ b ((HB.out.kept0 TA.o).kept0 h) (by omega))
          clear hF' hrs' hra' hrl hll
          go_wp2_with fail
          rw [← hwA]
          clear hwA
          go_region_held3 (fun w' => w'.cell? ⟨wr.heap.size, 3, none⟩ = some (.slice ba b.length bc))
            (first | exact q3 | exact dAd.cell q3 (by simp))
            (first
            | (go_at_call 28; refine (ap1.out _ dAd).mono ?_; rintro e w5 ⟨rfl, rfl⟩)
            | (go_at_call 29; refine (ap2.out _ dAd).mono ?_; rintro e w6 ⟨rfl, rfl⟩))
          obtain ⟨ya, yb, yc, yd, ye, yf, y0, y1, y2, yB1, yB2, yB3, _⟩ := TAd.ref (by omega)
          have di := hid (fun W (h : Two w W x y f l rs) => ndisk_any w W x _ _ _ h.lgn (by first | omega | (simp; omega)))
          have re := hid (fun W (h : Two w W x y f l rs) => nrecords_any w W x _ _ _ h.lgn (by omega) (fun r hr => by have := hra.out r hr; omega))
          have fa := fun W (h : Two w W x y f l rs) => nfast_any w W x _ _ _ h.lgn (by first | omega | (simp; omega))
          have rfa := fun W (h : Two w W x y f l rs) => (show Calls Try.prog 30 #[.pointer (some ⟨y, 0, none⟩)] W fun e w' => e = .returned (.int .i64 ((allL f).1.length : Int)) ∧ Only [] W w' by obtain ⟨cs, h⟩ := h.rlg; exact rfast_any W y _ _ _ cs h (by first | omega | (simp; omega)))
          obtain ⟨NF, hNF⟩ : ∃ NF, NF = (allL f).1.length := ⟨_, rfl⟩
          simp only [← hNF] at fa rfa
          replace fa := hid fa
          replace rfa := hid rfa
          clear hNF
          have hNN : ((NF : Int) != (NF : Int)) = false := by simp
          have Td := TAd.kept0 (Only.refl [] wA.drew).drew
          have td : Only [] wA.drew wA.drew.drew := (Only.refl [] wA.drew).drew
          have hlf : f.length ≤ 1000000 ∧ l.length ≤ 1000000 ∧ rs.length ≤ 1000000 := by refine ⟨?_, ?_, ?_⟩ <;> (try simp) <;> omega
          replace hlf := hid hlf
          have sm := hid (fun W fv lv (hF : Fresh wA.drew.drew W fv f) (hL : Fresh wA.drew.drew W lv l) (hk : Only [] wA.drew W) => same12_any W fv lv _ _ f l (hF.bs (by have := hlf.out; omega)) (hL.bs (by have := hlf.out; omega)) (yB1.kept0 hk) (yB2.kept0 hk))
          have li := hid (fun V W rv (h : OwnBss V W rv rs) (hk : Only [] wA.drew W) => (show Calls Try.prog 22 #[rv, .slice ye rs.length yf] W fun e w' => e = .returned (.bool true) ∧ Only [] W w' from (lists_any _ _ rs rs _ (h.bss (by have := hlf.out; omega)) (yB3.kept0 hk)).mono (fun e w' h => by rw [decide_eq_true rfl] at h; exact h)))
          clear yB1 yB2 yB3
          go_wp2_with fail
          go_region_held3 (fun w' => w'.cell? ⟨y, 0, none⟩ = some (.slice ya f.length yb) ∧ w'.cell? ⟨y, 1, none⟩ = some (.slice yc l.length yd) ∧ w'.cell? ⟨y, 2, none⟩ = some (.slice ye rs.length yf))
            (first | exact ⟨y0, y1, y2⟩ | exact ⟨k1.cell y0 (by simp), k1.cell y1 (by simp), k1.cell y2 (by simp)⟩ | exact ⟨k2.cell y0 (by simp), k2.cell y1 (by simp), k2.cell y2 (by simp)⟩ | exact ⟨k3.cell y0 (by simp), k3.cell y1 (by simp), k3.cell y2 (by simp)⟩ | exact ⟨k4.cell y0 (by simp), k4.cell y1 (by simp), k4.cell y2 (by simp)⟩ | exact ⟨k5.cell y0 (by simp), k5.cell y1 (by simp), k5.cell y2 (by simp)⟩ | exact ⟨k6.cell y0 (by simp), k6.cell y1 (by simp), k6.cell y2 (by simp)⟩)
            (first
            | (go_at_call 20; refine (di.out _ Td).mono ?_; rintro e v1 ⟨dfv, dlv, rfl, hdf, hdl, r1⟩; have k1 : Only [] wA.drew v1 := td.trans0 r1; have T1 := Td.kept0 r1)
            | (go_at_call 14; refine (sm.out _ _ _ hdf hdl k1).mono ?_; rintro e v2 ⟨rfl, r2⟩; have k2 : Only [] wA.drew v2 := k1.trans0 r2; have T2 := T1.kept0 r2)
            | (go_at_call 21; refine (re.out _ T2).mono ?_; rintro e v3 ⟨rv, rfl, hrv, r3⟩; have k3 : Only [] wA.drew v3 := k2.trans0 r3; have T3 := T2.kept0 r3)
            | (go_at_call 22; refine (li.out _ _ _ hrv k3).mono ?_; rintro e v4 ⟨rfl, r4⟩; have k4 : Only [] wA.drew v4 := k3.trans0 r4; have T4' := T3.kept0 r4)
            | (go_at_call 19; refine (fa.out _ T4').mono ?_; rintro e v5 ⟨rfl, r5⟩; have k5 : Only [] wA.drew v5 := k4.trans0 r5; have T5' := T4'.kept0 r5)
            | (go_at_call 30; refine (rfa.out _ T5').mono ?_; rintro e v6 ⟨rfl, r6⟩; have k6 : Only [] wA.drew v6 := k5.trans0 r6; have T6' := T5'.kept0 r6))
          clear di re fa rfa sm li Td hdf hdl hrv y0 y1 y2 T1 T2 T3 T4' T5' hlf k2 k3 k4 k5
          go_wp2
          go_roundw
          case rel => exact ⟨k + 1, f, l, rs, x, y, by omega, rfl, rfl, by go_num, T6', by (try simp); omega, by omega, hra⟩
          case measure => simp [intOf]; omega
      by_cases k4 : kd = 4
      · subst k4
        obtain ⟨ya, yb, yc, yd, ye, yf, y0, y1, _, yB1, yB2, _, _⟩ := TA.ref (by omega)
        have di := hid (fun W (h : Two w W x y f l rs) => ndisk_any w W x _ _ _ h.lgn (by omega))
        have cr := fun V W fv lv (hF : Fresh V W fv f) (hL : Fresh V W lv l) => dcrash_any W fv lv f l kp tn (hF.bs (by omega)) (hL.bs (by omega)) HKP.out (by omega)
        have rcr := fun W (hk : Only [] wA W) => rcrash_any W _ _ f l kp tn (yB1.kept0 hk) (yB2.kept0 hk) HKP.out (by omega)
        obtain ⟨C, hC⟩ : ∃ C, C = crashL f l kp tn := ⟨_, rfl⟩
        have hCl : C.length ≤ f.length + l.length := by rw [hC]; exact crashL_len _ _ _ _
        simp only [← hC] at cr rcr
        replace cr := hid cr
        replace rcr := hid rcr
        clear hC yB1 yB2
        have op := fun V W fv (h : Fresh V W fv C) => open_any W fv (.slice none 0 0) C [] (h.bs (by omega)) (Bs.empty (w := W) (by unfold maxLen; omega)) (by simp; omega)
        have rop := fun V W fv (h : Fresh V W fv C) => ropen_any W fv (.slice none 0 0) C [] (h.bs (by omega)) (Bs.empty (w := W) (by unfold maxLen; omega)) (by simp; omega)
        simp only [List.append_nil] at op rop
        obtain ⟨h1', h2', h3'⟩ := all_few C
        obtain ⟨F', hF'⟩ : ∃ F', F' = C.take (allL C).2 := ⟨_, rfl⟩
        obtain ⟨rs', hrs'⟩ : ∃ rs', rs' = (allL C).1 := ⟨_, rfl⟩
        simp only [← hF', ← hrs'] at op rop h1' h2' h3'
        have hra' : Hid (∀ r ∈ rs', r.length ≤ 1000) := h3'
        replace op := hid op
        replace rop := hid rop
        clear hF' hrs' h3'
        go_wp2_with fail
        rw [← hwA]
        clear hwA
        go_region_held3 (fun w' => w'.cell? ⟨wr.heap.size, 1, none⟩ = some (.int .i64 kp) ∧ w'.cell? ⟨wr.heap.size, 2, none⟩ = some (.int .u8 (tn.toNat : Int)) ∧ w'.cell? ⟨y, 0, none⟩ = some (.slice ya f.length yb) ∧ w'.cell? ⟨y, 1, none⟩ = some (.slice yc l.length yd))
          (first | exact ⟨q1, q2, y0, y1⟩ | exact ⟨j1.cell q1 (by simp), j1.cell q2 (by simp), j1.cell y0 (by simp), j1.cell y1 (by simp)⟩ | exact ⟨j2.cell q1 (by simp), j2.cell q2 (by simp), j2.cell y0 (by simp), j2.cell y1 (by simp)⟩ | exact ⟨j3.cell q1 (by simp), j3.cell q2 (by simp), j3.cell y0 (by simp), j3.cell y1 (by simp)⟩ | exact ⟨j4.cell q1 (by simp), j4.cell q2 (by simp), j4.cell y0 (by simp), j4.cell y1 (by simp)⟩ | exact ⟨j5.cell q1 (by simp), j5.cell q2 (by simp), j5.cell y0 (by simp), j5.cell y1 (by simp)⟩)
          (first
          | (go_at_call 20; refine (di.out _ TAd).mono ?_; rintro e u1 ⟨dfv, dlv, rfl, hdf, hdl, s1⟩; have j1 : Only [] wA u1 := dAd.trans0 s1)
          | (go_at_call 12; refine (cr.out _ _ _ _ hdf hdl).mono ?_; rintro e u2 ⟨cv, rfl, hcv, s2⟩; have j2 : Only [] wA u2 := j1.trans0 s2)
          | (go_at_call 16; refine (op.out _ _ _ hcv).mono ?_; rintro e u3 ⟨x', rfl, hL3, s3⟩; have j3 : Only [] wA u3 := j2.trans0 s3)
          | (go_at_call 15; refine (rcr.out _ j3).mono ?_; rintro e u4 ⟨cv', rfl, hcv', s4⟩; have j4 : Only [] wA u4 := j3.trans0 s4)
          | (go_at_call 25; refine (rop.out _ _ _ hcv').mono ?_; rintro e u5 ⟨y', rfl, hL5, s5⟩; have j5 : Only [] wA u5 := j4.trans0 s5))
        have TN : Two w u5 x' y' F' [] rs' := two_open (TA.o.trans0 j2) (fun k hk => mem_newBs.1 hk) hL3 s3 s4 s5 hL5 (fun k hk => mem_newBs.1 hk)
        clear di cr rcr op rop hcv hcv' hL3 hL5 y0 y1 q1 q2 q3 hdf hdl j1 j2 j3 j4 j5 s1 s2 s3 s4 s5
        clear TAd dAd oAd TA oA HT HB HKP hyl
        obtain ⟨ya, yb, yc, yd, ye, yf, y0, y1, y2, yB1, yB2, yB3, _⟩ := TN.ref (by omega)
        have di := hid (fun W (h : Two w W x' y' F' [] rs') => ndisk_any w W x' _ _ _ h.lgn (by first | omega | (simp; omega)))
        have re := hid (fun W (h : Two w W x' y' F' [] rs') => nrecords_any w W x' _ _ _ h.lgn (by omega) (fun r hr => by have := hra'.out r hr; omega))
        have fa := fun W (h : Two w W x' y' F' [] rs') => nfast_any w W x' _ _ _ h.lgn (by first | omega | (simp; omega))
        have rfa := fun W (h : Two w W x' y' F' [] rs') => (show Calls Try.prog 30 #[.pointer (some ⟨y', 0, none⟩)] W fun e w' => e = .returned (.int .i64 ((allL F').1.length : Int)) ∧ Only [] W w' by obtain ⟨cs, h⟩ := h.rlg; exact rfast_any W y' _ _ _ cs h (by first | omega | (simp; omega)))
        obtain ⟨NF, hNF⟩ : ∃ NF, NF = (allL F').1.length := ⟨_, rfl⟩
        simp only [← hNF] at fa rfa
        replace fa := hid fa
        replace rfa := hid rfa
        clear hNF
        have hNN : ((NF : Int) != (NF : Int)) = false := by simp
        have Td := TN.kept0 (Only.refl [] u5).drew
        have td : Only [] u5 u5.drew := (Only.refl [] u5).drew
        have hlf : F'.length ≤ 1000000 ∧ ([] : List UInt8).length ≤ 1000000 ∧ rs'.length ≤ 1000000 := by refine ⟨?_, ?_, ?_⟩ <;> (try simp) <;> omega
        replace hlf := hid hlf
        have sm := hid (fun W fv lv (hF : Fresh u5.drew W fv F') (hL : Fresh u5.drew W lv ([] : List UInt8)) (hk : Only [] u5 W) => same12_any W fv lv _ _ F' ([] : List UInt8) (hF.bs (by have := hlf.out; omega)) (hL.bs (by have := hlf.out; omega)) (yB1.kept0 hk) (yB2.kept0 hk))
        have li := hid (fun V W rv (h : OwnBss V W rv rs') (hk : Only [] u5 W) => (show Calls Try.prog 22 #[rv, .slice ye rs'.length yf] W fun e w' => e = .returned (.bool true) ∧ Only [] W w' from (lists_any _ _ rs' rs' _ (h.bss (by have := hlf.out; omega)) (yB3.kept0 hk)).mono (fun e w' h => by rw [decide_eq_true rfl] at h; exact h)))
        clear yB1 yB2 yB3
        go_wp2_with fail
        go_region_held3 (fun w' => w'.cell? ⟨y', 0, none⟩ = some (.slice ya F'.length yb) ∧ w'.cell? ⟨y', 1, none⟩ = some (.slice yc ([] : List UInt8).length yd) ∧ w'.cell? ⟨y', 2, none⟩ = some (.slice ye rs'.length yf))
          (first | exact ⟨y0, y1, y2⟩ | exact ⟨k1.cell y0 (by simp), k1.cell y1 (by simp), k1.cell y2 (by simp)⟩ | exact ⟨k2.cell y0 (by simp), k2.cell y1 (by simp), k2.cell y2 (by simp)⟩ | exact ⟨k3.cell y0 (by simp), k3.cell y1 (by simp), k3.cell y2 (by simp)⟩ | exact ⟨k4.cell y0 (by simp), k4.cell y1 (by simp), k4.cell y2 (by simp)⟩ | exact ⟨k5.cell y0 (by simp), k5.cell y1 (by simp), k5.cell y2 (by simp)⟩ | exact ⟨k6.cell y0 (by simp), k6.cell y1 (by simp), k6.cell y2 (by simp)⟩)
          (first
          | (go_at_call 20; refine (di.out _ Td).mono ?_; rintro e v1 ⟨dfv, dlv, rfl, hdf, hdl, r1⟩; have k1 : Only [] u5 v1 := td.trans0 r1; have T1 := Td.kept0 r1)
          | (go_at_call 14; refine (sm.out _ _ _ hdf hdl k1).mono ?_; rintro e v2 ⟨rfl, r2⟩; have k2 : Only [] u5 v2 := k1.trans0 r2; have T2 := T1.kept0 r2)
          | (go_at_call 21; refine (re.out _ T2).mono ?_; rintro e v3 ⟨rv, rfl, hrv, r3⟩; have k3 : Only [] u5 v3 := k2.trans0 r3; have T3 := T2.kept0 r3)
          | (go_at_call 22; refine (li.out _ _ _ hrv k3).mono ?_; rintro e v4 ⟨rfl, r4⟩; have k4 : Only [] u5 v4 := k3.trans0 r4; have T4' := T3.kept0 r4)
          | (go_at_call 19; refine (fa.out _ T4').mono ?_; rintro e v5 ⟨rfl, r5⟩; have k5 : Only [] u5 v5 := k4.trans0 r5; have T5' := T4'.kept0 r5)
          | (go_at_call 30; refine (rfa.out _ T5').mono ?_; rintro e v6 ⟨rfl, r6⟩; have k6 : Only [] u5 v6 := k5.trans0 r6; have T6' := T5'.kept0 r6))
        clear di re fa rfa sm li Td hdf hdl hrv y0 y1 y2 T1 T2 T3 T4' T5' hlf k2 k3 k4 k5
        go_wp2
        go_roundw
        case rel => exact ⟨k + 1, F', [], rs', x', y', by omega, rfl, rfl, by go_num, T6', by (try simp); omega, by omega, hra'⟩
        case measure => simp [intOf]; omega
      by_cases k5 : kd = 5
      · subst k5
        obtain ⟨ya, yb, yc, yd, ye, yf, y0, y1, _, yB1, yB2, _, _⟩ := TA.ref (by omega)
        have hbA := HB.out.kept0 TA.o
        obtain ⟨h1', h2', h3'⟩ := all_few (f ++ (l ++ b))
        obtain ⟨F', hF'⟩ : ∃ F', F' = (f ++ (l ++ b)).take (allL (f ++ (l ++ b))).2 := ⟨_, rfl⟩
        obtain ⟨rs', hrs'⟩ : ∃ rs', rs' = (allL (f ++ (l ++ b))).1 := ⟨_, rfl⟩
        have hCl : (f ++ (l ++ b)).length ≤ f.length + l.length + 60 := by rw [List.length_append, List.length_append]; omega
        rw [← hrs'] at h1' h3'
        rw [← hF'] at h2'
        have hF1 : F'.length ≤ f.length + l.length + 60 := Nat.le_trans h2' hCl
        have hR1 : rs'.length ≤ f.length + l.length + 60 := Nat.le_trans h1' hCl
        have hra' : Hid (∀ r ∈ rs', r.length ≤ 1000) := h3'
        have HF := hid hF'
        have HR := hid hrs'
        clear hF' hrs' h1' h2' h3' hCl
        go_wp2_with fail
        rw [← hwA]
        clear hwA
        refine plays5 _ w wA x y wr.heap.size f l b rs ba bc ya yc yb yd _ _ _ _ _ _ _ _ _ _ _ _ _ _ _ _ _ _ _ _ _ _ _ _ _ _ _ _ _ _ _ _ _ _ _ _ _ _ _ _ _ _ _ _ _ _ _ _ _ _ _ _ _ _ _ _ _ _ _ _ _ _ _ _ _ _ _ _ _ _ _ _ _ _ _ _ _ _ _ _ _ _ _ _ _ _ _ _ _ _ _ _ _ _ _ _ _ _ _ _ _ _ _ _ _ _ _ _ _ _ _ _ _ _ _ _ _ _ _ _ _ _ _ _ _ _ _ _ _ _ _ _ _ _ _ _ _ _ _ _ _ _ _ _ _ _ _ _ _ _ _ _ _ _ _ _ _ _ _ _ _ _ _ _ _ _ _ _ _ _ _ TA q3 hbA y0 y1 yB1 yB2 (by omega) F' rs' HF.out HR.out ?_
        intro x' y' v118 v121 v128 v134 v137 v138 wN TN
        clear HF HR y0 y1 q1 q2 q3 yB1 yB2 hbA
        clear TAd dAd oAd TA oA HT HB HKP hyl
        obtain ⟨ya, yb, yc, yd, ye, yf, y0, y1, y2, yB1, yB2, yB3, _⟩ := TN.ref (by omega)
        have di := hid (fun W (h : Two w W x' y' F' [] rs') => ndisk_any w W x' _ _ _ h.lgn (by first | omega | (simp; omega)))
        have re := hid (fun W (h : Two w W x' y' F' [] rs') => nrecords_any w W x' _ _ _ h.lgn (by omega) (fun r hr => by have := hra'.out r hr; omega))
        have fa := fun W (h : Two w W x' y' F' [] rs') => nfast_any w W x' _ _ _ h.lgn (by first | omega | (simp; omega))
        have rfa := fun W (h : Two w W x' y' F' [] rs') => (show Calls Try.prog 30 #[.pointer (some ⟨y', 0, none⟩)] W fun e w' => e = .returned (.int .i64 ((allL F').1.length : Int)) ∧ Only [] W w' by obtain ⟨cs, h⟩ := h.rlg; exact rfast_any W y' _ _ _ cs h (by first | omega | (simp; omega)))
        obtain ⟨NF, hNF⟩ : ∃ NF, NF = (allL F').1.length := ⟨_, rfl⟩
        simp only [← hNF] at fa rfa
        replace fa := hid fa
        replace rfa := hid rfa
        clear hNF
        have hNN : ((NF : Int) != (NF : Int)) = false := by simp
        have Td := TN.kept0 (Only.refl [] wN).drew
        have td : Only [] wN wN.drew := (Only.refl [] wN).drew
        have hlf : F'.length ≤ 1000000 ∧ ([] : List UInt8).length ≤ 1000000 ∧ rs'.length ≤ 1000000 := by refine ⟨?_, ?_, ?_⟩ <;> (try simp) <;> omega
        replace hlf := hid hlf
        have sm := hid (fun W fv lv (hF : Fresh wN.drew W fv F') (hL : Fresh wN.drew W lv ([] : List UInt8)) (hk : Only [] wN W) => same12_any W fv lv _ _ F' ([] : List UInt8) (hF.bs (by have := hlf.out; omega)) (hL.bs (by have := hlf.out; omega)) (yB1.kept0 hk) (yB2.kept0 hk))
        have li := hid (fun V W rv (h : OwnBss V W rv rs') (hk : Only [] wN W) => (show Calls Try.prog 22 #[rv, .slice ye rs'.length yf] W fun e w' => e = .returned (.bool true) ∧ Only [] W w' from (lists_any _ _ rs' rs' _ (h.bss (by have := hlf.out; omega)) (yB3.kept0 hk)).mono (fun e w' h => by rw [decide_eq_true rfl] at h; exact h)))
        clear yB1 yB2 yB3
        go_wp2_with fail
        go_region_held3 (fun w' => w'.cell? ⟨y', 0, none⟩ = some (.slice ya F'.length yb) ∧ w'.cell? ⟨y', 1, none⟩ = some (.slice yc ([] : List UInt8).length yd) ∧ w'.cell? ⟨y', 2, none⟩ = some (.slice ye rs'.length yf))
          (first | exact ⟨y0, y1, y2⟩ | exact ⟨k1.cell y0 (by simp), k1.cell y1 (by simp), k1.cell y2 (by simp)⟩ | exact ⟨k2.cell y0 (by simp), k2.cell y1 (by simp), k2.cell y2 (by simp)⟩ | exact ⟨k3.cell y0 (by simp), k3.cell y1 (by simp), k3.cell y2 (by simp)⟩ | exact ⟨k4.cell y0 (by simp), k4.cell y1 (by simp), k4.cell y2 (by simp)⟩ | exact ⟨k5.cell y0 (by simp), k5.cell y1 (by simp), k5.cell y2 (by simp)⟩ | exact ⟨k6.cell y0 (by simp), k6.cell y1 (by simp), k6.cell y2 (by simp)⟩)
          (first
          | (go_at_call 20; refine (di.out _ Td).mono ?_; rintro e v1 ⟨dfv, dlv, rfl, hdf, hdl, r1⟩; have k1 : Only [] wN v1 := td.trans0 r1; have T1 := Td.kept0 r1)
          | (go_at_call 14; refine (sm.out _ _ _ hdf hdl k1).mono ?_; rintro e v2 ⟨rfl, r2⟩; have k2 : Only [] wN v2 := k1.trans0 r2; have T2 := T1.kept0 r2)
          | (go_at_call 21; refine (re.out _ T2).mono ?_; rintro e v3 ⟨rv, rfl, hrv, r3⟩; have k3 : Only [] wN v3 := k2.trans0 r3; have T3 := T2.kept0 r3)
          | (go_at_call 22; refine (li.out _ _ _ hrv k3).mono ?_; rintro e v4 ⟨rfl, r4⟩; have k4 : Only [] wN v4 := k3.trans0 r4; have T4' := T3.kept0 r4)
          | (go_at_call 19; refine (fa.out _ T4').mono ?_; rintro e v5 ⟨rfl, r5⟩; have k5 : Only [] wN v5 := k4.trans0 r5; have T5' := T4'.kept0 r5)
          | (go_at_call 30; refine (rfa.out _ T5').mono ?_; rintro e v6 ⟨rfl, r6⟩; have k6 : Only [] wN v6 := k5.trans0 r6; have T6' := T5'.kept0 r6))
        clear di re fa rfa sm li Td hdf hdl hrv y0 y1 y2 T1 T2 T3 T4' T5' hlf k2 k3 k4 k5
        go_wp2
        go_roundw
        case rel => exact ⟨k + 1, F', [], rs', x', y', by omega, rfl, rfl, by go_num, T6', by (try simp); omega, by omega, hra'⟩
        case measure => simp [intOf]; omega
      · have m1 : (kd == 1) = false := by simpa using k1
        have m2 : (kd == 2) = false := by simpa using k2
        have m3 : (kd == 3) = false := by simpa using k3
        have m4 : (kd == 4) = false := by simpa using k4
        have m5 : (kd == 5) = false := by simpa using k5
        go_wp2_with fail
        rw [← hwA]
        clear hwA
        obtain ⟨ya, yb, yc, yd, ye, yf, y0, y1, y2, yB1, yB2, yB3, _⟩ := TA.ref (by omega)
        have di := hid (fun W (h : Two w W x y f l rs) => ndisk_any w W x _ _ _ h.lgn (by first | omega | (simp; omega)))
        have re := hid (fun W (h : Two w W x y f l rs) => nrecords_any w W x _ _ _ h.lgn (by omega) (fun r hr => by have := hra.out r hr; omega))
        have fa := fun W (h : Two w W x y f l rs) => nfast_any w W x _ _ _ h.lgn (by first | omega | (simp; omega))
        have rfa := fun W (h : Two w W x y f l rs) => (show Calls Try.prog 30 #[.pointer (some ⟨y, 0, none⟩)] W fun e w' => e = .returned (.int .i64 ((allL f).1.length : Int)) ∧ Only [] W w' by obtain ⟨cs, h⟩ := h.rlg; exact rfast_any W y _ _ _ cs h (by first | omega | (simp; omega)))
        obtain ⟨NF, hNF⟩ : ∃ NF, NF = (allL f).1.length := ⟨_, rfl⟩
        simp only [← hNF] at fa rfa
        replace fa := hid fa
        replace rfa := hid rfa
        clear hNF
        have hNN : ((NF : Int) != (NF : Int)) = false := by simp
        have Td := TA.kept0 (Only.refl [] wA).drew
        have td : Only [] wA wA.drew := (Only.refl [] wA).drew
        have hlf : f.length ≤ 1000000 ∧ l.length ≤ 1000000 ∧ rs.length ≤ 1000000 := by refine ⟨?_, ?_, ?_⟩ <;> (try simp) <;> omega
        replace hlf := hid hlf
        have sm := hid (fun W fv lv (hF : Fresh wA.drew W fv f) (hL : Fresh wA.drew W lv l) (hk : Only [] wA W) => same12_any W fv lv _ _ f l (hF.bs (by have := hlf.out; omega)) (hL.bs (by have := hlf.out; omega)) (yB1.kept0 hk) (yB2.kept0 hk))
        have li := hid (fun V W rv (h : OwnBss V W rv rs) (hk : Only [] wA W) => (show Calls Try.prog 22 #[rv, .slice ye rs.length yf] W fun e w' => e = .returned (.bool true) ∧ Only [] W w' from (lists_any _ _ rs rs _ (h.bss (by have := hlf.out; omega)) (yB3.kept0 hk)).mono (fun e w' h => by rw [decide_eq_true rfl] at h; exact h)))
        clear yB1 yB2 yB3
        go_wp2_with fail
        go_region_held3 (fun w' => w'.cell? ⟨y, 0, none⟩ = some (.slice ya f.length yb) ∧ w'.cell? ⟨y, 1, none⟩ = some (.slice yc l.length yd) ∧ w'.cell? ⟨y, 2, none⟩ = some (.slice ye rs.length yf))
          (first | exact ⟨y0, y1, y2⟩ | exact ⟨k1.cell y0 (by simp), k1.cell y1 (by simp), k1.cell y2 (by simp)⟩ | exact ⟨k2.cell y0 (by simp), k2.cell y1 (by simp), k2.cell y2 (by simp)⟩ | exact ⟨k3.cell y0 (by simp), k3.cell y1 (by simp), k3.cell y2 (by simp)⟩ | exact ⟨k4.cell y0 (by simp), k4.cell y1 (by simp), k4.cell y2 (by simp)⟩ | exact ⟨k5.cell y0 (by simp), k5.cell y1 (by simp), k5.cell y2 (by simp)⟩ | exact ⟨k6.cell y0 (by simp), k6.cell y1 (by simp), k6.cell y2 (by simp)⟩)
          (first
          | (go_at_call 20; refine (di.out _ Td).mono ?_; rintro e v1 ⟨dfv, dlv, rfl, hdf, hdl, r1⟩; have k1 : Only [] wA v1 := td.trans0 r1; have T1 := Td.kept0 r1)
          | (go_at_call 14; refine (sm.out _ _ _ hdf hdl k1).mono ?_; rintro e v2 ⟨rfl, r2⟩; have k2 : Only [] wA v2 := k1.trans0 r2; have T2 := T1.kept0 r2)
          | (go_at_call 21; refine (re.out _ T2).mono ?_; rintro e v3 ⟨rv, rfl, hrv, r3⟩; have k3 : Only [] wA v3 := k2.trans0 r3; have T3 := T2.kept0 r3)
          | (go_at_call 22; refine (li.out _ _ _ hrv k3).mono ?_; rintro e v4 ⟨rfl, r4⟩; have k4 : Only [] wA v4 := k3.trans0 r4; have T4' := T3.kept0 r4)
          | (go_at_call 19; refine (fa.out _ T4').mono ?_; rintro e v5 ⟨rfl, r5⟩; have k5 : Only [] wA v5 := k4.trans0 r5; have T5' := T4'.kept0 r5)
          | (go_at_call 30; refine (rfa.out _ T5').mono ?_; rintro e v6 ⟨rfl, r6⟩; have k6 : Only [] wA v6 := k5.trans0 r6; have T6' := T5'.kept0 r6))
        clear di re fa rfa sm li Td hdf hdl hrv y0 y1 y2 T1 T2 T3 T4' T5' hlf k2 k3 k4 k5
        go_wp2
        go_roundw
        case rel => exact ⟨k + 1, f, l, rs, x, y, by omega, rfl, rfl, by go_num, T6', by (try simp); omega, by omega, hra⟩
        case measure => simp [intOf]; omega
    · obtain rfl : k = ops.length := by omega
      go_wp2
      go_ret
      exact ⟨rfl, T.o⟩
end Go.Proofs.Ytlcfmocojakhpaa.Sh
