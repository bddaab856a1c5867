/- Texts of this proof, merged: LawKeyperBlind. -/
import Derived.Test.YtnlmeaijnfjakaaKeyperBlindP1
/- Two keypers that were told shares of the same lengths answer alike: the law's walk. (Printed by gen_kblind.py.) -/
namespace Go.Proofs.Ytnlmeaijnfjakaa.Sh
set_option linter.unusedSimpArgs false
set_option linter.unusedVariables false
open Go Go.RowKit

theorem field_dsk (a b : Value) (W : World) : (Instr.field 29 (.agg #[a, b]) 0).run Try.prog W = .ok a W := by kernel_rfl
theorem bytes_set8 (z : List UInt8) (k : Nat) (x : UInt8) : (bytes z).set k (vU8 x) = bytes (z.set k x) := by simp [bytes, List.map_set]
theorem lenL_at {x y : List (List UInt8)} (h : LenL x y) (k : Nat) (hk : k < x.length) (hy : k < y.length) : (y[k]).length = (x[k]).length := by
  have h1 := congrArg (fun l => l[k]?) h
  simp only [List.getElem?_map, List.getElem?_eq_getElem hk, List.getElem?_eq_getElem hy, Option.map_some, Option.some.injEq] at h1
  exact h1.symm

set_option maxRecDepth 20000 in
set_option maxHeartbeats 12800000 in
theorem keyperBlind_mid (w : World) {v : Value} {l : List KOp} {mask : UInt8} (hl : KOps w v l) (hf : fewK l = true) :
    Calls Try.prog 3 #[v, .int .u8 (mask.toNat : Int)] w fun e w' => e = .returned (.bool true) ∧ Only [] w w' := by
  obtain ⟨va, vc, rfl, h1, h2, h3⟩ := hl.form
  obtain ⟨hfe, hl60⟩ := fewK_ok hf
  replace hfe := hid hfe
  have hok := hid hl.ok
  have hn0 : ∀ W : World, Bs W (.slice none 0 0) [] := fun W => Bs.empty (by unfold maxLen; omega)
  have hop := fun W (o : Only [] w W) => ky_open w W o _ _ [] [] (hn0 W) (hn0 W) (by simp)
  rw [show allL ([] ++ []) = ([], 0) from allL_bad _ (by simp [firstL])] at hop
  replace hop := hid hop
  have hfw := fun W (o : Only [] w W) => few20_any _ l W (hl.kept0 o)
  rw [hf] at hfw
  replace hfw := hid hfw
  clear hn0 hf
  go_enter Try.func3, Try.ntmps3
  go_wp2_with fail
  refine (awake20_any _).mono ?_
  rintro e w1 ⟨rfl, o1⟩
  go_wp2_with fail
  refine (hfw.out _ o1).mono ?_
  rintro e w' ⟨rfl, h9⟩
  obtain rfl : w1 = w' := h9.symm
  clear h9
  go_wp2_with fail
  refine (hop.out _ o1).mono ?_
  rintro e w2 ⟨ka, A2, rfl, a2, _, o2⟩
  go_wp2_with fail
  refine (hop.out _ a2.only).mono ?_
  rintro e w3 ⟨kb, B3, rfl, b3, hb3, o3⟩
  have a3 := a2.kept0 o3
  have dj3 : ∀ i ∈ A2, i ∉ B3 := fun i hi hm => by have := a2.kb.lt i hi; have := hb3 i hm; omega
  clear hfw hop a2 hb3
  go_wp2_with fail
  go_loopw [34] (fun i wr => ∃ (n : Nat) (RA RB : List (List UInt8)) (BA BB : List Nat), n ≤ l.length ∧ i = .int .i64 n ∧ Ky w wr ka RA BA ∧ Ky w wr kb RB BB ∧ Few n RA ∧ Few n RB ∧ Blind RA RB ∧ ∀ i ∈ BA, i ∉ BB) (fun i _ => l.length - (intOf i).toNat)
  case atStart => exact ⟨0, [], [], A2, B3, Nat.zero_le _, rfl, a3, b3, Few.nil, Few.nil, blind_nil, dj3⟩
  case round =>
    obtain ⟨n, rsA, rsB, BA, BB, hn, rfl, ka0, kb0, hfA, hfB, hbl, hdj⟩ := hrel
    by_cases hlt : n < l.length
    · obtain ⟨b, o, rfl, hel⟩ := hl.at n hlt
      have hoks := hok.out _ (List.getElem_mem hlt)
      have hsml := hfe.out _ (List.getElem_mem hlt)
      obtain ⟨O, hO'⟩ : ∃ O, O = l[n] := ⟨_, rfl⟩
      rw [← hO'] at hel hoks hsml
      clear hO'
      obtain ⟨kind, keep, a, torn, share, slot, L⟩ := O
      obtain ⟨⟨c0, c1, c2, c3, c5⟩, ⟨x4, c4, h4⟩, x6, c6, h6⟩ := hel
      simp only at c0 c1 c2 c3 c4 c5 c6 h4 h6 hsml
      obtain ⟨sa, sc, rfl⟩ := bs_form h4
      obtain ⟨ga, gc, rfl⟩ := bs_form h6
      replace c0 := ka0.only.cell c0 (by simp)
      replace c1 := ka0.only.cell c1 (by simp)
      replace c2 := ka0.only.cell c2 (by simp)
      replace c3 := ka0.only.cell c3 (by simp)
      replace c4 := ka0.only.cell c4 (by simp)
      replace c5 := ka0.only.cell c5 (by simp)
      replace c6 := ka0.only.cell c6 (by simp)
      have hSw := hid h4
      have hLw := hid h6
      have hslot : slot < 18446744073709551616 := hoks.2.2
      obtain ⟨w4, hw4⟩ : ∃ w4, w4 = wr.alloc (Obj.cells #[.int .i64 kind, .int .i64 keep, .int .u8 (a.toNat : Int), .int .u8 (torn.toNat : Int), .slice sa share.length sc, .int .u64 (slot : Int), .slice ga L.length gc] 32) := ⟨_, rfl⟩
      have o4 : Only [] wr w4 := by rw [hw4]; exact (Only.refl [] wr).alloc _
      obtain ⟨ob, hob⟩ : ∃ ob, ob = wr.heap.size := ⟨_, rfl⟩
      have d2 : w4.cell? ⟨ob, 2, none⟩ = some (.int .u8 (a.toNat : Int)) := by rw [hw4, hob]; simp [go_sem]
      have d4 : w4.cell? ⟨ob, 4, none⟩ = some (.slice sa share.length sc) := by rw [hw4, hob]; simp [go_sem]
      have d5 : w4.cell? ⟨ob, 5, none⟩ = some (.int .u64 (slot : Int)) := by rw [hw4, hob]; simp [go_sem]
      have d6 : w4.cell? ⟨ob, 6, none⟩ = some (.slice ga L.length gc) := by rw [hw4, hob]; simp [go_sem]
      have s4 : w4.heap.size = ob + 1 := by rw [hw4, hob]; simp
      have hob1 : wr.heap.size ≤ ob := by omega
      have hob2 : ob ≤ wr.heap.size := by omega
      have hAl := hid ka0.kb.lt
      have hBl := hid kb0.kb.lt
      have hobA : ob ∉ BA := fun hm => by have := hAl.out ob hm; omega
      have hobB : ob ∉ BB := fun hm => by have := hBl.out ob hm; omega
      have hwb := ka0.only.size
      have a4 := ka0.kept0 o4
      have b4 := kb0.kept0 o4
      have od : Only [] w4 w4.drew := (Only.refl [] w4).drew
      replace hbl := hid hbl
      have hn60 : n ≤ 60 := by omega
      clear ka0 kb0 h4 h6 o4 hoks
      by_cases e1 : kind = 1
      · subst e1
        have na := hid (fun W => name_any W a)
        have hh := fun W (h : Ky w W ka rsA BA) => mhas_any W ka rsA BA h.kb (nm a) (nm_len a)
        cases hg : getS (openK rsA).sh (nm a) with
        | some t =>
          simp only [hg, Option.isSome_some] at hh
          replace hh := hid hh
          clear hg
          go_wp2_with fail
          rw [← hw4, ← hob]
          clear hw4 hob
          refine (na.out _).mono ?_
          rintro e w5 ⟨rfl, q5⟩
          go_wp2_with fail
          refine (hh.out _ (a4.kept0 q5)).mono ?_
          rintro e w6 ⟨rfl, q6⟩
          have q46 := q5.trans0 q6
          have kA := a4.kept0 q46
          have kB := b4.kept0 q46
          clear a4 b4 hh na
          go_wp2
          go_roundw
          case rel => exact ⟨n + 1, rsA, rsB, BA, BB, by omega, by go_num, kA, kB, hfA.same, hfB.same, hbl.out, hdj⟩
          case measure => simp [intOf]; omega
        | none =>
          simp only [hg, Option.isSome_none] at hh
          replace hh := hid hh
          have kpA := hid (fun W (h : Ky w W ka rsA BA) (hb : Bs W (.slice sa share.length sc) share) => ky_keep w W ka rsA BA n h hfA (by omega) (nm a) (nm_len a) _ share hb (by omega))
          have kpB := hid (fun W (h : Ky w W kb rsB BB) v xs (hx : xs.length = share.length) (hb : Bs W v xs) => ky_keep w W kb rsB BB n h hfB (by omega) (nm a) (nm_len a) v xs hb (by omega))
          have hbk := hid (fun xs (hx : xs.length = share.length) => hbl.out.keep (nm a) share xs (nm_len a) hx.symm hg)
          clear hg
          go_wp2_with fail
          rw [← hw4, ← hob]
          clear hw4 hob
          refine (na.out _).mono ?_
          rintro e w5 ⟨rfl, q5⟩
          go_wp2_with fail
          refine (hh.out _ (a4.kept0 q5)).mono ?_
          rintro e w6 ⟨rfl, q6⟩
          have q46 := q5.trans0 q6
          have s46 := q46.size
          have a6 := a4.kept0 q46
          have b6 := b4.kept0 q46
          have hownA := own_built w6 [] 5 1 0 rfl (by unfold maxLen; omega)
          have oal := (Only.refl [] w6).alloc (Obj.cells #[] 5)
          have d4L := oal.cell (q46.cell d4 (by simp)) (by simp)
          have hbA := (hSw.out.kept0 a6.only).kept0 oal
          go_wp2_with (at_builtin; refine wpList_app (by rfl) _ _ 27 (by rfl) w6.heap.size 5 1 1 el_u8 (by rfl) hownA (by rfl) hbA (bytes_one share) (by omega) (by omega) (by simp) ?_; intro v7 w7 hown7 happ7; have hown := own_cast hown7 (show 0 + share.length = share.length by omega) (show [] ++ bytes share = bytes share by simp); obtain ⟨xa, xc, rfl⟩ := own_form hown)
          have o7 : Only [] w6 w7 := oal.app happ7 (fun k hk => .inr (hownA.lt k hk).1)
          have s7 := o7.size
          have a7 := a6.kept0 o7
          have b7 := b6.kept0 o7
          have e2 := o7.cell (q46.cell d2 (by simp)) (by simp)
          have e4 := o7.cell (q46.cell d4 (by simp)) (by simp)
          have hxb7 : ∀ i, (Value.slice xa share.length xc).ownBlock = some i → i ∉ BA := fun i hi hm => by have := (hown.lt i hi).1; have := hAl.out i hm; omega
          have hxw7 : ∀ i, (Value.slice xa share.length xc).ownBlock = some i → w6.heap.size ≤ i ∧ i ∉ BB := fun i hi => ⟨(hown.lt i hi).1, fun hm => by have := (hown.lt i hi).1; have := hBl.out i hm; omega⟩
          clear hown7 happ7 hownA d4L hbA oal a6 b6 a4 b4 d2 d4 d5 d6 hh q46
          by_cases hs0 : share.length = 0
          · have hz : ¬ ((0 : Int) < (share.length : Int)) := by omega
            clear hs0
            go_wp2_with fail
            go_loopw [56] (fun i wv => i = .int .i64 0 ∧ wv = w7) (fun i _ => 0)
            case atStart => exact ⟨rfl, rfl⟩
            case round =>
              obtain ⟨rfl, h9⟩ := hrel
              obtain rfl : w7 = wr := h9.symm
              clear h9
              have kaW := a7
              have kbW := b7
              have hxs : share.length = share.length := rfl
              have hxb := hxb7
              obtain ⟨xs, hxs', hother⟩ : ∃ xs, xs = share ∧ Bs w7 (.slice xa share.length xc) xs := ⟨share, rfl, Cs.of_own hown (by omega)⟩
              have hxs : xs.length = share.length := by rw [hxs']
              clear hxs' hown a7 b7
              have odv : Only [] w7 w7.drew := (Only.refl [] w7).drew
              obtain ⟨hcd, bl⟩ := hbk.out xs hxs
              have kpb := fun W (h : Ky w W kb rsB BB) (hb : Bs W (.slice xa share.length xc) xs) => kpB.out W h (.slice xa share.length xc) xs hxs hb
              rw [← hcd] at kpb
              have kpa := kpA.out
              obtain ⟨C, hC⟩ : ∃ C, C = (keepK (openK rsA) (nm a) share).1 := ⟨_, rfl⟩
              obtain ⟨RA, hRA⟩ : ∃ R, R = keepR rsA (nm a) share := ⟨_, rfl⟩
              obtain ⟨RB, hRB⟩ : ∃ R, R = keepR rsB (nm a) xs := ⟨_, rfl⟩
              simp only [← hC, ← hRA] at kpa
              simp only [← hC, ← hRB] at kpb
              rw [← hRA, ← hRB] at bl
              replace kpa := hid kpa
              replace kpb := hid kpb
              replace bl := hid bl
              have HX := hid hother
              have HS := hid (hSw.out.kept0 kaW.only)
              clear hcd hC hRA hRB kpA kpB hbk hother
              go_wp2_with fail
              go_region_held3 (fun W => W.cell? ⟨ob, 2, none⟩ = some (.int .u8 (a.toNat : Int)) ∧ W.cell? ⟨ob, 4, none⟩ = some (.slice sa share.length sc))
                (first | exact ⟨e2, e4⟩ | exact ⟨odv.cell e2 (by simp), odv.cell e4 (by simp)⟩ | exact ⟨px1.cell e2 (by simp), px1.cell e4 (by simp)⟩ | exact ⟨ox2.cell (px1.cell e2 (by simp)) hobA, ox2.cell (px1.cell e4 (by simp)) hobA⟩ | exact ⟨px3.cell (ox2.cell (px1.cell e2 (by simp)) hobA) (by simp), px3.cell (ox2.cell (px1.cell e4 (by simp)) hobA) (by simp)⟩ | exact ⟨ox4.cell (px3.cell (ox2.cell (px1.cell e2 (by simp)) hobA) (by simp)) hobB, ox4.cell (px3.cell (ox2.cell (px1.cell e4 (by simp)) hobA) (by simp)) hobB⟩)
                (first
                | (have := px3; go_at_call 14; refine (kpb.out _ (((kbW.kept0 px1).away ox2 (fun i hi => ⟨fun hm => hdj i hi hm, kaW.new i hi⟩)).kept0 px3) ((((HX.out.kept0 px1).kept ox2 (fun i hi => hxb i hi)).kept0 px3))).mono ?_; rintro e wx4 ⟨rfl, Bx, kx4, bx4, ox4, fx4⟩)
                | (have := ox2; go_at_call 13; refine (na.out _).mono ?_; rintro e wx3 ⟨rfl, qx3⟩; have px3 : Only [] wx2 wx3 := qx3)
                | (have := px1; go_at_call 14; refine (kpa.out _ (kaW.kept0 px1) (HS.out.kept0 px1)).mono ?_; rintro e wx2 ⟨rfl, Ax, kx2, ax2, ox2, fx2⟩)
                | (go_at_call 13; refine (na.out _).mono ?_; rintro e wx1 ⟨rfl, qx1⟩; have px1 : Only [] w7 wx1 := odv.trans0 qx1))
              have sx1 := px1.size
              have sx2 := ox2.size
              have sx3 := px3.size
              have hxl2 := kx2.kb.lt
              have dx2 : ∀ i ∈ Ax, i ∉ BB := fun i hi hm => by
                rcases ax2 i hi with h | h
                · exact hdj i h hm
                · have := hBl.out i hm; omega
              have dj : ∀ i ∈ Ax, i ∉ Bx := fun i hi hm => by
                rcases bx4 i hm with h | h
                · exact dx2 i hi h
                · have := hxl2 i hi; omega
              have kA := (kx2.kept0 px3).away ox4 (fun i hi => ⟨fun hm => dx2 i hm hi, kbW.new i hi⟩)
              have kB := kx4
              have fA := fx2
              have fB := fx4
              clear kx2 kx4 ax2 bx4 dx2 hxl2 kpa kpb HX HS kaW kbW
              have lA := hid (mlen_any wx4 ka RA Ax kA.kb)
              have hLE := shape_len bl.out.like.sh
              have lB := mlen_any wx4 kb RB Bx kB.kb
              rw [← hLE] at lB
              replace lB := hid lB
              clear hLE
              have dA := hid (fun W (h : Ky w W ka RA Ax) => ky_disk w W ka RA Ax (n + 1) h fA (by omega))
              have dB := hid (fun W (h : Ky w W kb RB Bx) => ky_disk w W kb RB Bx (n + 1) h fB (by omega))
              have hFL := lenL_flat bl.out.len
              obtain ⟨FL, hFL1⟩ : ∃ FL, FL = (flatL RA).length := ⟨_, rfl⟩
              rw [← hFL1] at hFL
              replace hFL := hid hFL
              replace hFL1 := hid hFL1
              go_wp2_with fail
              refine lA.out.mono ?_
              rintro e w' ⟨rfl, h9⟩
              obtain rfl : wx4 = w' := h9.symm
              clear h9
              go_wp2_with fail
              refine lB.out.mono ?_
              rintro e w' ⟨rfl, h9⟩
              obtain rfl : wx4 = w' := h9.symm
              clear h9
              have hfd := field_dsk
              go_wp2_with fail
              refine (dA.out _ kA).mono ?_
              rintro e wA ⟨fvA, lvA, rfl, gA, _, qA⟩
              obtain ⟨va, vca, rfl⟩ := own_form gA
              rw [← hFL1.out]
              have kA9 := kA.kept0 qA
              have kB9 := kB.kept0 qA
              go_wp2_with fail
              refine (dB.out _ kB9).mono ?_
              rintro e wB ⟨fvB, lvB, rfl, gB, _, qB⟩
              obtain ⟨vb, vcb, rfl⟩ := own_form gB
              rw [← hFL.out]
              have kA8 := kA9.kept0 qB
              have kB8 := kB9.kept0 qB
              clear lA lB dA dB kA kB kA9 kB9 gA gB
              go_wp2
              go_roundw
              case rel => exact ⟨n + 1, RA, RB, Ax, Bx, by omega, by go_num, kA8, kB8, fA, fB, bl.out, dj⟩
              case measure => simp [intOf]; omega
          · obtain ⟨g, xc', he, hg1, hg2, hg3, hg4, _⟩ := own_at hown (by omega)
            simp only [Value.slice.injEq] at he
            obtain ⟨rfl, _, rfl⟩ := he
            go_wp2_with fail
            go_loopw [56] (fun i wv => ∃ (j : Nat) (xs : List UInt8), j ≤ share.length ∧ i = .int .i64 j ∧ xs.length = share.length ∧ wv.ownsRow w6.heap.size 5 1 (.slice (some ⟨g, 0, none⟩) share.length xc) share.length (bytes xs) ∧ Only [g] w7 wv) (fun i _ => share.length - (intOf i).toNat)
            case atStart => exact ⟨0, share, Nat.zero_le _, rfl, rfl, hown, Only.refl _ _⟩
            case round =>
              obtain ⟨j, xs, hj, rfl, hxs, hor, hjo⟩ := hrel
              by_cases hjl : j < share.length
              · obtain ⟨g', xc2, he, _, _, _, _, hcell⟩ := own_at hor (by omega)
                simp only [Value.slice.injEq, Option.some.injEq, Addr.mk.injEq, and_true, true_and] at he
                obtain ⟨rfl, rfl⟩ := he
                obtain ⟨x, hx⟩ : ∃ x, x = xs[j]'(by omega) := ⟨_, rfl⟩
                have hcj := hcell j (vU8 x) (by rw [hx]; exact bytes_get (by omega))
                obtain ⟨p1, p2⟩ := hcj
                obtain ⟨y, hy⟩ : ∃ y : UInt8, ((mask.toNat : Int) + (j : Int)) % 256 = (y.toNat : Int) := u8_of ⟨by omega, by omega⟩
                have hxy := xor_u8 x y
                have hset := hid (own_set hor hjl (vU8 (x ^^^ y)))
                have hjo2 := hid hjo
                clear hcell hor hx
                go_wp2
                go_roundw
                case rel => exact ⟨j + 1, xs.set j (x ^^^ y), by omega, by go_num, by simp [hxs], by have h9 := hset.out; rw [bytes_set8] at h9; simpa [vU8, UInt8.toNat_xor] using h9, hjo2.out.setCell (.inl (by simp)) _⟩
                case measure => simp [intOf]; omega
              · obtain rfl : j = share.length := by omega
                have kaW := a7.away hjo (fun i hi => by rw [List.mem_singleton.1 hi]; exact ⟨hxb7 g rfl, by have := (hxw7 g rfl).1; omega⟩)
                have kbW := b7.away hjo (fun i hi => by rw [List.mem_singleton.1 hi]; exact ⟨(hxw7 g rfl).2, by have := (hxw7 g rfl).1; omega⟩)
                have sjo := hjo.size
                have hgo : ob ≠ g := by have := (hxw7 g rfl).1; omega
                replace e2 := hjo.cell e2 (by simpa using hgo)
                replace e4 := hjo.cell e4 (by simpa using hgo)
                have hxb := hxb7
                have hother : Bs wr (.slice (some ⟨g, 0, none⟩) share.length xc) xs := by
                  have := Cs.of_own hor (by omega)
                  unfold Bs
                  rw [hxs]
                  exact this
                clear hor a7 b7 hown
                have odv : Only [] wr wr.drew := (Only.refl [] wr).drew
                obtain ⟨hcd, bl⟩ := hbk.out xs hxs
                have kpb := fun W (h : Ky w W kb rsB BB) (hb : Bs W (.slice (some ⟨g, 0, none⟩) share.length xc) xs) => kpB.out W h (.slice (some ⟨g, 0, none⟩) share.length xc) xs hxs hb
                rw [← hcd] at kpb
                have kpa := kpA.out
                obtain ⟨C, hC⟩ : ∃ C, C = (keepK (openK rsA) (nm a) share).1 := ⟨_, rfl⟩
                obtain ⟨RA, hRA⟩ : ∃ R, R = keepR rsA (nm a) share := ⟨_, rfl⟩
                obtain ⟨RB, hRB⟩ : ∃ R, R = keepR rsB (nm a) xs := ⟨_, rfl⟩
                simp only [← hC, ← hRA] at kpa
                simp only [← hC, ← hRB] at kpb
                rw [← hRA, ← hRB] at bl
                replace kpa := hid kpa
                replace kpb := hid kpb
                replace bl := hid bl
                have HX := hid hother
                have HS := hid (hSw.out.kept0 kaW.only)
                clear hcd hC hRA hRB kpA kpB hbk hother
                go_wp2_with fail
                go_region_held3 (fun W => W.cell? ⟨ob, 2, none⟩ = some (.int .u8 (a.toNat : Int)) ∧ W.cell? ⟨ob, 4, none⟩ = some (.slice sa share.length sc))
                  (first | exact ⟨e2, e4⟩ | exact ⟨odv.cell e2 (by simp), odv.cell e4 (by simp)⟩ | exact ⟨px1.cell e2 (by simp), px1.cell e4 (by simp)⟩ | exact ⟨ox2.cell (px1.cell e2 (by simp)) hobA, ox2.cell (px1.cell e4 (by simp)) hobA⟩ | exact ⟨px3.cell (ox2.cell (px1.cell e2 (by simp)) hobA) (by simp), px3.cell (ox2.cell (px1.cell e4 (by simp)) hobA) (by simp)⟩ | exact ⟨ox4.cell (px3.cell (ox2.cell (px1.cell e2 (by simp)) hobA) (by simp)) hobB, ox4.cell (px3.cell (ox2.cell (px1.cell e4 (by simp)) hobA) (by simp)) hobB⟩)
                  (first
                  | (have := px3; go_at_call 14; refine (kpb.out _ (((kbW.kept0 px1).away ox2 (fun i hi => ⟨fun hm => hdj i hi hm, kaW.new i hi⟩)).kept0 px3) ((((HX.out.kept0 px1).kept ox2 (fun i hi => hxb i hi)).kept0 px3))).mono ?_; rintro e wx4 ⟨rfl, Bx, kx4, bx4, ox4, fx4⟩)
                  | (have := ox2; go_at_call 13; refine (na.out _).mono ?_; rintro e wx3 ⟨rfl, qx3⟩; have px3 : Only [] wx2 wx3 := qx3)
                  | (have := px1; go_at_call 14; refine (kpa.out _ (kaW.kept0 px1) (HS.out.kept0 px1)).mono ?_; rintro e wx2 ⟨rfl, Ax, kx2, ax2, ox2, fx2⟩)
                  | (go_at_call 13; refine (na.out _).mono ?_; rintro e wx1 ⟨rfl, qx1⟩; have px1 : Only [] wr wx1 := odv.trans0 qx1))
                have sx1 := px1.size
                have sx2 := ox2.size
                have sx3 := px3.size
                have hxl2 := kx2.kb.lt
                have dx2 : ∀ i ∈ Ax, i ∉ BB := fun i hi hm => by
                  rcases ax2 i hi with h | h
                  · exact hdj i h hm
                  · have := hBl.out i hm; omega
                have dj : ∀ i ∈ Ax, i ∉ Bx := fun i hi hm => by
                  rcases bx4 i hm with h | h
                  · exact dx2 i hi h
                  · have := hxl2 i hi; omega
                have kA := (kx2.kept0 px3).away ox4 (fun i hi => ⟨fun hm => dx2 i hm hi, kbW.new i hi⟩)
                have kB := kx4
                have fA := fx2
                have fB := fx4
                clear kx2 kx4 ax2 bx4 dx2 hxl2 kpa kpb HX HS kaW kbW
                have lA := hid (mlen_any wx4 ka RA Ax kA.kb)
                have hLE := shape_len bl.out.like.sh
                have lB := mlen_any wx4 kb RB Bx kB.kb
                rw [← hLE] at lB
                replace lB := hid lB
                clear hLE
                have dA := hid (fun W (h : Ky w W ka RA Ax) => ky_disk w W ka RA Ax (n + 1) h fA (by omega))
                have dB := hid (fun W (h : Ky w W kb RB Bx) => ky_disk w W kb RB Bx (n + 1) h fB (by omega))
                have hFL := lenL_flat bl.out.len
                obtain ⟨FL, hFL1⟩ : ∃ FL, FL = (flatL RA).length := ⟨_, rfl⟩
                rw [← hFL1] at hFL
                replace hFL := hid hFL
                replace hFL1 := hid hFL1
                go_wp2_with fail
                refine lA.out.mono ?_
                rintro e w' ⟨rfl, h9⟩
                obtain rfl : wx4 = w' := h9.symm
                clear h9
                go_wp2_with fail
                refine lB.out.mono ?_
                rintro e w' ⟨rfl, h9⟩
                obtain rfl : wx4 = w' := h9.symm
                clear h9
                have hfd := field_dsk
                go_wp2_with fail
                refine (dA.out _ kA).mono ?_
                rintro e wA ⟨fvA, lvA, rfl, gA, _, qA⟩
                obtain ⟨va, vca, rfl⟩ := own_form gA
                rw [← hFL1.out]
                have kA9 := kA.kept0 qA
                have kB9 := kB.kept0 qA
                go_wp2_with fail
                refine (dB.out _ kB9).mono ?_
                rintro e wB ⟨fvB, lvB, rfl, gB, _, qB⟩
                obtain ⟨vb, vcb, rfl⟩ := own_form gB
                rw [← hFL.out]
                have kA8 := kA9.kept0 qB
                have kB8 := kB9.kept0 qB
                clear lA lB dA dB kA kB kA9 kB9 gA gB
                go_wp2
                go_roundw
                case rel => exact ⟨n + 1, RA, RB, Ax, Bx, by omega, by go_num, kA8, kB8, fA, fB, bl.out, dj⟩
                case measure => simp [intOf]; omega
      by_cases e2 : kind = 2
      · subst e2
        obtain ⟨ids, hids⟩ : ∃ ids, ids = L.map nm := ⟨_, rfl⟩
        have hidl : ∀ d ∈ ids, d.length = 32 := by
          rw [hids]
          intro d hd
          obtain ⟨y, _, rfl⟩ := List.mem_map.1 hd
          exact nm_len y
        have hil : ids.length ≤ 60 := by rw [hids]; simp; omega
        have na := fun W (hb : Bs W (.slice ga L.length gc) L) => names_any W _ L hb (by omega)
        simp only [← hids] at na
        replace na := hid na
        clear hids
        have cA := fun W (h : Ky w W ka rsA BA) u (hu : Dgs W u ids) hB => ky_commit w W ka rsA BA n h hfA (by omega) slot hslot u ids hu hB
        have cB := fun W (h : Ky w W kb rsB BB) u (hu : Dgs W u ids) hB => ky_commit w W kb rsB BB n h hfB (by omega) slot hslot u ids hu hB
        obtain ⟨hc, bl, hml⟩ := hbl.out.commit slot hslot ids hidl
        rw [← hc] at cB
        have mll : ∀ rs : List (List UInt8), (mcommitL rs slot ids).length ≤ 60 := fun rs => by
          unfold mcommitL
          split
          · simp [outL]; omega
          · simp
        have mA := mll rsA
        have mB := mll rsB
        obtain ⟨C, hC⟩ : ∃ C, C = (commitK (openK rsA) slot ids).1.2 := ⟨_, rfl⟩
        obtain ⟨RA, hRA⟩ : ∃ R, R = mcommitR rsA slot ids := ⟨_, rfl⟩
        obtain ⟨RB, hRB⟩ : ∃ R, R = mcommitR rsB slot ids := ⟨_, rfl⟩
        obtain ⟨XA, hXA⟩ : ∃ R, R = mcommitL rsA slot ids := ⟨_, rfl⟩
        obtain ⟨XB, hXB⟩ : ∃ R, R = mcommitL rsB slot ids := ⟨_, rfl⟩
        rw [← hRA, ← hRB] at bl
        rw [← hXA, ← hXB] at hml
        rw [← hXA] at mA
        rw [← hXB] at mB
        simp only [← hC, ← hRA, ← hXA] at cA
        simp only [← hC, ← hRB, ← hXB] at cB
        have hxl : XB.length = XA.length := by
          have := congrArg List.length hml
          simpa [LenL] using this.symm
        replace hml := hid hml
        replace bl := hid bl
        replace cA := hid cA
        replace cB := hid cB
        clear hc hC hRA hRB hXA hXB mll
        go_wp2_with fail
        rw [← hw4, ← hob]
        clear hw4 hob
        go_region_held3 (fun W => W.cell? ⟨ob, 5, none⟩ = some (.int .u64 (slot : Int)) ∧ W.cell? ⟨ob, 6, none⟩ = some (.slice ga L.length gc))
          (first | exact ⟨d5, d6⟩ | exact ⟨od.cell d5 (by simp), od.cell d6 (by simp)⟩ | exact ⟨p5.cell d5 (by simp), p5.cell d6 (by simp)⟩ | exact ⟨o6.cell (p5.cell d5 (by simp)) hobA, o6.cell (p5.cell d6 (by simp)) hobA⟩)
          (first
          | (go_at_call 16; refine (na.out _ (hLw.out.kept0 (a4.only.trans0 od))).mono ?_; rintro e w5 ⟨u5, rfl, hu5, q5⟩; have p5 : Only [] w4 w5 := od.trans0 q5)
          | (go_at_call 15; refine (cA.out _ (a4.kept0 p5) _ (hu5.dgs (by omega)) (fun i hi => .inr (fun hm => by have h1 := (hu5.1.lt i hi).1; have h2 := hAl.out i hm; have h3 := od.size; omega))).mono ?_; rintro e w6 ⟨ov, V6, A6, rfl, k6, hov, v1, v2, v3, o6, f6⟩))
        have p5s := p5.size
        have o6s := o6.size
        have b6 := (b4.kept0 p5).away o6 (fun i hi => ⟨fun hm => hdj i hi hm, a4.new i hi⟩)
        have dj6 : ∀ i ∈ A6, i ∉ BB := fun i hi hm => by
          rcases (v2 i hi).1 with h | h
          · exact hdj i h hm
          · have := hBl.out i hm; omega
        have y5 := o6.cell (p5.cell d5 (by simp)) hobA
        have y6 := o6.cell (p5.cell d6 (by simp)) hobA
        have od6 : Only [] w6 w6.drew := (Only.refl [] w6).drew
        have hova := hov.bss (by omega)
        obtain ⟨oa, oc, rfl, _⟩ := hova.form
        clear cA a4 b4 d2 d4 d5 d6 hu5
        go_wp2_with fail
        go_region_held3 (fun W => W.cell? ⟨ob, 5, none⟩ = some (.int .u64 (slot : Int)) ∧ W.cell? ⟨ob, 6, none⟩ = some (.slice ga L.length gc))
          (first | exact ⟨y5, y6⟩ | exact ⟨od6.cell y5 (by simp), od6.cell y6 (by simp)⟩ | exact ⟨p7.cell y5 (by simp), p7.cell y6 (by simp)⟩ | exact ⟨o8.cell (p7.cell y5 (by simp)) hobB, o8.cell (p7.cell y6 (by simp)) hobB⟩)
          (first
          | (go_at_call 16; refine (na.out _ (hLw.out.kept0 (b6.only.trans0 od6))).mono ?_; rintro e w7 ⟨u7, rfl, hu7, q7⟩; have p7 : Only [] w6 w7 := od6.trans0 q7)
          | (go_at_call 15; refine (cB.out _ (b6.kept0 p7) _ (hu7.dgs (by omega)) (fun i hi => .inr (fun hm => by have h1 := (hu7.1.lt i hi).1; have h2 := hBl.out i hm; have h3 := od6.size; omega))).mono ?_; rintro e w8 ⟨ov8, V8, B8, rfl, k8, hov8, z1, z2, z3, o8, f8⟩))
        have p7s := p7.size
        have k6n := k6.new
        have dj8 : ∀ i ∈ A6, i ∉ B8 := fun i hi hm => by
          rcases (z2 i hm).1 with h | h
          · exact dj6 i hi h
          · have := (v2 i hi).2; omega
        have kA8 := (k6.kept0 p7).away o8 (fun i hi => ⟨fun hm => dj6 i hm hi, b6.new i hi⟩)
        have hovA8 := hid (((hov.kept0 p7).away o8 (fun i hi => by have := hBl.out i hi; omega)).bss (by omega))
        have hovB8 := hov8.bss (by omega)
        obtain ⟨oa8, oc8, rfl, _⟩ := hovB8.form
        replace hovB8 := hid hovB8
        rw [hxl] at hovB8
        rw [hxl]
        have HXL := hid hxl
        clear cB b6 k6 hov hov8 hova v2 z2 y5 y6 hu7 na hxl
        go_wp2_with fail
        go_loopw [118] (fun i wv => ∃ j : Nat, j ≤ XA.length ∧ i = .int .i64 j ∧ Only [] w8 wv) (fun i _ => XA.length - (intOf i).toNat)
        case atStart => exact ⟨0, Nat.zero_le _, rfl, Only.refl _ _⟩
        case round =>
          obtain ⟨j, hj, rfl, hjo⟩ := hrel
          by_cases hjl : j < XA.length
          · obtain ⟨xb, xo, xv, rfl, xc, hxv⟩ := (hovA8.out.kept0 hjo).at j hjl
            obtain ⟨yb, yo, yv, rfl, yc, hyv⟩ := (hovB8.out.kept0 hjo).at j (by have := HXL.out; omega)
            have hll := lenL_at hml.out j hjl (by have := HXL.out; omega)
            obtain ⟨xa1, xc1, rfl⟩ := bs_form hxv
            obtain ⟨ya1, yc1, rfl⟩ := bs_form hyv
            rw [hll] at yc
            obtain ⟨N, hN⟩ : ∃ N, N = XA[j].length := ⟨_, rfl⟩
            rw [← hN] at xc yc
            have hjd := hid (hjo.drew)
            clear hll hN hxv hyv
            go_wp2_with fail
            go_region_held3 (fun W => W.cell? ⟨xb, xo + j, none⟩ = some (.slice xa1 N xc1) ∧ W.cell? ⟨yb, yo + j, none⟩ = some (.slice ya1 N yc1)) (exact ⟨xc, yc⟩) (fail)
            go_wp2
            go_roundw
            case rel => exact ⟨j + 1, by omega, by go_num, hjd.out⟩
            case measure => simp [intOf]; omega
          · obtain rfl : j = XA.length := by omega
            have kA := kA8.kept0 hjo
            have kB := k8.kept0 hjo
            have fA := f6
            have fB := f8
            have dj := dj8
            clear kA8 k8 hovA8 hovB8
            have lA := hid (mlen_any wr ka RA A6 kA.kb)
            have hLE := shape_len bl.out.like.sh
            have lB := mlen_any wr kb RB B8 kB.kb
            rw [← hLE] at lB
            replace lB := hid lB
            clear hLE
            have dA := hid (fun W (h : Ky w W ka RA A6) => ky_disk w W ka RA A6 (n + 1) h fA (by omega))
            have dB := hid (fun W (h : Ky w W kb RB B8) => ky_disk w W kb RB B8 (n + 1) h fB (by omega))
            have hFL := lenL_flat bl.out.len
            obtain ⟨FL, hFL1⟩ : ∃ FL, FL = (flatL RA).length := ⟨_, rfl⟩
            rw [← hFL1] at hFL
            replace hFL := hid hFL
            replace hFL1 := hid hFL1
            go_wp2_with fail
            refine lA.out.mono ?_
            rintro e w' ⟨rfl, h9⟩
            obtain rfl : wr = w' := h9.symm
            clear h9
            go_wp2_with fail
            refine lB.out.mono ?_
            rintro e w' ⟨rfl, h9⟩
            obtain rfl : wr = w' := h9.symm
            clear h9
            have hfd := field_dsk
            go_wp2_with fail
            refine (dA.out _ kA).mono ?_
            rintro e wA ⟨fvA, lvA, rfl, gA, _, qA⟩
            obtain ⟨va, vca, rfl⟩ := own_form gA
            rw [← hFL1.out]
            have kA9 := kA.kept0 qA
            have kB9 := kB.kept0 qA
            go_wp2_with fail
            refine (dB.out _ kB9).mono ?_
            rintro e wB ⟨fvB, lvB, rfl, gB, _, qB⟩
            obtain ⟨vb, vcb, rfl⟩ := own_form gB
            rw [← hFL.out]
            have kA8 := kA9.kept0 qB
            have kB8 := kB9.kept0 qB
            clear lA lB dA dB kA kB kA9 kB9 gA gB
            go_wp2
            go_roundw
            case rel => exact ⟨n + 1, RA, RB, A6, B8, by omega, by go_num, kA8, kB8, fA, fB, bl.out, dj⟩
            case measure => simp [intOf]; omega
      by_cases e3 : kind = 3
      · subst e3
        obtain ⟨ids, hids⟩ : ∃ ids, ids = L.map nm := ⟨_, rfl⟩
        have hidl : ∀ d ∈ ids, d.length = 32 := by
          rw [hids]
          intro d hd
          obtain ⟨y, _, rfl⟩ := List.mem_map.1 hd
          exact nm_len y
        have hil : ids.length ≤ 60 := by rw [hids]; simp; omega
        have na := fun W (hb : Bs W (.slice ga L.length gc) L) => names_any W _ L hb (by omega)
        simp only [← hids] at na
        replace na := hid na
        clear hids
        have fmA := fun W (h : Ky w W ka rsA BA) u (hu : Dgs W u ids) => ky_forget w W ka rsA BA n h hfA (by omega) u ids hu
        have fmB := fun W (h : Ky w W kb rsB BB) u (hu : Dgs W u ids) => ky_forget w W kb rsB BB n h hfB (by omega) u ids hu
        obtain ⟨hc, bl⟩ := hbl.out.forget ids hidl
        rw [← hc] at fmB
        obtain ⟨E1, hE1⟩ : ∃ E, E = (mforgetE rsA ids).1.1 := ⟨_, rfl⟩
        obtain ⟨E2, hE2⟩ : ∃ E, E = (mforgetE rsA ids).1.2 := ⟨_, rfl⟩
        obtain ⟨RA, hRA⟩ : ∃ R, R = (mforgetE rsA ids).2 := ⟨_, rfl⟩
        obtain ⟨RB, hRB⟩ : ∃ R, R = (mforgetE rsB ids).2 := ⟨_, rfl⟩
        rw [← hRA, ← hRB] at bl
        simp only [← hE1, ← hE2, ← hRA] at fmA
        simp only [← hE1, ← hE2, ← hRB] at fmB
        replace fmA := hid fmA
        replace fmB := hid fmB
        replace bl := hid bl
        clear hc hE1 hE2 hRA hRB
        go_wp2_with fail
        rw [← hw4, ← hob]
        clear hw4 hob
        refine (na.out _ (hLw.out.kept0 a4.only)).mono ?_
        rintro e w5 ⟨u5, rfl, hu5, q5⟩
        have q5s := q5.size
        go_wp2_with fail
        refine (fmA.out _ (a4.kept0 q5) _ (hu5.dgs (by omega))).mono ?_
        rintro e w6 ⟨rfl, A6, k6, a6, o6, fA⟩
        have y6 := o6.cell (q5.cell d6 (by simp)) hobA
        have b6 := (b4.kept0 q5).away o6 (fun i hi => ⟨fun hm => hdj i hi hm, a4.new i hi⟩)
        have dj6 : ∀ i ∈ A6, i ∉ BB := fun i hi hm => by
          rcases a6 i hi with h | h
          · exact hdj i h hm
          · have := hBl.out i hm; omega
        have o6s := o6.size
        go_wp2_with fail
        refine (na.out _ (hLw.out.kept0 b6.only)).mono ?_
        rintro e w7 ⟨u7, rfl, hu7, q7⟩
        have q7s := q7.size
        go_wp2_with fail
        refine (fmB.out _ (b6.kept0 q7) _ (hu7.dgs (by omega))).mono ?_
        rintro e w8 ⟨rfl, B8, kB, b8, o8, fB⟩
        have hx6 := k6.kb.lt
        have dj : ∀ i ∈ A6, i ∉ B8 := fun i hi hm => by
          rcases b8 i hm with h | h
          · exact dj6 i hi h
          · have := hx6 i hi; omega
        have kA := (k6.kept0 q7).away o8 (fun i hi => ⟨fun hm => dj6 i hm hi, b6.new i hi⟩)
        clear fmA fmB k6 b6 a6 b8 na hu5 hu7 a4 b4 dj6 hx6
        have lA := hid (mlen_any w8 ka RA A6 kA.kb)
        have hLE := shape_len bl.out.like.sh
        have lB := mlen_any w8 kb RB B8 kB.kb
        rw [← hLE] at lB
        replace lB := hid lB
        clear hLE
        have dA := hid (fun W (h : Ky w W ka RA A6) => ky_disk w W ka RA A6 (n + 1) h fA (by omega))
        have dB := hid (fun W (h : Ky w W kb RB B8) => ky_disk w W kb RB B8 (n + 1) h fB (by omega))
        have hFL := lenL_flat bl.out.len
        obtain ⟨FL, hFL1⟩ : ∃ FL, FL = (flatL RA).length := ⟨_, rfl⟩
        rw [← hFL1] at hFL
        replace hFL := hid hFL
        replace hFL1 := hid hFL1
        go_wp2_with fail
        refine lA.out.mono ?_
        rintro e w' ⟨rfl, h9⟩
        obtain rfl : w8 = w' := h9.symm
        clear h9
        go_wp2_with fail
        refine lB.out.mono ?_
        rintro e w' ⟨rfl, h9⟩
        obtain rfl : w8 = w' := h9.symm
        clear h9
        have hfd := field_dsk
        go_wp2_with fail
        refine (dA.out _ kA).mono ?_
        rintro e wA ⟨fvA, lvA, rfl, gA, _, qA⟩
        obtain ⟨va, vca, rfl⟩ := own_form gA
        rw [← hFL1.out]
        have kA9 := kA.kept0 qA
        have kB9 := kB.kept0 qA
        go_wp2_with fail
        refine (dB.out _ kB9).mono ?_
        rintro e wB ⟨fvB, lvB, rfl, gB, _, qB⟩
        obtain ⟨vb, vcb, rfl⟩ := own_form gB
        rw [← hFL.out]
        have kA8 := kA9.kept0 qB
        have kB8 := kB9.kept0 qB
        clear lA lB dA dB kA kB kA9 kB9 gA gB
        go_wp2
        go_roundw
        case rel => exact ⟨n + 1, RA, RB, A6, B8, by omega, by go_num, kA8, kB8, fA, fB, bl.out, dj⟩
        case measure => simp [intOf]; omega
      have kA := a4
      have kB := b4
      have fA := hfA.same
      have fB := hfB.same
      have dj := hdj
      have bl := hbl
      clear a4 b4
      have lA := hid (mlen_any w4 ka rsA BA kA.kb)
      have hLE := shape_len bl.out.like.sh
      have lB := mlen_any w4 kb rsB BB kB.kb
      rw [← hLE] at lB
      replace lB := hid lB
      clear hLE
      have dA := hid (fun W (h : Ky w W ka rsA BA) => ky_disk w W ka rsA BA (n + 1) h fA (by omega))
      have dB := hid (fun W (h : Ky w W kb rsB BB) => ky_disk w W kb rsB BB (n + 1) h fB (by omega))
      have hFL := lenL_flat bl.out.len
      obtain ⟨FL, hFL1⟩ : ∃ FL, FL = (flatL rsA).length := ⟨_, rfl⟩
      rw [← hFL1] at hFL
      replace hFL := hid hFL
      replace hFL1 := hid hFL1
      go_wp2_with fail
      rw [← hw4]
      clear hw4 hob
      refine lA.out.mono ?_
      rintro e w' ⟨rfl, h9⟩
      obtain rfl : w4 = w' := h9.symm
      clear h9
      go_wp2_with fail
      refine lB.out.mono ?_
      rintro e w' ⟨rfl, h9⟩
      obtain rfl : w4 = w' := h9.symm
      clear h9
      have hfd := field_dsk
      go_wp2_with fail
      refine (dA.out _ kA).mono ?_
      rintro e wA ⟨fvA, lvA, rfl, gA, _, qA⟩
      obtain ⟨va, vca, rfl⟩ := own_form gA
      rw [← hFL1.out]
      have kA9 := kA.kept0 qA
      have kB9 := kB.kept0 qA
      go_wp2_with fail
      refine (dB.out _ kB9).mono ?_
      rintro e wB ⟨fvB, lvB, rfl, gB, _, qB⟩
      obtain ⟨vb, vcb, rfl⟩ := own_form gB
      rw [← hFL.out]
      have kA8 := kA9.kept0 qB
      have kB8 := kB9.kept0 qB
      clear lA lB dA dB kA kB kA9 kB9 gA gB
      go_wp2
      go_roundw
      case rel => exact ⟨n + 1, rsA, rsB, BA, BB, by omega, by go_num, kA8, kB8, fA, fB, bl.out, dj⟩
      case measure => simp [intOf]; omega
    · obtain rfl : n = l.length := by omega
      have hfin := hid ka0.only
      clear ka0 kb0 hfA hfB hbl
      go_wp2
      go_ret
      exact ⟨rfl, hfin.out⟩

set_option maxRecDepth 20000 in
set_option maxHeartbeats 1600000 in
theorem keyperBlind_walk (w : World) {v : Value} {l : List KOp} {mz : Int} (hl : KOps w v l) (hmz : (Lit.int .u8 mz).wf = true) :
    Calls Try.prog 3 #[v, .int .u8 mz] w fun e w' => e = .returned (.bool true) ∧ Only [] w w' := by
  obtain ⟨mask, rfl⟩ := u8_of (wfu8 hmz)
  clear hmz
  cases hf : fewK l with
  | true => exact keyperBlind_mid w hl hf
  | false =>
    obtain ⟨va, vc, rfl, h1, h2, h3⟩ := hl.form
    have hfw := fun W (o : Only [] w W) => few20_any _ l W (hl.kept0 o)
    rw [hf] at hfw
    replace hfw := hid hfw
    clear hf
    go_enter Try.func3, Try.ntmps3
    go_wp2_with fail
    refine (awake20_any _).mono ?_
    rintro e w1 ⟨rfl, o1⟩
    go_wp2_with fail
    refine (hfw.out _ o1).mono ?_
    rintro e w' ⟨rfl, h9⟩
    obtain rfl : w1 = w' := h9.symm
    clear h9
    go_wp2_with fail
    refine (awake20_any _).mono ?_
    rintro e w2 ⟨rfl, o2⟩
    go_wp2
    go_ret
    exact ⟨rfl, o1.trans0 o2⟩
end Go.Proofs.Ytnlmeaijnfjakaa.Sh
