/- The document's log: appended to, compacted: walked. -/
import Derived.Test.YtlcfmocojakhpaaRJouD
namespace Go.Proofs.Ytlcfmocojakhpaa.Sh
open Go Go.RowKit

theorem bs_keptE {w w' : World} {v : Value} {l : List UInt8} (h : Bs w v l) {bs : List Nat} (ho : Only bs w w') (hn : ∀ b, v.ownBlock = some b → l = [] ∨ b ∉ bs) : Bs w' v l := by
  obtain ⟨hl, a, cap, rfl, h1, h2, h4, h3⟩ := h
  refine ⟨hl, a, cap, rfl, h1, h2, h4, ?_⟩
  rcases h3 with h3 | ⟨b, o, rfl, h3⟩
  · exact .inl h3
  · rcases hn b rfl with rfl | hn
    · exact .inl rfl
    · exact .inr ⟨b, o, rfl, fun j u hu => ho.cell (h3 j u hu) hn⟩

set_option maxRecDepth 20000 in
set_option maxHeartbeats 1600000 in
theorem rappend_bad (w : World) (x : Nat) (bv : Value) (b : List UInt8) (hb : Bs w bv b) (hl : b.length < 1 ∨ 1000 < b.length) :
    Calls Try.prog 26 #[.pointer (some ⟨x, 0, none⟩), bv] w fun e w' => e = .returned (.int .i64 1) ∧ w' = w := by
  have hfr := hid (refFrame_bad bv b w hb hl)
  obtain ⟨ba, bc, rfl⟩ := bs_form hb
  clear hl
  go_enter Try.func26, Try.ntmps26
  go_wp2_with fail
  with_reducible refine hfr.out.mono ?_
  rintro e w' ⟨rfl, rfl⟩
  go_wp2_with fail
  go_ret
  exact ⟨rfl, rfl⟩

set_option maxRecDepth 20000 in
set_option maxHeartbeats 1600000 in
theorem rcompact_bad (w : World) (x : Nat) (bv : Value) (b : List UInt8) (hb : Bs w bv b) (hl : b.length < 1 ∨ 1000 < b.length) :
    Calls Try.prog 29 #[.pointer (some ⟨x, 0, none⟩), bv] w fun e w' => e = .returned (.int .i64 1) ∧ w' = w := by
  have hfr := hid (refFrame_bad bv b w hb hl)
  obtain ⟨ba, bc, rfl⟩ := bs_form hb
  clear hl
  go_enter Try.func29, Try.ntmps29
  go_wp2_with fail
  with_reducible refine hfr.out.mono ?_
  rintro e w' ⟨rfl, rfl⟩
  go_wp2_with fail
  go_ret
  exact ⟨rfl, rfl⟩

set_option maxRecDepth 20000 in
set_option maxHeartbeats 3200000 in
theorem rcompact_good (w : World) (x : Nat) (f l b : List UInt8) (rs : List (List UInt8)) (bs : List Nat) (h : RLg w x f l rs bs) (bv : Value) (hb : Bs w bv b) (hbx : ∀ k, bv.ownBlock = some k → b = [] ∨ k ≠ x) (hl1 : 1 ≤ b.length) (hl2 : b.length ≤ 1000) :
    Calls Try.prog 29 #[.pointer (some ⟨x, 0, none⟩), bv] w fun e w' => e = .returned (.int .i64 0) ∧ RLg w' x (frameL b) [] [b] (bs ++ newBs w w') ∧ Only [x] w w' := by
  obtain ⟨fa, fc, la, lc, c0, c1, hf, hl, hx⟩ := h.sees
  obtain ⟨rv, c2⟩ : ∃ rv, w.cell? ⟨x, 2, none⟩ = some rv ∧ w.frozen? ⟨x, 2, none⟩ = false := by
    obtain ⟨_, _, _, _, rv, _, _, _, c2, _⟩ := h
    exact ⟨rv, c2⟩
  have hfr := hid (refFrame_good bv b w hb hl1 hl2)
  obtain ⟨F, hF⟩ : ∃ F, F = frameL b := ⟨_, rfl⟩
  have hFl : F.length = 6 + b.length := by rw [hF, frameL_length]
  rw [← hF] at hfr ⊢
  clear hF
  obtain ⟨ba, bc, rfl⟩ := bs_form hb
  have HFL := hid hFl
  clear hFl
  go_enter Try.func29, Try.ntmps29
  go_wp2_with fail
  with_reducible refine hfr.out.mono ?_
  rintro e w1 ⟨v1, rfl, hF1, o1⟩
  obtain ⟨va, vc, rfl⟩ := own_form hF1
  obtain ⟨d0, d0'⟩ := cell_kept o1 (by simp) c0
  obtain ⟨d1, d1'⟩ := cell_kept o1 (by simp) c1
  obtain ⟨w2, hw2⟩ : ∃ w2, w2 = (w1.setCell ⟨x, 0, none⟩ (.slice va F.length vc)).setCell ⟨x, 1, none⟩ (.slice none 0 0) := ⟨_, rfl⟩
  have hs1 := o1.size
  have hL1 : RLg w1 x f l rs (bs ++ newBs w w1) := (h.kept0 o1).mono (fun k hk => by simp [hk])
  have hL2 : RLg w2 x F [] rs (bs ++ newBs w w1) := by
    rw [hw2]
    exact hL1.setDisk (Yb.own hF1 (by have := HFL.out; omega) (fun k h1 h2 => by simp [mem_newBs, h1, h2])) ⟨Bs.empty (by unfold maxLen; omega), fun k hk => by simp [Value.ownBlock] at hk⟩
  have o2 : Only [x] w w2 := by rw [hw2]; exact ((o1.mono (by simp)).setCell (.inl (by simp)) _).setCell (.inl (by simp)) _
  have hs2 : w2.heap.size = w1.heap.size := by rw [hw2]; simp [World.setCell]
  have hb2 : Bs w2 (.slice ba b.length bc) b := bs_keptE hb o2 (fun k hk => by
    rcases hbx k hk with h9 | h9
    · exact .inl h9
    · exact .inr (by simpa using h9))
  have ob := own_built w2 [] 5 1 0 rfl (by unfold maxLen; omega)
  rw [hs2] at ob
  have hbA := hb2.kept0 ((Only.refl [] w2).alloc (Obj.cells #[] 5))
  have e2 := cell_kept o1 (by simp) c2
  obtain ⟨e2a, e2b⟩ : w2.cell? ⟨x, 2, none⟩ = some rv ∧ w2.frozen? ⟨x, 2, none⟩ = false := by rw [hw2]; exact set_cell _ (set_cell _ ⟨d0, d0'⟩ ⟨d1, d1'⟩ (by simp)) (set_cell _ ⟨d0, d0'⟩ e2 (by simp)) (by simp)
  clear hf hl hF1 hL1 c0 c1 c2 e2
  go_wp2_with (at_builtin; rw [← hw2]; refine wpList_app (by rfl) _ _ 22 (by rfl) w1.heap.size 5 1 1 el_u8 (by rfl) ob (by rfl) hbA (bytes_one b) (by omega) (by omega) (by rw [World.size_alloc, hs2]; omega) ?_; intro v3 w3 own3 app3; rw [Nat.zero_add, List.nil_append] at own3; have q3 : Only [] w2 w3 := ((Only.refl [] w2).alloc _).app app3 (fun k hk => .inr (by rw [hs2]; exact (ob.lt k hk).1)); obtain ⟨xa, xc, rfl⟩ := own_form own3; obtain ⟨f2a, f2b⟩ := cell_kept q3 (by simp) ⟨e2a, e2b⟩; have hx3 : x < w3.heap.size := lt_cell f2a; have hx4 : x ≠ w3.heap.size := (by omega))
  go_ret
  have hs3 := q3.size
  have oA : Only [] w3 (w3.alloc (Obj.cells #[.slice xa b.length xc] 22)) := (Only.refl [] w3).alloc _
  have hL3 : RLg (w3.alloc (Obj.cells #[.slice xa b.length xc] 22)) x F [] rs (bs ++ newBs w (w3.alloc (Obj.cells #[.slice xa b.length xc] 22))) := ((hL2.kept0 q3).kept0 oA).mono (fun k hk => by
    rcases List.mem_append.1 hk with h9 | h9
    · exact List.mem_append_left _ h9
    · refine List.mem_append_right _ (mem_newBs.2 ?_)
      have := mem_newBs.1 h9
      simp only [World.size_alloc]
      omega)
  have hrow := own_built w3 [.slice xa b.length xc] 22 1 1 rfl (by unfold maxLen; omega)
  have hfin := hL3.setRows (rs' := [b]) (rv' := .slice (some ⟨w3.heap.size, 0, none⟩) 1 1) (vs' := [.slice xa b.length xc]) (own_lower hrow (Nat.zero_le _)) (fun k hk => by
      simp [Value.ownBlock] at hk
      subst hk
      exact List.mem_append_right _ (mem_newBs.2 (by simp only [World.size_alloc]; omega))) (.cons (Yb.own (B := w1.heap.size) (own_only0 own3 oA) (by omega) (fun k h1 h2 => List.mem_append_right _ (mem_newBs.2 (by omega)))) .nil)
  rw [← World.setCell_alloc_past (w := w3) _ x 2 _ hx3]
  refine ⟨rfl, hfin.mono (fun k hk => ?_), (((o2.trans q3 (ds := [x]) (by simp) (by simp)).trans oA (by simp) (by simp)).setCell (.inl (by simp)) _)⟩
  rcases List.mem_append.1 hk with h9 | h9
  · exact List.mem_append_left _ h9
  · refine List.mem_append_right _ (mem_newBs.2 ?_)
    have := mem_newBs.1 h9
    simpa [World.setCell] using this

theorem RLg.setLoose {w : World} {x : Nat} {f l l' : List UInt8} {rs : List (List UInt8)} {bs : List Nat} {lv' : Value} (h : RLg w x f l rs bs) (hl : Yb w bs lv' l') : RLg (w.setCell ⟨x, 1, none⟩ lv') x f l' rs bs := by
  obtain ⟨ht, hx, fv, lv, rv, vs, c0, c1, c2, h1, h2, h3, h4, h5⟩ := h
  have hO : Only [x] w (w.setCell ⟨x, 1, none⟩ lv') := (Only.refl _ w).setCell (.inl (by simp)) _
  have hd : ∀ k ∈ [x], k ∉ bs ∨ ¬ TyAt w k 5 := by
    intro k hk
    obtain rfl : k = x := by simpa using hk
    exact .inr (fun h => absurd (h.uniq ht) (by decide))
  refine ⟨ht.setCell _ _, hx, fv, lv', rv, vs, set_cell _ c1 c0 (by simp), same_cell c1, set_cell _ c1 c2 (by simp), h1.only hO hd, hl.only hO hd, own_only h3 hO (fun k hk hm => ?_), h4, h5.imp fun _ _ k => k.only hO hd⟩
  obtain rfl : k = x := by simpa using hm
  exact absurd ((own_ty h3 k hk).uniq ht) (by decide)

theorem all2_one {w : World} {bs : List Nat} {vs : List Value} {rs : List (List UInt8)} (h : All2 (Yb w bs) vs rs) : ∀ u ∈ vs, u.oneCell' = true := by
  induction h with
  | nil => intro u hu; cases hu
  | cons h1 _ ih =>
    intro u hu
    rcases List.mem_cons.1 hu with rfl | hu
    · obtain ⟨a, c, rfl⟩ := bs_form h1.1
      rfl
    · exact ih u hu

theorem RLg.rows {w : World} {x : Nat} {f l : List UInt8} {rs : List (List UInt8)} {bs : List Nat} (h : RLg w x f l rs bs) : ∃ ra rc vs, (w.cell? ⟨x, 2, none⟩ = some (.slice ra rs.length rc) ∧ w.frozen? ⟨x, 2, none⟩ = false) ∧ w.ownsRow 0 22 1 (.slice ra rs.length rc) rs.length vs ∧ (∀ k, (Value.slice ra rs.length rc).ownBlock = some k → k ∈ bs) ∧ All2 (Yb w bs) vs rs := by
  obtain ⟨_, _, _, _, rv, vs, _, _, c2, _, _, h3, h4, h5⟩ := h
  obtain ⟨ra, rc, rfl⟩ := own_form h3
  exact ⟨ra, rc, vs, c2, h3, h4, h5⟩

set_option maxRecDepth 20000 in
set_option maxHeartbeats 6400000 in
theorem rappend_good (w : World) (x : Nat) (f l b : List UInt8) (rs : List (List UInt8)) (bs : List Nat) (h : RLg w x f l rs bs) (bv : Value) (hb : Bs w bv b) (hbx : ∀ k, bv.ownBlock = some k → b = [] ∨ k ≠ x) (hl1 : 1 ≤ b.length) (hl2 : b.length ≤ 1000) (hlen : f.length + l.length ≤ 400000) (hrs : rs.length ≤ 1000000) :
    Calls Try.prog 26 #[.pointer (some ⟨x, 0, none⟩), bv] w fun e w' => e = .returned (.int .i64 0) ∧ RLg w' x f (l ++ frameL b) (rs ++ [b]) (bs ++ newBs w w') ∧ Only [x] w w' := by
  obtain ⟨fa, fc, la, lc, c0, c1, hf, hl, hx⟩ := h.sees
  have hfr := hid (refFrame_good bv b w hb hl1 hl2)
  obtain ⟨F, hF⟩ : ∃ F, F = frameL b := ⟨_, rfl⟩
  have hFl : F.length = 6 + b.length := by rw [hF, frameL_length]
  rw [← hF] at hfr ⊢
  clear hF
  obtain ⟨ba, bc, rfl⟩ := bs_form hb
  obtain ⟨z, hz⟩ : ∃ z, z = l ++ F := ⟨_, rfl⟩
  rw [← hz]
  have hzl : z.length = l.length + F.length := by rw [hz, List.length_append]
  have HZ := hid hz
  have HZL := hid hzl
  have hF2 : F.length ≤ 2000 := by omega
  have hz2 : z.length ≤ 500000 := by omega
  have hbb := hid hbx
  have HB := hid hb
  have HL := hid h
  obtain ⟨ra, rc, r2, r2'⟩ : ∃ ra rc, w.cell? ⟨x, 2, none⟩ = some (.slice ra rs.length rc) ∧ w.frozen? ⟨x, 2, none⟩ = false := by
    obtain ⟨ra, rc, _, r1, _⟩ := h.rows
    exact ⟨ra, rc, r1⟩
  have hcx := hid (fun W (o : Only [] w W) => o.cell r2 (by simp))
  -- what is there behind the disk's store
  have hmid : Hid (∀ (w1 w3 : World) (ya : Option Addr) (yc : Nat), Only [] w w1 → Only [] w1 w3 → w3.ownsRow w1.heap.size 5 1 (.slice ya z.length yc) z.length (bytes z) →
      ∃ w4 vs, w4 = w3.setCell ⟨x, 1, none⟩ (.slice ya z.length yc) ∧ RLg w4 x f z rs (bs ++ newBs w w4) ∧ Only [x] w w4 ∧ w4.heap.size = w3.heap.size ∧ Bs w4 (.slice ba b.length bc) b ∧ (w4.cell? ⟨x, 2, none⟩ = some (.slice ra rs.length rc) ∧ w4.frozen? ⟨x, 2, none⟩ = false) ∧ w4.ownsRow 0 22 1 (.slice ra rs.length rc) rs.length vs ∧ All2 (Yb w4 (bs ++ newBs w w4)) vs rs) := by
    intro w1 w3 ya yc o1 o3 own3
    have o13 := o1.trans0 o3
    have s1 := o1.size
    have o4 : Only [x] w (w3.setCell ⟨x, 1, none⟩ (.slice ya z.length yc)) := (o13.mono (by simp)).setCell (.inl (by simp)) _
    have hs4 : (w3.setCell ⟨x, 1, none⟩ (.slice ya z.length yc)).heap.size = w3.heap.size := by simp [World.setCell]
    have hL3 : RLg w3 x f l rs (bs ++ newBs w w3) := (HL.out.kept0 o13).mono (fun k hk => by simp [hk])
    have hL4 := hL3.setLoose (lv' := .slice ya z.length yc) (l' := z) (Yb.own own3 (by omega) (fun k h1 h2 => List.mem_append_right _ (mem_newBs.2 (by omega))))
    have hL4' : RLg (w3.setCell ⟨x, 1, none⟩ (.slice ya z.length yc)) x f z rs (bs ++ newBs w (w3.setCell ⟨x, 1, none⟩ (.slice ya z.length yc))) := hL4.mono (fun k hk => by
      rcases List.mem_append.1 hk with h9 | h9
      · exact List.mem_append_left _ h9
      · refine List.mem_append_right _ (mem_newBs.2 ?_)
        have := mem_newBs.1 h9
        omega)
    obtain ⟨ra', rc', vs, r1, r2'', _, r4⟩ := hL4'.rows
    obtain ⟨ra'', rc'', vs', q1, _⟩ := hL3.rows
    have e1 := (hcx.out w3 o13).symm.trans q1.1
    have e2 : (w3.setCell ⟨x, 1, none⟩ (.slice ya z.length yc)).cell? ⟨x, 2, none⟩ = some (.slice ra rs.length rc) := by
      rw [World.cell?_setCell_other _ _ _ _ (by simp)]
      exact hcx.out w3 o13
    have e3 := r1.1.symm.trans e2
    simp only [Option.some.injEq, Value.slice.injEq] at e3
    obtain ⟨rfl, _, rfl⟩ := e3
    exact ⟨_, vs, rfl, hL4', o4, hs4, bs_keptE HB.out o4 (fun k hk => by
      rcases hbb.out k hk with h9 | h9
      · exact .inl h9
      · exact .inr (by simpa using h9)), r1, r2'', r4⟩
  clear hFl hz hzl hbx h hf c0
  go_enter Try.func26, Try.ntmps26
  go_wp2_with fail
  with_reducible refine hfr.out.mono ?_
  rintro e w1 ⟨v1, rfl, hF1, o1⟩
  have hB1 := hF1.bs (by omega)
  obtain ⟨va, vc, rfl⟩ := own_form hF1
  obtain ⟨d1, d1'⟩ := cell_kept o1 (by simp) c1
  have hs1 := o1.size
  have ob1 := own_built w1 [] 5 1 0 rfl (by unfold maxLen; omega)
  have oE : Only [] w1 (w1.alloc (Obj.cells #[] 5)) := (Only.refl [] w1).alloc _
  have d1E := oE.cell d1 (by simp)
  have hlE := (hl.kept0 o1).kept0 oE
  clear c1 hF1
  go_wp2_with (first
    | (at_builtin; refine wpList_app (by rfl) _ _ 22 (by rfl) w1.heap.size 5 1 1 el_u8 (by rfl) ob1 (by rfl) hlE (bytes_one l) (by omega) (by omega) (by simp) ?_; intro v2 w2 own2 app2; rw [Nat.zero_add, List.nil_append] at own2; have q2 : Only [] w1 w2 := oE.app app2 (fun k hk => .inr (ob1.lt k hk).1); obtain ⟨xa, xc, rfl⟩ := own_form own2; have hB2 := hB1.kept0 q2)
    | (at_builtin; refine wpList_app (by rfl) _ _ 22 (by rfl) w1.heap.size 5 1 1 el_u8 (by rfl) own2 (by rfl) hB2 (bytes_one F) (by omega) (by omega) (by have := q2.size; omega) ?_; intro v3 w3 own3 app3; replace own3 := own_cast (n' := z.length) (xs' := bytes z) own3 (by rw [HZL.out]) (by rw [HZ.out]; simp [bytes]); have q3 : Only [] w1 w3 := q2.app app3 (fun k hk => .inr (own2.lt k hk).1); obtain ⟨ya, yc, rfl⟩ := own_form own3; obtain ⟨e1a, e1b⟩ := cell_kept q3 (by simp) ⟨d1, d1'⟩; have e2a := hcx.out w3 (o1.trans0 q3); have hx3 : x < w3.heap.size := lt_cell e1a; obtain ⟨w4, vs, hw4, hL4, o4, hs4, hb4, f2, hrow4, hall4⟩ := hmid.out w1 w3 ya yc o1 q3 own3; replace own3 := hid own3; replace own2 := hid own2; replace app2 := hid app2; replace app3 := hid app3; replace hL4 := hid hL4; replace hrow4 := hid hrow4; replace hall4 := hid hall4; replace hb4 := hid hb4; replace f2 := hid f2; replace o4 := hid o4; replace hs4 := hid hs4; replace hw4 := hid hw4)
    | (at_builtin; rw [← hw4.out]; have oE4 : Only [] w4 (w4.alloc (Obj.cells #[] 22)) := (Only.refl [] w4).alloc _; have ob4 := own_built w4 [] 22 1 0 rfl (by unfold maxLen; omega); rw [hs4.out] at ob4; have hcs4 := Cs.of_own (own_only0 hrow4.out oE4) (by omega); refine wpList_app (by rfl) _ _ 34 (by rfl) w3.heap.size 22 1 24 el_bss (by rfl) ob4 (by rfl) hcs4 (all2_one hall4.out) (by omega) (by omega) (by rw [World.size_alloc, hs4.out]; omega) ?_; intro v5 w5 own5 app5; rw [Nat.zero_add, List.nil_append] at own5; have q5 : Only [] w4 w5 := oE4.app app5 (fun k hk => .inr (by rw [hs4.out]; exact (ob4.lt k hk).1)); obtain ⟨za, zc, rfl⟩ := own_form own5; replace ob4 := hid ob4; replace app5 := hid app5; replace hcs4 := hid hcs4; replace oE4 := hid oE4; replace own5 := hid own5; replace q5 := hid q5)
    | (at_builtin; have oE5 : Only [] w5 (w5.alloc (Obj.cells #[] 5)) := (Only.refl [] w5).alloc _; have ob5 := own_built w5 [] 5 1 0 rfl (by unfold maxLen; omega); have hb5 := (hb4.out.kept0 q5.out).kept0 oE5; refine wpList_app (by rfl) _ _ 22 (by rfl) w5.heap.size 5 1 1 el_u8 (by rfl) ob5 (by rfl) hb5 (bytes_one b) (by omega) (by omega) (by rw [World.size_alloc]; omega) ?_; intro v6 w6 own6 app6; rw [Nat.zero_add, List.nil_append] at own6; have q6 : Only [] w5 w6 := oE5.app app6 (fun k hk => .inr (ob5.lt k hk).1); obtain ⟨ta, tc, rfl⟩ := own_form own6; replace ob5 := hid ob5; replace app6 := hid app6; replace hb5 := hid hb5; replace oE5 := hid oE5; replace own6 := hid own6; replace q6 := hid q6)
    | (at_builtin; refine wpList_app (by rfl) _ _ 34 (by rfl) w3.heap.size 22 1 24 el_bss (by rfl) (own_only0 own5.out (q6.out.alloc _)) (by rfl) (Cs.fresh (cs := [_]) rfl) (one1 rfl) (by omega) (by omega) (by rw [World.size_alloc]; have := q5.out.size; have := q6.out.size; have := hs4.out; omega) ?_; intro v8 w8 own8 app8; have q8 : Only [] w4 w8 := (q5.out.trans0 (q6.out.alloc _)).app app8 (fun k hk => .inr (by rw [hs4.out]; exact (own5.out.lt k hk).1)); obtain ⟨ua, uc, rfl⟩ := own_form own8; obtain ⟨f8a, f8b⟩ := cell_kept q8 (by simp) f2.out; replace own8 := hid own8; replace app8 := hid app8; replace q8 := hid q8))
  go_ret
  have hs5 := q5.out.size
  have hs6 := q6.out.size
  have hs8 := q8.out.size
  have h64 := o4.out.size
  have h34 := hs4.out
  have hL8 : RLg w8 x f z rs (bs ++ newBs w w8) := (hL4.out.kept0 q8.out).mono (fun k hk => by
    rcases List.mem_append.1 hk with h9 | h9
    · exact List.mem_append_left _ h9
    · refine List.mem_append_right _ (mem_newBs.2 ?_)
      have := mem_newBs.1 h9
      omega)
  have oA6 : Only [] w6 (w6.alloc (Obj.cells #[.slice ta b.length tc] 22)) := (Only.refl [] w6).alloc _
  have hne := own_ne (own_only0 own6.out oA6) (own_only0 own5.out (q6.out.trans0 oA6)) (by decide)
  have own6' := app8.out.other (own_only0 own6.out oA6) hne
  have hmem : ∀ k, w4.heap.size ≤ k → k < w8.heap.size → k ∈ bs ++ newBs w w8 := fun k h1 h2 => List.mem_append_right _ (mem_newBs.2 (by omega))
  have hall8 : All2 (Yb w8 (bs ++ newBs w w8)) vs rs := hall4.out.imp fun _ _ hy => (hy.kept0 q8.out).mono (fun k hk => by
    rcases List.mem_append.1 hk with h9 | h9
    · exact List.mem_append_left _ h9
    · refine List.mem_append_right _ (mem_newBs.2 ?_)
      have := mem_newBs.1 h9
      omega)
  have hfin := hL8.setRows (rs' := rs ++ [b]) (rv' := .slice ua (rs.length + 1) uc) (vs' := vs ++ [.slice ta b.length tc]) (own_lower (own_cast own8.out (by simp) rfl) (Nat.zero_le _)) (fun k hk => by
      have := own8.out.lt k hk
      exact hmem k (by omega) this.2) (All2.snoc hall8 (Yb.own (B := w5.heap.size) own6' (by omega) (fun k h1 h2 => hmem k (by omega) h2)))
  refine ⟨rfl, hfin.mono (fun k hk => ?_), (o4.out.trans q8.out (by simp) (by simp)).setCell (.inl (by simp)) _⟩
  rcases List.mem_append.1 hk with h9 | h9
  · exact List.mem_append_left _ h9
  · refine List.mem_append_right _ (mem_newBs.2 ?_)
    have := mem_newBs.1 h9
    simpa [World.setCell] using this
end Go.Proofs.Ytlcfmocojakhpaa.Sh
