/- A journal's log: appended to: walked. -/
import Derived.Test.YtnlmeaijnfjakaaJouD
import Derived.Test.YtnlmeaijnfjakaaStepApp
import Derived.Deep.RegionLaw
namespace Go.Proofs.Ytnlmeaijnfjakaa.Sh
set_option linter.unusedSimpArgs false
set_option linter.unusedVariables false
open Go Go.RowKit

theorem lg_rows {w : World} {x : Nat} {f l : List UInt8} {rs' : List (List UInt8)} {bs : List Nat} {fv lv rv rv' : Value} {vs' : List Value} (ht : TyAt w x 112) (hx : x ∈ bs) (c0 : w.cell? ⟨x, 0, none⟩ = some fv ∧ w.frozen? ⟨x, 0, none⟩ = false) (c1 : w.cell? ⟨x, 1, none⟩ = some lv ∧ w.frozen? ⟨x, 1, none⟩ = false) (c2 : w.cell? ⟨x, 2, none⟩ = some rv ∧ w.frozen? ⟨x, 2, none⟩ = false)
    (h1 : Yb w bs fv f) (h2 : Yb w bs lv l) (hr : w.ownsRow 0 27 1 rv' rs'.length vs') (hb : ∀ k, rv'.ownBlock = some k → k ∈ bs) (ha : All2 (Yb w bs) vs' rs') :
    Lg (w.setCell ⟨x, 2, none⟩ rv') x f l rs' bs := by
  have hO : Only [x] w (w.setCell ⟨x, 2, none⟩ rv') := (Only.refl _ w).setCell (.inl (by simp)) _
  have hd : ∀ k ∈ [x], k ∉ bs ∨ ¬ TyAt w k 5 := by
    intro k hk
    obtain rfl : k = x := by simpa using hk
    exact .inr (fun h => absurd (h.uniq ht) (by decide))
  refine ⟨ht.setCell _ _, hx, fv, lv, rv', vs', set_cell _ c2 c0 (by simp), set_cell _ c2 c1 (by simp), same_cell c2, h1.only hO hd, h2.only hO hd, own_only hr hO (fun k hk hm => ?_), hb, ha.imp fun _ _ k => k.only hO hd⟩
  obtain rfl : k = x := by simpa using hm
  exact absurd ((own_ty hr k hk).uniq ht) (by decide)

theorem lg_append {w w' : World} {x : Nat} {f l b : List UInt8} {rs : List (List UInt8)} {bs : List Nat} {fv lv rv rv' v2 : Value} {vs : List Value} (ht : TyAt w x 112) (hx : x ∈ bs) (c0 : w.cell? ⟨x, 0, none⟩ = some fv ∧ w.frozen? ⟨x, 0, none⟩ = false) (c1 : w.cell? ⟨x, 1, none⟩ = some lv ∧ w.frozen? ⟨x, 1, none⟩ = false) (c2 : w.cell? ⟨x, 2, none⟩ = some rv ∧ w.frozen? ⟨x, 2, none⟩ = false)
    (h1 : Yb w bs fv f) (h2 : Yb w bs lv l) (h3 : w.ownsRow 0 27 1 rv rs.length vs) (h4 : ∀ k, rv.ownBlock = some k → k ∈ bs) (h5 : All2 (Yb w bs) vs rs)
    (happ : App w w' rv rv') (hown : w'.ownsRow 0 27 1 rv' (rs.length + 1) (vs ++ [v2])) (hv2 : Yb w bs v2 b) :
    Lg (w'.setCell ⟨x, 2, none⟩ rv') x f l (rs ++ [b]) (bs ++ newBs w w') ∧ Only (x :: rv.ownBlock.toList) w (w'.setCell ⟨x, 2, none⟩ rv') ∧ (w'.cell? ⟨x, 2, none⟩ = some rv ∧ w'.frozen? ⟨x, 2, none⟩ = false) := by
  have hO : Only rv.ownBlock.toList w w' := (Only.refl _ w).app happ (fun k hk => .inl (by simp [hk]))
  have hty : ∀ k ∈ rv.ownBlock.toList, TyAt w k 27 := fun k hk => own_ty h3 k (by simpa using hk)
  have hxn : x ∉ rv.ownBlock.toList := fun hm => absurd ((hty x hm).uniq ht) (by decide)
  have hd : ∀ k ∈ rv.ownBlock.toList, k ∉ bs ∨ ¬ TyAt w k 5 := fun k hk => .inr (fun h => absurd (h.uniq (hty k hk)) (by decide))
  have hm : ∀ k ∈ bs, k ∈ bs ++ newBs w w' := fun k hk => by simp [hk]
  have c2' := cell_kept hO hxn c2
  refine ⟨lg_rows (ht.only hO hxn) (hm x hx) (cell_kept hO hxn c0) (cell_kept hO hxn c1) c2' ((h1.only hO hd).mono hm) ((h2.only hO hd).mono hm) (own_cast hown (by simp) rfl) (fun k hk => ?_) (All2.snoc (h5.imp fun _ _ h => (h.only hO hd).mono hm) ((hv2.only hO hd).mono hm)), ((hO.mono (fun k hk => .inl (List.mem_cons_of_mem _ hk))).setCell (.inl (by simp)) _), c2'⟩
  have hlt := (hown.lt k hk).2
  rcases happ.blk k hk with h | h
  · exact hm k (h4 k h)
  · simp [mem_newBs, h, hlt]

set_option maxRecDepth 20000 in
set_option maxHeartbeats 1600000 in
theorem lappend_bad (w : World) (x : Nat) (bv : Value) (b : List UInt8) (hb : Bs w bv b) (hl : b.length < 1 ∨ 1000 < b.length) :
    Calls Try.prog 69 #[.pointer (some ⟨x, 0, none⟩), bv] w fun e w' => e = .returned (.int .i64 1) ∧ w' = w := by
  have hfr := hid (frame_bad bv b w hb hl)
  obtain ⟨ba, bc, rfl⟩ := bs_form hb
  clear hl
  go_enter Try.func69, Try.ntmps69
  go_wp2_with fail
  with_reducible refine hfr.out.mono ?_
  rintro e w' ⟨rfl, rfl⟩
  go_wp2_with fail
  go_ret
  exact ⟨rfl, rfl⟩

set_option maxRecDepth 20000 in
set_option maxHeartbeats 1600000 in
theorem lappend_good (w : World) (x : Nat) (f l b : List UInt8) (rs : List (List UInt8)) (bs : List Nat) (h : Lg w x f l rs bs) (bv : Value) (hb : Bs w bv b) (hbx : ∀ k, bv.ownBlock = some k → b = [] ∨ k ∉ bs) (hl1 : 1 ≤ b.length) (hl2 : b.length ≤ 1000) (hlen : f.length + l.length ≤ 400000) (hrs : rs.length ≤ 1000000) :
    Calls Try.prog 69 #[.pointer (some ⟨x, 0, none⟩), bv] w fun e w' => e = .returned (.int .i64 0) ∧ Lg w' x f (l ++ frameL b) (rs ++ [b]) (bs ++ newBs w w') ∧ Only bs w w' := by
  obtain ⟨fa, fc, la, lc, c0, c1, hf, hl, hx⟩ := h.sees
  have hxb : x ∈ bs := h.2.1
  have hfr := hid (frame_good bv b w hb hl1 hl2)
  obtain ⟨fr, hfe⟩ : ∃ fr, fr = frameL b := ⟨_, rfl⟩
  have hfl : fr.length = 6 + b.length := by rw [hfe, frameL_length]
  rw [← hfe] at hfr ⊢
  clear hfe
  obtain ⟨ba, bc, rfl⟩ := bs_form hb
  have hwr := (fun W v (h : Only [] w W) (hv : Bs W v fr) => write_any W _ _ v f l fr (hf.kept0 h) (hl.kept0 h) hv (by omega))
  replace h := hid h
  have hfr64 : fr.length ≤ 2000 := by omega
  obtain ⟨z, hz⟩ : ∃ z, z = l ++ fr := ⟨_, rfl⟩
  have hzl : z.length ≤ 500000 := by rw [hz]; simp; omega
  simp only [← hz] at hwr ⊢
  replace hwr := hid hwr
  clear hfl hz
  go_enter Try.func69, Try.ntmps69
  go_wp2_with fail
  with_reducible refine hfr.out.mono ?_
  rintro e w1 ⟨v1, rfl, hF1, ho1⟩
  have hB1 := hF1.bs (by omega)
  obtain ⟨va, vc, rfl⟩ := own_form hF1
  have d0 := cell_kept ho1 (by simp) c0
  have d1 := cell_kept ho1 (by simp) c1
  go_wp2_with fail
  with_reducible refine (hwr.out _ _ ho1 hB1).mono ?_
  rintro e w2 ⟨v2, u2, rfl, hF, hG, hq⟩
  have ho2 := ho1.trans0 hq
  have hs1 := ho1.size
  have hs2 := hq.size
  have hL2 : Lg w2 x f l rs (bs ++ newBs w w2) := (h.out.kept0 ho2).mono (fun k hk => by simp [hk])
  have hL3 := hL2.setDisk (fv' := v2) (f' := f) (lv' := u2) (l' := z) (Yb.own hF (by omega) (fun k h1 h2 => by simp [mem_newBs, h2]; omega)) (Yb.own hG (by omega) (fun k h1 h2 => by simp [mem_newBs, h2]; omega))
  have ho3 : Only [x] w ((w2.setCell ⟨x, 0, none⟩ v2).setCell ⟨x, 1, none⟩ u2) := ((ho2.mono (by simp)).setCell (.inl (by simp)) _).setCell (.inl (by simp)) _
  have e0 := cell_kept hq (by simp) d0
  have e1 := cell_kept hq (by simp) d1
  obtain ⟨w3, hw3⟩ : ∃ w3, w3 = (w2.setCell ⟨x, 0, none⟩ v2).setCell ⟨x, 1, none⟩ u2 := ⟨_, rfl⟩
  have hs3 : w3.heap.size = w2.heap.size := by rw [hw3]; simp [World.setCell]
  rw [← hw3] at hL3 ho3
  obtain ⟨va2, vc2, rfl⟩ := own_form hF
  obtain ⟨ua2, uc2, rfl⟩ := own_form hG
  clear hF hG hL2 hf hl hB1 hF1
  go_wp2_with fail
  rw [← hw3]
  clear hw3 hwr hfr e0 e1 c0 c1 d0 d1 hq ho1 ho2 hs1
  obtain ⟨ht, hx3, gf, gl, gr, vs, q0, q1, q2, k1, k2, k3, k4, k5⟩ := hL3
  obtain ⟨ra, rc, rfl⟩ := own_form k3
  have hb3 := ((hb.kept ho3 (fun k hk hm => by
    obtain rfl : k = x := by simpa using hm
    rcases hbx k hk with rfl | h
    · simp at hl1
    · exact h hxb)) : Bs w3 (.slice ba b.length bc) b)
  have hcl := hid (fun W (h : Only [] w3 W) => clone_any _ b W (hb3.kept0 h) (by omega))
  have hod : Only [] w3 w3.drew := (Only.refl [] w3).drew
  have K := hid (And.intro k1 (And.intro k2 (And.intro k3 (And.intro k4 k5))))
  obtain ⟨q2a, q2b⟩ := q2
  clear k1 k2 k3 k4 k5
  have hx3' : x ≠ w3.heap.size := by have := ht.lt; omega
  have hpost : Hid (∀ (w4 w6 : World) (v4 v6 : Value), Only [] w3 w4 → w4.ownsRow w3.drew.heap.size 5 1 v4 b.length (bytes b) → App (w4.alloc (Obj.cells #[v4] 27)) w6 (.slice ra rs.length rc) v6 → w6.ownsRow 0 27 1 v6 (rs.length + 1) (vs ++ [v4]) →
      (Lg (w6.setCell ⟨x, 2, none⟩ v6) x f z (rs ++ [b]) (bs ++ newBs w (w6.setCell ⟨x, 2, none⟩ v6)) ∧ Only bs w (w6.setCell ⟨x, 2, none⟩ v6)) ∧ w6.cell? ⟨x, 2, none⟩ = some (.slice ra rs.length rc) ∧ w6.frozen? ⟨x, 2, none⟩ = false) := by
    intro w4 w6 v4 v6 hp4 hF4 happ hown
    have hA := hp4.alloc (Obj.cells #[v4] 27)
    obtain ⟨K1, K2, K3, K4, K5⟩ := K.out
    have hsA := hA.size
    have hm : ∀ k ∈ bs ++ newBs w w2, k ∈ (bs ++ newBs w w2) ++ newBs w3 (w4.alloc (Obj.cells #[v4] 27)) := fun k hk => List.mem_append_left _ hk
    obtain ⟨L6, O6, s1⟩ := lg_append (ht.only0 hA) (hm x hx3) (cell_kept hA (by simp) q0) (cell_kept hA (by simp) q1) (cell_kept hA (by simp) ⟨q2a, q2b⟩) ((K1.kept0 hA).mono hm) ((K2.kept0 hA).mono hm) (own_only0 K3 hA) (fun k hk => hm k (K4 k hk)) (K5.imp fun _ _ h => (h.kept0 hA).mono hm) happ hown
      (Yb.own (own_only0 hF4 ((Only.refl [] w4).alloc _)) (by omega) (fun k h1 h2 => List.mem_append_right _ (mem_newBs.2 ⟨h1, h2⟩)))
    have hs6 := happ.grown.size
    have hsf : (w6.setCell ⟨x, 2, none⟩ v6).heap.size = w6.heap.size := by simp [World.setCell]
    have hww := ho3.size
    refine ⟨⟨L6.mono (fun k hk => ?_), ?_⟩, s1⟩
    · simp only [List.mem_append, mem_newBs, hsf] at hk ⊢
      rcases hk with ((h | h) | h) | h
      · exact .inl h
      all_goals exact .inr (by omega)
    · refine (ho3.trans hA (ds := bs) (fun k hk => ?_) (by simp)).trans O6 (fun k hk => hk) (fun k hk => ?_)
      · obtain rfl : k = x := by simpa using hk
        exact hxb
      · rcases List.mem_cons.1 hk with rfl | hk
        · exact .inl hxb
        · have := K4 k (by simpa using hk)
          simp only [List.mem_append, mem_newBs] at this
          rcases this with h | h
          · exact .inl h
          · exact .inr h.1
  go_region_law (first
    | (go_simp; go_at_call 39; ((with_reducible refine (hcl.out _ hod).mono ?_); rintro e w4 ⟨v4, rfl, hF4, hq4⟩; have hp4 : Only [] w3 w4 := hod.trans0 hq4; obtain ⟨xa, xc, rfl⟩ := own_form hF4; have q4 := hp4.cell q2a (by simp); have hx4 : x ≠ w4.heap.size := (by have := ht.lt; have := hp4.size; omega); have hx5 : x < w4.heap.size := (by have := ht.lt; have := hp4.size; omega)))
    | ((refine step_app (by rfl) _ _ 39 (by rfl) 0 27 1 24 el_bss (by rfl) (own_only0 K.out.2.2.1 (hp4.alloc _)) (by rfl) (Cs.fresh (cs := [_]) rfl) (one1 rfl) (by omega) (by omega) (Nat.zero_le _) ?_); intro v6 w6 hown6 happ6; obtain ⟨r6a, r6c, rfl⟩ := own_form hown6; obtain ⟨hfin, s1, s2⟩ := hpost.out _ _ _ _ hp4 hF4 happ6 hown6; replace hfin := hid hfin))
  all_goals
    go_wp2
    go_ret
    exact ⟨rfl, hfin.out⟩
end Go.Proofs.Ytnlmeaijnfjakaa.Sh
