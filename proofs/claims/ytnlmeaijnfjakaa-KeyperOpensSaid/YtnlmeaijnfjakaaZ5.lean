/- Texts of this proof, merged: RJouE, KrA, KrB, AppZero, FindReg. -/
import Derived.Test.YtnlmeaijnfjakaaZ4
import Derived.Test.YtnlmeaijnfjakaaStepApp
import Derived.Test.YtnlmeaijnfjakaaBytes
import Derived.Deep.RegionHeld3
/- The document's log: appended to, compacted: walked. -/
namespace Go.Proofs.Ytnlmeaijnfjakaa.Sh
set_option linter.unusedSimpArgs false
set_option linter.unusedVariables false
open Go Go.RowKit

theorem bs_keptE {w w' : World} {v : Value} {l : List UInt8} (h : Bs w v l) {bs : List Nat} (ho : Only bs w w') (hn : ∀ b, v.ownBlock = some b → l = [] ∨ b ∉ bs) : Bs w' v l := by
  obtain ⟨hl, a, cap, rfl, h1, h2, h4, h3⟩ := h
  refine ⟨hl, a, cap, rfl, h1, h2, h4, ?_⟩
  rcases h3 with h3 | ⟨b, o, rfl, h3⟩
  · exact .inl h3
  · rcases hn b rfl with rfl | hn
    · exact .inl rfl
    · exact .inr ⟨b, o, rfl, fun j u hu => ho.cell (h3 j u hu) hn⟩

set_option maxRecDepth 20000 in
set_option maxHeartbeats 1600000 in
theorem rappend_bad (w : World) (x : Nat) (bv : Value) (b : List UInt8) (hb : Bs w bv b) (hl : b.length < 1 ∨ 1000 < b.length) :
    Calls Try.prog 94 #[.pointer (some ⟨x, 0, none⟩), bv] w fun e w' => e = .returned (.int .i64 1) ∧ w' = w := by
  have hfr := hid (refFrame_bad bv b w hb hl)
  obtain ⟨ba, bc, rfl⟩ := bs_form hb
  clear hl
  go_enter Try.func94, Try.ntmps94
  go_wp2_with fail
  with_reducible refine hfr.out.mono ?_
  rintro e w' ⟨rfl, rfl⟩
  go_wp2_with fail
  go_ret
  exact ⟨rfl, rfl⟩

theorem RLg.setLoose {w : World} {x : Nat} {f l l' : List UInt8} {rs : List (List UInt8)} {bs : List Nat} {lv' : Value} (h : RLg w x f l rs bs) (hl : Yb w bs lv' l') : RLg (w.setCell ⟨x, 1, none⟩ lv') x f l' rs bs := by
  obtain ⟨ht, hx, fv, lv, rv, vs, c0, c1, c2, h1, h2, h3, h4, h5⟩ := h
  have hO : Only [x] w (w.setCell ⟨x, 1, none⟩ lv') := (Only.refl _ w).setCell (.inl (by simp)) _
  have hd : ∀ k ∈ [x], k ∉ bs ∨ ¬ TyAt w k 5 := by
    intro k hk
    obtain rfl : k = x := by simpa using hk
    exact .inr (fun h => absurd (h.uniq ht) (by decide))
  refine ⟨ht.setCell _ _, hx, fv, lv', rv, vs, set_cell _ c1 c0 (by simp), same_cell c1, set_cell _ c1 c2 (by simp), h1.only hO hd, hl.only hO hd, own_only h3 hO (fun k hk hm => ?_), h4, h5.imp fun _ _ k => k.only hO hd⟩
  obtain rfl : k = x := by simpa using hm
  exact absurd ((own_ty h3 k hk).uniq ht) (by decide)

theorem all2_one {w : World} {bs : List Nat} {vs : List Value} {rs : List (List UInt8)} (h : All2 (Yb w bs) vs rs) : ∀ u ∈ vs, u.oneCell' = true := by
  induction h with
  | nil => intro u hu; cases hu
  | cons h1 _ ih =>
    intro u hu
    rcases List.mem_cons.1 hu with rfl | hu
    · obtain ⟨a, c, rfl⟩ := bs_form h1.1
      rfl
    · exact ih u hu

theorem RLg.rows {w : World} {x : Nat} {f l : List UInt8} {rs : List (List UInt8)} {bs : List Nat} (h : RLg w x f l rs bs) : ∃ ra rc vs, (w.cell? ⟨x, 2, none⟩ = some (.slice ra rs.length rc) ∧ w.frozen? ⟨x, 2, none⟩ = false) ∧ w.ownsRow 0 27 1 (.slice ra rs.length rc) rs.length vs ∧ (∀ k, (Value.slice ra rs.length rc).ownBlock = some k → k ∈ bs) ∧ All2 (Yb w bs) vs rs := by
  obtain ⟨_, _, _, _, rv, vs, _, _, c2, _, _, h3, h4, h5⟩ := h
  obtain ⟨ra, rc, rfl⟩ := own_form h3
  exact ⟨ra, rc, vs, c2, h3, h4, h5⟩

set_option maxRecDepth 20000 in
set_option maxHeartbeats 6400000 in
theorem rappend_good (w : World) (x : Nat) (f l b : List UInt8) (rs : List (List UInt8)) (bs : List Nat) (h : RLg w x f l rs bs) (bv : Value) (hb : Bs w bv b) (hbx : ∀ k, bv.ownBlock = some k → b = [] ∨ k ≠ x) (hl1 : 1 ≤ b.length) (hl2 : b.length ≤ 1000) (hlen : f.length + l.length ≤ 400000) (hrs : rs.length ≤ 1000000) :
    Calls Try.prog 94 #[.pointer (some ⟨x, 0, none⟩), bv] w fun e w' => e = .returned (.int .i64 0) ∧ RLg w' x f (l ++ frameL b) (rs ++ [b]) (bs ++ newBs w w') ∧ Only [x] w w' := by
  obtain ⟨fa, fc, la, lc, c0, c1, hf, hl, hx⟩ := h.sees
  have hfr := hid (refFrame_good bv b w hb hl1 hl2)
  obtain ⟨F, hF⟩ : ∃ F, F = frameL b := ⟨_, rfl⟩
  have hFl : F.length = 6 + b.length := by rw [hF, frameL_length]
  rw [← hF] at hfr ⊢
  clear hF
  obtain ⟨ba, bc, rfl⟩ := bs_form hb
  obtain ⟨z, hz⟩ : ∃ z, z = l ++ F := ⟨_, rfl⟩
  rw [← hz]
  have hzl : z.length = l.length + F.length := by rw [hz, List.length_append]
  have HZ := hid hz
  have HZL := hid hzl
  have hF2 : F.length ≤ 2000 := by omega
  have hz2 : z.length ≤ 500000 := by omega
  have hbb := hid hbx
  have HB := hid hb
  have HL := hid h
  obtain ⟨ra, rc, r2, r2'⟩ : ∃ ra rc, w.cell? ⟨x, 2, none⟩ = some (.slice ra rs.length rc) ∧ w.frozen? ⟨x, 2, none⟩ = false := by
    obtain ⟨ra, rc, _, r1, _⟩ := h.rows
    exact ⟨ra, rc, r1⟩
  have hcx := hid (fun W (o : Only [] w W) => o.cell r2 (by simp))
  -- what is there behind the disk's store
  have hmid : Hid (∀ (w1 w3 : World) (ya : Option Addr) (yc : Nat), Only [] w w1 → Only [] w1 w3 → w3.ownsRow w1.heap.size 5 1 (.slice ya z.length yc) z.length (bytes z) →
      ∃ w4 vs, w4 = w3.setCell ⟨x, 1, none⟩ (.slice ya z.length yc) ∧ RLg w4 x f z rs (bs ++ newBs w w4) ∧ Only [x] w w4 ∧ w4.heap.size = w3.heap.size ∧ Bs w4 (.slice ba b.length bc) b ∧ (w4.cell? ⟨x, 2, none⟩ = some (.slice ra rs.length rc) ∧ w4.frozen? ⟨x, 2, none⟩ = false) ∧ w4.ownsRow 0 27 1 (.slice ra rs.length rc) rs.length vs ∧ All2 (Yb w4 (bs ++ newBs w w4)) vs rs) := by
    intro w1 w3 ya yc o1 o3 own3
    have o13 := o1.trans0 o3
    have s1 := o1.size
    have o4 : Only [x] w (w3.setCell ⟨x, 1, none⟩ (.slice ya z.length yc)) := (o13.mono (by simp)).setCell (.inl (by simp)) _
    have hs4 : (w3.setCell ⟨x, 1, none⟩ (.slice ya z.length yc)).heap.size = w3.heap.size := by simp [World.setCell]
    have hL3 : RLg w3 x f l rs (bs ++ newBs w w3) := (HL.out.kept0 o13).mono (fun k hk => by simp [hk])
    have hL4 := hL3.setLoose (lv' := .slice ya z.length yc) (l' := z) (Yb.own own3 (by omega) (fun k h1 h2 => List.mem_append_right _ (mem_newBs.2 (by omega))))
    have hL4' : RLg (w3.setCell ⟨x, 1, none⟩ (.slice ya z.length yc)) x f z rs (bs ++ newBs w (w3.setCell ⟨x, 1, none⟩ (.slice ya z.length yc))) := hL4.mono (fun k hk => by
      rcases List.mem_append.1 hk with h9 | h9
      · exact List.mem_append_left _ h9
      · refine List.mem_append_right _ (mem_newBs.2 ?_)
        have := mem_newBs.1 h9
        omega)
    obtain ⟨ra', rc', vs, r1, r2'', _, r4⟩ := hL4'.rows
    obtain ⟨ra'', rc'', vs', q1, _⟩ := hL3.rows
    have e1 := (hcx.out w3 o13).symm.trans q1.1
    have e2 : (w3.setCell ⟨x, 1, none⟩ (.slice ya z.length yc)).cell? ⟨x, 2, none⟩ = some (.slice ra rs.length rc) := by
      rw [World.cell?_setCell_other _ _ _ _ (by simp)]
      exact hcx.out w3 o13
    have e3 := r1.1.symm.trans e2
    simp only [Option.some.injEq, Value.slice.injEq] at e3
    obtain ⟨rfl, _, rfl⟩ := e3
    exact ⟨_, vs, rfl, hL4', o4, hs4, bs_keptE HB.out o4 (fun k hk => by
      rcases hbb.out k hk with h9 | h9
      · exact .inl h9
      · exact .inr (by simpa using h9)), r1, r2'', r4⟩
  clear hFl hz hzl hbx h hf c0
  go_enter Try.func94, Try.ntmps94
  go_wp2_with fail
  with_reducible refine hfr.out.mono ?_
  rintro e w1 ⟨v1, rfl, hF1, o1⟩
  have hB1 := hF1.bs (by omega)
  obtain ⟨va, vc, rfl⟩ := own_form hF1
  obtain ⟨d1, d1'⟩ := cell_kept o1 (by simp) c1
  have hs1 := o1.size
  have ob1 := own_built w1 [] 5 1 0 rfl (by unfold maxLen; omega)
  have oE : Only [] w1 (w1.alloc (Obj.cells #[] 5)) := (Only.refl [] w1).alloc _
  have d1E := oE.cell d1 (by simp)
  have hlE := (hl.kept0 o1).kept0 oE
  clear c1 hF1
  go_wp2_with (first
    | (at_builtin; refine wpList_app (by rfl) _ _ 27 (by rfl) w1.heap.size 5 1 1 el_u8 (by rfl) ob1 (by rfl) hlE (bytes_one l) (by omega) (by omega) (by simp) ?_; intro v2 w2 own2 app2; rw [Nat.zero_add, List.nil_append] at own2; have q2 : Only [] w1 w2 := oE.app app2 (fun k hk => .inr (ob1.lt k hk).1); obtain ⟨xa, xc, rfl⟩ := own_form own2; have hB2 := hB1.kept0 q2)
    | (at_builtin; refine wpList_app (by rfl) _ _ 27 (by rfl) w1.heap.size 5 1 1 el_u8 (by rfl) own2 (by rfl) hB2 (bytes_one F) (by omega) (by omega) (by have := q2.size; omega) ?_; intro v3 w3 own3 app3; replace own3 := own_cast (n' := z.length) (xs' := bytes z) own3 (by rw [HZL.out]) (by rw [HZ.out]; simp [bytes]); have q3 : Only [] w1 w3 := q2.app app3 (fun k hk => .inr (own2.lt k hk).1); obtain ⟨ya, yc, rfl⟩ := own_form own3; obtain ⟨e1a, e1b⟩ := cell_kept q3 (by simp) ⟨d1, d1'⟩; have e2a := hcx.out w3 (o1.trans0 q3); have hx3 : x < w3.heap.size := lt_cell e1a; obtain ⟨w4, vs, hw4, hL4, o4, hs4, hb4, f2, hrow4, hall4⟩ := hmid.out w1 w3 ya yc o1 q3 own3; replace own3 := hid own3; replace own2 := hid own2; replace app2 := hid app2; replace app3 := hid app3; replace hL4 := hid hL4; replace hrow4 := hid hrow4; replace hall4 := hid hall4; replace hb4 := hid hb4; replace f2 := hid f2; replace o4 := hid o4; replace hs4 := hid hs4; replace hw4 := hid hw4)
    | (at_builtin; rw [← hw4.out]; have oE4 : Only [] w4 (w4.alloc (Obj.cells #[] 27)) := (Only.refl [] w4).alloc _; have ob4 := own_built w4 [] 27 1 0 rfl (by unfold maxLen; omega); rw [hs4.out] at ob4; have hcs4 := Cs.of_own (own_only0 hrow4.out oE4) (by omega); refine wpList_app (by rfl) _ _ 39 (by rfl) w3.heap.size 27 1 24 el_bss (by rfl) ob4 (by rfl) hcs4 (all2_one hall4.out) (by omega) (by omega) (by rw [World.size_alloc, hs4.out]; omega) ?_; intro v5 w5 own5 app5; rw [Nat.zero_add, List.nil_append] at own5; have q5 : Only [] w4 w5 := oE4.app app5 (fun k hk => .inr (by rw [hs4.out]; exact (ob4.lt k hk).1)); obtain ⟨za, zc, rfl⟩ := own_form own5; replace ob4 := hid ob4; replace app5 := hid app5; replace hcs4 := hid hcs4; replace oE4 := hid oE4; replace own5 := hid own5; replace q5 := hid q5)
    | (at_builtin; have oE5 : Only [] w5 (w5.alloc (Obj.cells #[] 5)) := (Only.refl [] w5).alloc _; have ob5 := own_built w5 [] 5 1 0 rfl (by unfold maxLen; omega); have hb5 := (hb4.out.kept0 q5.out).kept0 oE5; refine wpList_app (by rfl) _ _ 27 (by rfl) w5.heap.size 5 1 1 el_u8 (by rfl) ob5 (by rfl) hb5 (bytes_one b) (by omega) (by omega) (by rw [World.size_alloc]; omega) ?_; intro v6 w6 own6 app6; rw [Nat.zero_add, List.nil_append] at own6; have q6 : Only [] w5 w6 := oE5.app app6 (fun k hk => .inr (ob5.lt k hk).1); obtain ⟨ta, tc, rfl⟩ := own_form own6; replace ob5 := hid ob5; replace app6 := hid app6; replace hb5 := hid hb5; replace oE5 := hid oE5; replace own6 := hid own6; replace q6 := hid q6)
    | (at_builtin; refine wpList_app (by rfl) _ _ 39 (by rfl) w3.heap.size 27 1 24 el_bss (by rfl) (own_only0 own5.out (q6.out.alloc _)) (by rfl) (Cs.fresh (cs := [_]) rfl) (one1 rfl) (by omega) (by omega) (by rw [World.size_alloc]; have := q5.out.size; have := q6.out.size; have := hs4.out; omega) ?_; intro v8 w8 own8 app8; have q8 : Only [] w4 w8 := (q5.out.trans0 (q6.out.alloc _)).app app8 (fun k hk => .inr (by rw [hs4.out]; exact (own5.out.lt k hk).1)); obtain ⟨ua, uc, rfl⟩ := own_form own8; obtain ⟨f8a, f8b⟩ := cell_kept q8 (by simp) f2.out; replace own8 := hid own8; replace app8 := hid app8; replace q8 := hid q8))
  go_ret
  have hs5 := q5.out.size
  have hs6 := q6.out.size
  have hs8 := q8.out.size
  have h64 := o4.out.size
  have h34 := hs4.out
  have hL8 : RLg w8 x f z rs (bs ++ newBs w w8) := (hL4.out.kept0 q8.out).mono (fun k hk => by
    rcases List.mem_append.1 hk with h9 | h9
    · exact List.mem_append_left _ h9
    · refine List.mem_append_right _ (mem_newBs.2 ?_)
      have := mem_newBs.1 h9
      omega)
  have oA6 : Only [] w6 (w6.alloc (Obj.cells #[.slice ta b.length tc] 27)) := (Only.refl [] w6).alloc _
  have hne := own_ne (own_only0 own6.out oA6) (own_only0 own5.out (q6.out.trans0 oA6)) (by decide)
  have own6' := app8.out.other (own_only0 own6.out oA6) hne
  have hmem : ∀ k, w4.heap.size ≤ k → k < w8.heap.size → k ∈ bs ++ newBs w w8 := fun k h1 h2 => List.mem_append_right _ (mem_newBs.2 (by omega))
  have hall8 : All2 (Yb w8 (bs ++ newBs w w8)) vs rs := hall4.out.imp fun _ _ hy => (hy.kept0 q8.out).mono (fun k hk => by
    rcases List.mem_append.1 hk with h9 | h9
    · exact List.mem_append_left _ h9
    · refine List.mem_append_right _ (mem_newBs.2 ?_)
      have := mem_newBs.1 h9
      omega)
  have hfin := hL8.setRows (rs' := rs ++ [b]) (rv' := .slice ua (rs.length + 1) uc) (vs' := vs ++ [.slice ta b.length tc]) (own_lower (own_cast own8.out (by simp) rfl) (Nat.zero_le _)) (fun k hk => by
      have := own8.out.lt k hk
      exact hmem k (by omega) this.2) (All2.snoc hall8 (Yb.own (B := w5.heap.size) own6' (by omega) (fun k h1 h2 => hmem k (by omega) h2)))
  refine ⟨rfl, hfin.mono (fun k hk => ?_), (o4.out.trans q8.out (by simp) (by simp)).setCell (.inl (by simp)) _⟩
  rcases List.mem_append.1 hk with h9 | h9
  · exact List.mem_append_left _ h9
  · refine List.mem_append_right _ (mem_newBs.2 ?_)
    have := mem_newBs.1 h9
    simpa [World.setCell] using this
end Go.Proofs.Ytnlmeaijnfjakaa.Sh
/- The document's keyper in memory; its search; lists of names held against each other: walked. (Printed by gen_kra.py.) -/
namespace Go.Proofs.Ytnlmeaijnfjakaa.Sh
set_option linter.unusedSimpArgs false
set_option linter.unusedVariables false
open Go Go.RowKit

def gotC (H : List ((List UInt8 × List UInt8) × Value)) : List Value := H.flatMap (fun p => bytes p.1.1 ++ [p.2])
/-- The document's shares, as a slice. -/
def Gots (w : World) (bs : List Nat) (v : Value) (sh : List (List UInt8 × List UInt8)) : Prop :=
  ∃ H : List ((List UInt8 × List UInt8) × Value), H.map (·.1) = sh ∧ Cs 33 w v sh.length (gotC H) ∧ (∀ i, v.ownBlock = some i → i ∈ bs) ∧ (∀ p ∈ H, p.1.1.length = 32 ∧ Bs w p.2 p.1.2 ∧ ∀ i, p.2.ownBlock = some i → i ∈ bs)
theorem gotC_get : ∀ (H : List ((List UInt8 × List UInt8) × Value)) (k : Nat), (∀ p ∈ H, p.1.1.length = 32) → (hk : k < H.length) → ∀ j, j < 33 → (gotC H)[k * 33 + j]? = (bytes H[k].1.1 ++ [H[k].2])[j]?
  | [], k, _, hk, j, _ => by simp at hk
  | p :: H, 0, hd, _, j, hj => by
    have hp := hd p (by simp)
    unfold gotC
    rw [List.flatMap_cons, Nat.zero_mul, Nat.zero_add, List.getElem?_append_left (by simp [bytes, hp]; omega)]
    rfl
  | p :: H, k + 1, hd, hk, j, hj => by
    have hp := hd p (by simp)
    have ih := gotC_get H k (fun q hq => hd q (by simp [hq])) (by simpa using hk) j hj
    unfold gotC at ih ⊢
    rw [List.flatMap_cons, List.getElem?_append_right (by simp [bytes, hp]; omega)]
    have hl : (bytes p.1.1 ++ [p.2]).length = 33 := by simp [bytes, hp]
    rw [hl, show (k + 1) * 33 + j - 33 = k * 33 + j by omega, ih]
    rfl
theorem gotC_len : ∀ (H : List ((List UInt8 × List UInt8) × Value)), (∀ p ∈ H, p.1.1.length = 32) → (gotC H).length = H.length * 33
  | [], _ => rfl
  | p :: H, h => by
    have hp := h p (by simp)
    unfold gotC
    rw [List.flatMap_cons, List.length_append]
    have := gotC_len H (fun q hq => h q (by simp [hq]))
    unfold gotC at this
    rw [this]
    simp [bytes, hp]
    omega
theorem Gots.form {w : World} {bs : List Nat} {v : Value} {sh : List (List UInt8 × List UInt8)} (h : Gots w bs v sh) : ∃ a cap, v = .slice a sh.length cap ∧ sh.length ≤ cap ∧ cap ≤ maxLen ∧ sh.length ≤ 9223372036854775807 := by
  obtain ⟨H, rfl, ⟨_, a, cap, rfl, h1, h2, h3, _⟩, _⟩ := h
  exact ⟨a, cap, rfl, h1, h2, h3⟩
theorem Gots.at {w : World} {bs : List Nat} {a : Option Addr} {n cap : Nat} {sh : List (List UInt8 × List UInt8)} (h : Gots w bs (.slice a n cap) sh) (k : Nat) (hk : k < sh.length) :
    ∃ b o u, a = some ⟨b, o, none⟩ ∧ w.rangeAt b (o + k * 33) (bytes sh[k].1) ∧ sh[k].1.length = 32 ∧ w.cell? ⟨b, o + k * 33 + 32, none⟩ = some u ∧ Bs w u sh[k].2 ∧ ∀ i, u.ownBlock = some i → i ∈ bs := by
  obtain ⟨H, rfl, ⟨hl, a', cap', he, _, _, _, h4⟩, h5, h6⟩ := h
  simp only [Value.slice.injEq] at he
  obtain ⟨rfl, _, rfl⟩ := he
  have hkH : k < H.length := by simpa using hk
  have hp := h6 H[k] (List.getElem_mem hkH)
  have hg := gotC_get H k (fun q hq => (h6 q hq).1) hkH
  have e : (H.map (·.1))[k] = H[k].1 := by simp
  rw [e]
  rcases h4 with h4 | ⟨b, o, rfl, h4⟩
  · have := gotC_len H (fun q hq => (h6 q hq).1)
    rw [h4] at this
    simp at this
    omega
  · refine ⟨b, o, H[k].2, rfl, fun j u hj => ?_, hp.1, ?_, hp.2.1, hp.2.2⟩
    · have hjl : j < (bytes H[k].1.1).length := by
        rcases Nat.lt_or_ge j (bytes H[k].1.1).length with h9 | h9
        · exact h9
        · rw [List.getElem?_eq_none h9] at hj; cases hj
      have h32 : (bytes H[k].1.1).length = 32 := by simp [bytes, hp.1]
      rw [Nat.add_assoc]
      exact h4 (k * 33 + j) u (by rw [hg j (by omega), List.getElem?_append_left hjl]; exact hj)
    · rw [Nat.add_assoc]
      refine h4 (k * 33 + 32) _ ?_
      rw [hg 32 (by omega), List.getElem?_append_right (by simp [bytes, hp.1])]
      simp [bytes, hp.1]
theorem Gots.kept {w w' : World} {bs ds : List Nat} {v : Value} {sh : List (List UInt8 × List UInt8)} (h : Gots w bs v sh) (ho : Only ds w w') (hd : ∀ i ∈ ds, i ∉ bs) : Gots w' bs v sh := by
  obtain ⟨H, h1, h2, h3, h4⟩ := h
  exact ⟨H, h1, h2.kept ho (fun b hb hm => hd b hm (h3 b hb)), h3, fun p hp => ⟨(h4 p hp).1, (h4 p hp).2.1.kept ho (fun b hb hm => hd b hm ((h4 p hp).2.2 b hb)), (h4 p hp).2.2⟩⟩
theorem Gots.mono {w : World} {bs ds : List Nat} {v : Value} {sh : List (List UInt8 × List UInt8)} (h : Gots w bs v sh) (hs : ∀ i ∈ bs, i ∈ ds) : Gots w ds v sh := by
  obtain ⟨H, h1, h2, h3, h4⟩ := h
  exact ⟨H, h1, h2, fun i hi => hs i (h3 i hi), fun p hp => ⟨(h4 p hp).1, (h4 p hp).2.1, fun i hi => hs i ((h4 p hp).2.2 i hi)⟩⟩

/-- The document's keyper at y: its log at x (own blocks ls); its shares and names in blocks bs. -/
structure RKp (w : World) (y x : Nat) (ls bs : List Nat) (m : Km) (f : List UInt8) (rs : List (List UInt8)) : Prop where
  c0 : ∃ lv, (w.cell? ⟨y, 0, none⟩ = some lv ∧ w.frozen? ⟨y, 0, none⟩ = false) ∧ Gots w bs lv m.sh
  c1 : w.cell? ⟨y, 1, none⟩ = some (.int .u64 (m.slot : Int)) ∧ w.frozen? ⟨y, 1, none⟩ = false
  c2 : ∃ iv, (w.cell? ⟨y, 2, none⟩ = some iv ∧ w.frozen? ⟨y, 2, none⟩ = false) ∧ Dgs w iv m.ids ∧ ∀ i, iv.ownBlock = some i → i ∈ bs
  c3 : w.cell? ⟨y, 3, none⟩ = some (.bool m.told) ∧ w.frozen? ⟨y, 3, none⟩ = false
  c4 : w.cell? ⟨y, 4, none⟩ = some (.pointer (some ⟨x, 0, none⟩))
  log : RLg w x f [] rs ls
  ny : y ∉ ls ∧ y ∉ bs
  dis : ∀ i ∈ bs, i ∉ ls
theorem RKp.only {w w' : World} {y x : Nat} {ls bs ds : List Nat} {m : Km} {f : List UInt8} {rs : List (List UInt8)} (h : RKp w y x ls bs m f rs) (ho : Only ds w w') (hd : ∀ i ∈ ds, i ≠ y ∧ i ∉ ls ∧ i ∉ bs) : RKp w' y x ls bs m f rs := by
  have hy : y ∉ ds := fun hm => (hd y hm).1 rfl
  obtain ⟨lv, l1, l2⟩ := h.c0
  obtain ⟨iv, i1, i2, i3⟩ := h.c2
  exact ⟨⟨lv, cell_kept ho hy l1, l2.kept ho (fun i hi => (hd i hi).2.2)⟩, cell_kept ho hy h.c1, ⟨iv, cell_kept ho hy i1, i2.kept ho (fun b hb hm => (hd b hm).2.2 (i3 b hb)), i3⟩, cell_kept ho hy h.c3, ho.cell h.c4 hy, h.log.only ho (fun i hi => (hd i hi).2.1), h.ny, h.dis⟩
theorem RKp.kept0 {w w' : World} {y x : Nat} {ls bs : List Nat} {m : Km} {f : List UInt8} {rs : List (List UInt8)} (h : RKp w y x ls bs m f rs) (ho : Only [] w w') : RKp w' y x ls bs m f rs := h.only ho (by simp)

/-- A share's place; below 0: there is none. -/
def findI : List (List UInt8 × List UInt8) → List UInt8 → Int
  | [], _ => -1
  | p :: sh, d => if p.1 = d then 0 else (if findI sh d < 0 then -1 else findI sh d + 1)
theorem findI_at : ∀ (sh : List (List UInt8 × List UInt8)) (d : List UInt8) (k : Nat) (hk : k < sh.length), (∀ j (h : j < sh.length), j < k → sh[j].1 ≠ d) → sh[k].1 = d → findI sh d = (k : Int)
  | [], d, k, hk, _, _ => by simp at hk
  | p :: sh, d, 0, _, _, he => by
    unfold findI
    rw [if_pos (by simpa using he)]
    rfl
  | p :: sh, d, k + 1, hk, hn, he => by
    have h0 := hn 0 (by simp) (by omega)
    have ih := findI_at sh d k (by simpa using hk) (fun j h hj => by have := hn (j + 1) (by simpa using h) (by omega); simpa using this) (by simpa using he)
    unfold findI
    rw [if_neg (by simpa using h0), ih, if_neg (by omega)]
    omega
theorem findI_none : ∀ (sh : List (List UInt8 × List UInt8)) (d : List UInt8), (∀ j (h : j < sh.length), sh[j].1 ≠ d) → findI sh d = -1
  | [], d, _ => rfl
  | p :: sh, d, hn => by
    have h0 := hn 0 (by simp)
    have ih := findI_none sh d (fun j h => by have := hn (j + 1) (by simpa using h); simpa using this)
    unfold findI
    rw [if_neg (by simpa using h0), ih]
    rfl

set_option maxRecDepth 20000 in
set_option maxHeartbeats 1600000 in
theorem find_any (w : World) (y x : Nat) (ls bs : List Nat) (m : Km) (f : List UInt8) (rs : List (List UInt8)) (h : RKp w y x ls bs m f rs) (d : List UInt8) (hd : d.length = 32) :
    Calls Try.prog 52 #[.pointer (some ⟨y, 0, none⟩), vD d] w fun e w' => e = .returned (.int .i64 (findI m.sh d)) ∧ Only [] w w' := by
  have hb := dig_boxed w d hd 35
  obtain ⟨w1, hw1⟩ : ∃ w1, w1 = w.alloc (Obj.cells (bytes d).toArray 35) := ⟨_, rfl⟩
  have o1 : Only [] w w1 := by rw [hw1]; exact (Only.refl [] w).alloc _
  rw [← hw1] at hb
  have hi : (Try.prog.info? 35).map (·.size) = some (bytes d).length := by rw [dig_info]; simp [bytes, hd]
  have hu := Try.underlying35
  obtain ⟨g, hg⟩ : ∃ g, g = w.heap.size := ⟨_, rfl⟩
  rw [← hg] at hb
  have HD := hid hd
  obtain ⟨lv, ⟨l0, _⟩, l2⟩ := h.c0
  have l1 := o1.cell l0 (by simp)
  replace l2 := l2.kept o1 (by simp)
  obtain ⟨a, cap, rfl, f1, f2, f3⟩ := l2.form
  obtain ⟨sh, hsh⟩ : ∃ sh, sh = m.sh := ⟨_, rfl⟩
  rw [← hsh] at l2 l0 l1 f1 f3 ⊢
  have l1L := l1
  rw [hw1] at l1L
  unfold vD
  clear hd h hsh
  go_enter Try.func52, Try.ntmps52
  go_wp2_with fail
  rw [← hw1, ← hg]
  clear hw1 hg l1L l0
  go_loopw [11] (fun i wr => ∃ k : Nat, k ≤ sh.length ∧ i = .int .i64 k ∧ Hid (∀ j (h : j < sh.length), j < k → sh[j].1 ≠ d) ∧ Only [] w1 wr) (fun i _ => sh.length - (intOf i).toNat)
  case atStart => exact ⟨0, Nat.zero_le _, rfl, hid (fun j _ h => absurd h (Nat.not_lt_zero _)), Only.refl _ _⟩
  case round =>
    obtain ⟨k, hk, rfl, hn, ho⟩ := hrel
    have l1r := ho.cell l1 (by simp)
    by_cases hlt : k < sh.length
    · obtain ⟨b, o, u, rfl, hr, hl32, _⟩ := (l2.kept ho (by simp)).at k hlt
      have hbr : wr.rangeAt g 0 (bytes d) := fun j u hj => ho.cell (hb j u hj) (by simp)
      have hlast := hid (findI_at sh d k hlt hn.out)
      obtain ⟨z, hz⟩ : ∃ z, z = sh[k].1 := ⟨_, rfl⟩
      rw [← hz] at hr hl32 hlast
      have hi2 : (Try.prog.info? 35).map (·.size) = some (bytes z).length := by rw [dig_info]; simp [bytes, hl32]
      by_cases hdx : z = d
      · have hq : ∀ w, (binOp .eql 35 (.agg (bytes z).toArray) (.agg (bytes d).toArray)).run Try.prog w = .ok (.bool true) w := by
          intro w
          rw [eql_digA z d hl32 HD.out w, hdx]
          simp
        have hres := hid (hlast.out hdx)
        have hfin := hid ((o1.trans0 ho).drew)
        clear hdx hz hl32 hn hlast
        go_wp2_with fail
        refine wp_region_held_drew (S := fun w => w.cell? ⟨y, 0, none⟩ = some (.slice (some ⟨b, o, none⟩) sh.length cap) ∧ w.rangeAt g 0 (bytes d) ∧ w.rangeAt b (o + k * 33) (bytes z)) (by kernel_rfl) ⟨l1r, hbr, hr⟩ (fun hHeld => ?_)
        refine wpAnyH_take (i := 0) (v := ?v1) rfl (by kernel_rfl) (by kernel_rfl) (by kernel_rfl) (fun _ _ _ h => h) (Or.inl ⟨by rfl, ?hy1⟩) (by assumption) ?rest1
        case hy1 => (intro w hSw; (try dsimp only at hSw); go_simp; try with_reducible rfl)
        simp only [Act.put, List.setIfInBounds_toArray, List.set_cons_zero, List.set_cons_succ, List.getElem_toArray, List.getElem_cons_succ, List.getElem_cons_zero]
        refine wpAnyH_take (i := 1) (v := ?v2) rfl (by kernel_rfl) (by kernel_rfl) (by kernel_rfl) (fun _ _ _ h => h) (Or.inl ⟨by rfl, ?hy2⟩) (by assumption) ?rest2
        case hy2 => (intro w hSw; (try dsimp only at hSw); go_simp; try with_reducible rfl)
        simp only [Act.put, List.setIfInBounds_toArray, List.set_cons_zero, List.set_cons_succ, List.getElem_toArray, List.getElem_cons_succ, List.getElem_cons_zero]
        refine wpAnyH_take (i := 2) (v := ?v3) rfl (by kernel_rfl) (by kernel_rfl) (by kernel_rfl) (fun _ _ _ h => h) (Or.inl ⟨by rfl, ?hy3⟩) (by assumption) ?rest3
        case hy3 => (intro w hSw; (try dsimp only at hSw); go_simp; try with_reducible rfl)
        simp only [Act.put, List.setIfInBounds_toArray, List.set_cons_zero, List.set_cons_succ, List.getElem_toArray, List.getElem_cons_succ, List.getElem_cons_zero]
        refine wpAnyH_take (i := 3) (v := ?v4) rfl (by kernel_rfl) (by kernel_rfl) (by kernel_rfl) (fun _ _ _ h => h) (Or.inl ⟨by rfl, ?hy4⟩) (by assumption) ?rest4
        case hy4 => (intro w hSw; (try dsimp only at hSw); go_simp; try with_reducible rfl)
        simp only [Act.put, List.setIfInBounds_toArray, List.set_cons_zero, List.set_cons_succ, List.getElem_toArray, List.getElem_cons_succ, List.getElem_cons_zero]
        refine wpAnyH_take (i := 4) (v := ?v5) rfl (by kernel_rfl) (by kernel_rfl) (by kernel_rfl) (fun _ _ _ h => h) (Or.inl ⟨by rfl, ?hy5⟩) (by assumption) ?rest5
        case hy5 => (intro w hSw; (try dsimp only at hSw); go_simp; try with_reducible rfl)
        simp only [Act.put, List.setIfInBounds_toArray, List.set_cons_zero, List.set_cons_succ, List.getElem_toArray, List.getElem_cons_succ, List.getElem_cons_zero]
        refine wpAnyH_take (i := 5) (v := ?v6) rfl (by kernel_rfl) (by kernel_rfl) (by kernel_rfl) (fun _ _ _ h => h) (Or.inl ⟨by rfl, ?hy6⟩) (by assumption) ?rest6
        case hy6 => (intro w hSw; (try dsimp only at hSw); go_simp; try with_reducible rfl)
        simp only [Act.put, List.setIfInBounds_toArray, List.set_cons_zero, List.set_cons_succ, List.getElem_toArray, List.getElem_cons_succ, List.getElem_cons_zero]
        refine wpAnyH_take (i := 6) (v := ?v7) rfl (by kernel_rfl) (by kernel_rfl) (by kernel_rfl) (fun _ _ _ h => h) (Or.inl ⟨by rfl, ?hy7⟩) (by assumption) ?rest7
        case hy7 => (intro w hSw; (try dsimp only at hSw); go_simp; try with_reducible rfl)
        simp only [Act.put, List.setIfInBounds_toArray, List.set_cons_zero, List.set_cons_succ, List.getElem_toArray, List.getElem_cons_succ, List.getElem_cons_zero]
        refine wpAnyH_take (i := 7) rfl (by kernel_rfl) (by kernel_rfl) (by kernel_rfl) (fun _ _ _ h => h) (yieldsIf_load_mid (by rfl) _ _ rfl _ _ rfl _ _ (fun w hS => hS.2.2) hu rfl hi2) (by assumption) ?_
        simp only [Act.put, List.setIfInBounds_toArray, List.set_cons_zero, List.set_cons_succ, List.getElem_toArray, List.getElem_cons_succ, List.getElem_cons_zero]
        refine wpAnyH_take (i := 8) rfl (by kernel_rfl) (by kernel_rfl) (by kernel_rfl) (fun _ _ _ h => h) (yieldsIf_load_mid (by rfl) _ _ rfl _ _ rfl _ _ (fun w hS => hS.2.1) hu rfl hi) (by assumption) ?_
        simp only [Act.put, List.setIfInBounds_toArray, List.set_cons_zero, List.set_cons_succ, List.getElem_toArray, List.getElem_cons_succ, List.getElem_cons_zero]
        refine wpAnyH_take (i := 9) (v := ?v10) rfl (by kernel_rfl) (by kernel_rfl) (by kernel_rfl) (fun _ _ _ h => h) (Or.inl ⟨by rfl, ?hy10⟩) (by assumption) ?rest10
        case hy10 => (intro w hSw; (try dsimp only at hSw); go_simp; try with_reducible rfl)
        simp only [Act.put, List.setIfInBounds_toArray, List.set_cons_zero, List.set_cons_succ, List.getElem_toArray, List.getElem_cons_succ, List.getElem_cons_zero]
        refine wpAnyH_done (by kernel_rfl) ?_ _
        go_wp2
        go_ret
        exact ⟨by rw [hres.out]; rfl, hfin.out⟩
      · have hq : ∀ w, (binOp .eql 35 (.agg (bytes z).toArray) (.agg (bytes d).toArray)).run Try.prog w = .ok (.bool false) w := by
          intro w
          rw [eql_digA z d hl32 HD.out w, beq_eq_false_iff_ne.2 hdx]
        have hn2 : Hid (∀ j (h : j < sh.length), j < k + 1 → sh[j].1 ≠ d) := by
          intro j h hj
          by_cases e : j = k
          · subst e; rw [← hz]; exact hdx
          · exact hn.out j h (by omega)
        clear hdx hz hl32 hn hlast
        go_wp2_with fail
        refine wp_region_held_drew (S := fun w => w.cell? ⟨y, 0, none⟩ = some (.slice (some ⟨b, o, none⟩) sh.length cap) ∧ w.rangeAt g 0 (bytes d) ∧ w.rangeAt b (o + k * 33) (bytes z)) (by kernel_rfl) ⟨l1r, hbr, hr⟩ (fun hHeld => ?_)
        refine wpAnyH_take (i := 0) (v := ?v31) rfl (by kernel_rfl) (by kernel_rfl) (by kernel_rfl) (fun _ _ _ h => h) (Or.inl ⟨by rfl, ?hy31⟩) (by assumption) ?rest31
        case hy31 => (intro w hSw; (try dsimp only at hSw); go_simp; try with_reducible rfl)
        simp only [Act.put, List.setIfInBounds_toArray, List.set_cons_zero, List.set_cons_succ, List.getElem_toArray, List.getElem_cons_succ, List.getElem_cons_zero]
        refine wpAnyH_take (i := 1) (v := ?v32) rfl (by kernel_rfl) (by kernel_rfl) (by kernel_rfl) (fun _ _ _ h => h) (Or.inl ⟨by rfl, ?hy32⟩) (by assumption) ?rest32
        case hy32 => (intro w hSw; (try dsimp only at hSw); go_simp; try with_reducible rfl)
        simp only [Act.put, List.setIfInBounds_toArray, List.set_cons_zero, List.set_cons_succ, List.getElem_toArray, List.getElem_cons_succ, List.getElem_cons_zero]
        refine wpAnyH_take (i := 2) (v := ?v33) rfl (by kernel_rfl) (by kernel_rfl) (by kernel_rfl) (fun _ _ _ h => h) (Or.inl ⟨by rfl, ?hy33⟩) (by assumption) ?rest33
        case hy33 => (intro w hSw; (try dsimp only at hSw); go_simp; try with_reducible rfl)
        simp only [Act.put, List.setIfInBounds_toArray, List.set_cons_zero, List.set_cons_succ, List.getElem_toArray, List.getElem_cons_succ, List.getElem_cons_zero]
        refine wpAnyH_take (i := 3) (v := ?v34) rfl (by kernel_rfl) (by kernel_rfl) (by kernel_rfl) (fun _ _ _ h => h) (Or.inl ⟨by rfl, ?hy34⟩) (by assumption) ?rest34
        case hy34 => (intro w hSw; (try dsimp only at hSw); go_simp; try with_reducible rfl)
        simp only [Act.put, List.setIfInBounds_toArray, List.set_cons_zero, List.set_cons_succ, List.getElem_toArray, List.getElem_cons_succ, List.getElem_cons_zero]
        refine wpAnyH_take (i := 4) (v := ?v35) rfl (by kernel_rfl) (by kernel_rfl) (by kernel_rfl) (fun _ _ _ h => h) (Or.inl ⟨by rfl, ?hy35⟩) (by assumption) ?rest35
        case hy35 => (intro w hSw; (try dsimp only at hSw); go_simp; try with_reducible rfl)
        simp only [Act.put, List.setIfInBounds_toArray, List.set_cons_zero, List.set_cons_succ, List.getElem_toArray, List.getElem_cons_succ, List.getElem_cons_zero]
        refine wpAnyH_take (i := 5) (v := ?v36) rfl (by kernel_rfl) (by kernel_rfl) (by kernel_rfl) (fun _ _ _ h => h) (Or.inl ⟨by rfl, ?hy36⟩) (by assumption) ?rest36
        case hy36 => (intro w hSw; (try dsimp only at hSw); go_simp; try with_reducible rfl)
        simp only [Act.put, List.setIfInBounds_toArray, List.set_cons_zero, List.set_cons_succ, List.getElem_toArray, List.getElem_cons_succ, List.getElem_cons_zero]
        refine wpAnyH_take (i := 6) (v := ?v37) rfl (by kernel_rfl) (by kernel_rfl) (by kernel_rfl) (fun _ _ _ h => h) (Or.inl ⟨by rfl, ?hy37⟩) (by assumption) ?rest37
        case hy37 => (intro w hSw; (try dsimp only at hSw); go_simp; try with_reducible rfl)
        simp only [Act.put, List.setIfInBounds_toArray, List.set_cons_zero, List.set_cons_succ, List.getElem_toArray, List.getElem_cons_succ, List.getElem_cons_zero]
        refine wpAnyH_take (i := 7) rfl (by kernel_rfl) (by kernel_rfl) (by kernel_rfl) (fun _ _ _ h => h) (yieldsIf_load_mid (by rfl) _ _ rfl _ _ rfl _ _ (fun w hS => hS.2.2) hu rfl hi2) (by assumption) ?_
        simp only [Act.put, List.setIfInBounds_toArray, List.set_cons_zero, List.set_cons_succ, List.getElem_toArray, List.getElem_cons_succ, List.getElem_cons_zero]
        refine wpAnyH_take (i := 8) rfl (by kernel_rfl) (by kernel_rfl) (by kernel_rfl) (fun _ _ _ h => h) (yieldsIf_load_mid (by rfl) _ _ rfl _ _ rfl _ _ (fun w hS => hS.2.1) hu rfl hi) (by assumption) ?_
        simp only [Act.put, List.setIfInBounds_toArray, List.set_cons_zero, List.set_cons_succ, List.getElem_toArray, List.getElem_cons_succ, List.getElem_cons_zero]
        refine wpAnyH_take (i := 9) (v := ?v40) rfl (by kernel_rfl) (by kernel_rfl) (by kernel_rfl) (fun _ _ _ h => h) (Or.inl ⟨by rfl, ?hy40⟩) (by assumption) ?rest40
        case hy40 => (intro w hSw; (try dsimp only at hSw); go_simp; try with_reducible rfl)
        simp only [Act.put, List.setIfInBounds_toArray, List.set_cons_zero, List.set_cons_succ, List.getElem_toArray, List.getElem_cons_succ, List.getElem_cons_zero]
        refine wpAnyH_done (by kernel_rfl) ?_ _
        go_wp2
        go_roundw
        case rel => exact ⟨k + 1, by omega, by go_num, hn2, ho.drew⟩
        case measure => simp [intOf]; omega
    · obtain rfl : k = sh.length := by omega
      have hres := hid (findI_none sh d (fun j h => hn.out j h h))
      have hfin := hid (o1.trans0 ho)
      clear hn
      go_wp2
      go_ret
      exact ⟨by rw [hres.out]; rfl, hfin.out⟩
end Go.Proofs.Ytnlmeaijnfjakaa.Sh
/- The document's lists of names: held against each other; as bytes. A record written: walked. (Printed by gen_krb.py.) -/
namespace Go.Proofs.Ytnlmeaijnfjakaa.Sh
set_option linter.unusedSimpArgs false
set_option linter.unusedVariables false
open Go Go.RowKit

set_option maxRecDepth 20000 in
set_option maxHeartbeats 1600000 in
theorem rsame_any (w : World) (v u : Value) (l m : List (List UInt8)) (hv : Dgs w v l) (hu' : Dgs w u m) :
    Calls Try.prog 79 #[v, u] w fun e w' => e = .returned (.bool (decide (l = m))) ∧ Only [] w w' := by
  obtain ⟨a, cap, rfl, h1, h2, h3⟩ := hv.form
  obtain ⟨b, cbp, rfl, g1, g2, g3⟩ := hu'.form
  have hu := Try.underlying35
  by_cases hlm : l.length = m.length
  · have HL := hid hlm
    rw [← hlm]
    rw [← hlm] at g1 g3 hu'
    clear hlm
    go_enter Try.func79, Try.ntmps79
    go_wp2_with fail
    go_loopw [13] (fun i wr => ∃ k : Nat, k ≤ l.length ∧ i = .int .i64 k ∧ Hid (l.take k = m.take k) ∧ Only [] w wr) (fun i _ => l.length - (intOf i).toNat)
    case atStart => exact ⟨0, Nat.zero_le _, rfl, hid (by simp), Only.refl _ _⟩
    case round =>
      obtain ⟨k, hk, rfl, hn, ho⟩ := hrel
      by_cases hlt : k < l.length
      · have hkm : k < m.length := by have := HL.out; omega
        obtain ⟨b1, p1, rfl, r1⟩ := (hv.kept0 ho).at k hlt
        obtain ⟨b2, p2, rfl, r2⟩ := (hu'.kept0 ho).at k hkm
        have l1 := hv.2 l[k] (List.getElem_mem hlt)
        have l2 := hu'.2 m[k] (List.getElem_mem hkm)
        have hts : l[k] = m[k] → Hid (l.take (k + 1) = m.take (k + 1)) := fun e => by
          show _ = _
          rw [List.take_succ_eq_append_getElem hlt, List.take_succ_eq_append_getElem hkm, hn.out, e]
        have hdn : l[k] ≠ m[k] → Hid (decide (l = m) = false) := fun e => by
          show _ = _
          rw [decide_eq_false_iff_not]
          intro h
          subst h
          exact e rfl
        obtain ⟨x, hx⟩ : ∃ x, x = l[k] := ⟨_, rfl⟩
        obtain ⟨y, hy⟩ : ∃ y, y = m[k] := ⟨_, rfl⟩
        rw [← hx] at r1 l1 hts hdn
        rw [← hy] at r2 l2 hts hdn
        have i1 : (Try.prog.info? 35).map (·.size) = some (bytes x).length := by rw [dig_info]; simp [bytes, l1]
        have i2 : (Try.prog.info? 35).map (·.size) = some (bytes y).length := by rw [dig_info]; simp [bytes, l2]
        by_cases hxy : x = y
        · have hq : ∀ w, (binOp .neq 35 (.agg (bytes x).toArray) (.agg (bytes y).toArray)).run Try.prog w = .ok (.bool false) w := by
            intro w
            rw [neq_digA x y l1 l2 w, hxy]
            simp
          have hn2 := hts hxy
          clear hxy hx hy l1 l2 hn hts hdn
          go_wp2_with fail
          refine wp_region_held_drew (S := fun w => w.rangeAt b1 (p1 + k * 32) (bytes x) ∧ w.rangeAt b2 (p2 + k * 32) (bytes y)) (by kernel_rfl) ⟨r1, r2⟩ (fun hHeld => ?_)
          refine wpAnyH_take (i := 0) (v := ?v100) rfl (by kernel_rfl) (by kernel_rfl) (by kernel_rfl) (fun _ _ _ h => h) (Or.inl ⟨by rfl, ?hy100⟩) (by assumption) ?rest100
          case hy100 => (intro w hSw; (try dsimp only at hSw); go_simp; try with_reducible rfl)
          simp only [Act.put, List.setIfInBounds_toArray, List.set_cons_zero, List.set_cons_succ, List.getElem_toArray, List.getElem_cons_succ, List.getElem_cons_zero]
          refine wpAnyH_take (i := 1) (v := ?v101) rfl (by kernel_rfl) (by kernel_rfl) (by kernel_rfl) (fun _ _ _ h => h) (Or.inl ⟨by rfl, ?hy101⟩) (by assumption) ?rest101
          case hy101 => (intro w hSw; (try dsimp only at hSw); go_simp; try with_reducible rfl)
          simp only [Act.put, List.setIfInBounds_toArray, List.set_cons_zero, List.set_cons_succ, List.getElem_toArray, List.getElem_cons_succ, List.getElem_cons_zero]
          refine wpAnyH_take (i := 2) (v := ?v102) rfl (by kernel_rfl) (by kernel_rfl) (by kernel_rfl) (fun _ _ _ h => h) (Or.inl ⟨by rfl, ?hy102⟩) (by assumption) ?rest102
          case hy102 => (intro w hSw; (try dsimp only at hSw); go_simp; try with_reducible rfl)
          simp only [Act.put, List.setIfInBounds_toArray, List.set_cons_zero, List.set_cons_succ, List.getElem_toArray, List.getElem_cons_succ, List.getElem_cons_zero]
          refine wpAnyH_take (i := 3) rfl (by kernel_rfl) (by kernel_rfl) (by kernel_rfl) (fun _ _ _ h => h) (yieldsIf_load_mid (by rfl) _ _ rfl _ _ rfl _ _ (fun w hS => hS.1) hu rfl i1) (by assumption) ?_
          simp only [Act.put, List.setIfInBounds_toArray, List.set_cons_zero, List.set_cons_succ, List.getElem_toArray, List.getElem_cons_succ, List.getElem_cons_zero]
          refine wpAnyH_take (i := 4) (v := ?v104) rfl (by kernel_rfl) (by kernel_rfl) (by kernel_rfl) (fun _ _ _ h => h) (Or.inl ⟨by rfl, ?hy104⟩) (by assumption) ?rest104
          case hy104 => (intro w hSw; (try dsimp only at hSw); go_simp; try with_reducible rfl)
          simp only [Act.put, List.setIfInBounds_toArray, List.set_cons_zero, List.set_cons_succ, List.getElem_toArray, List.getElem_cons_succ, List.getElem_cons_zero]
          refine wpAnyH_take (i := 5) (v := ?v105) rfl (by kernel_rfl) (by kernel_rfl) (by kernel_rfl) (fun _ _ _ h => h) (Or.inl ⟨by rfl, ?hy105⟩) (by assumption) ?rest105
          case hy105 => (intro w hSw; (try dsimp only at hSw); go_simp; try with_reducible rfl)
          simp only [Act.put, List.setIfInBounds_toArray, List.set_cons_zero, List.set_cons_succ, List.getElem_toArray, List.getElem_cons_succ, List.getElem_cons_zero]
          refine wpAnyH_take (i := 6) (v := ?v106) rfl (by kernel_rfl) (by kernel_rfl) (by kernel_rfl) (fun _ _ _ h => h) (Or.inl ⟨by rfl, ?hy106⟩) (by assumption) ?rest106
          case hy106 => (intro w hSw; (try dsimp only at hSw); go_simp; try with_reducible rfl)
          simp only [Act.put, List.setIfInBounds_toArray, List.set_cons_zero, List.set_cons_succ, List.getElem_toArray, List.getElem_cons_succ, List.getElem_cons_zero]
          refine wpAnyH_take (i := 7) rfl (by kernel_rfl) (by kernel_rfl) (by kernel_rfl) (fun _ _ _ h => h) (yieldsIf_load_mid (by rfl) _ _ rfl _ _ rfl _ _ (fun w hS => hS.2) hu rfl i2) (by assumption) ?_
          simp only [Act.put, List.setIfInBounds_toArray, List.set_cons_zero, List.set_cons_succ, List.getElem_toArray, List.getElem_cons_succ, List.getElem_cons_zero]
          refine wpAnyH_take (i := 8) (v := ?v108) rfl (by kernel_rfl) (by kernel_rfl) (by kernel_rfl) (fun _ _ _ h => h) (Or.inl ⟨by rfl, ?hy108⟩) (by assumption) ?rest108
          case hy108 => (intro w hSw; (try dsimp only at hSw); go_simp; try with_reducible rfl)
          simp only [Act.put, List.setIfInBounds_toArray, List.set_cons_zero, List.set_cons_succ, List.getElem_toArray, List.getElem_cons_succ, List.getElem_cons_zero]
          refine wpAnyH_done (by kernel_rfl) ?_ _
          go_wp2
          go_roundw
          case rel => exact ⟨k + 1, by omega, by go_num, hn2, ho.drew⟩
          case measure => simp [intOf]; omega
        · have hq : ∀ w, (binOp .neq 35 (.agg (bytes x).toArray) (.agg (bytes y).toArray)).run Try.prog w = .ok (.bool true) w := by
            intro w
            rw [neq_digA x y l1 l2 w]
            simp [hxy]
          have hres := hdn hxy
          have hfin := hid (ho.drew)
          clear hxy hx hy l1 l2 hn hts hdn
          go_wp2_with fail
          refine wp_region_held_drew (S := fun w => w.rangeAt b1 (p1 + k * 32) (bytes x) ∧ w.rangeAt b2 (p2 + k * 32) (bytes y)) (by kernel_rfl) ⟨r1, r2⟩ (fun hHeld => ?_)
          refine wpAnyH_take (i := 0) (v := ?v200) rfl (by kernel_rfl) (by kernel_rfl) (by kernel_rfl) (fun _ _ _ h => h) (Or.inl ⟨by rfl, ?hy200⟩) (by assumption) ?rest200
          case hy200 => (intro w hSw; (try dsimp only at hSw); go_simp; try with_reducible rfl)
          simp only [Act.put, List.setIfInBounds_toArray, List.set_cons_zero, List.set_cons_succ, List.getElem_toArray, List.getElem_cons_succ, List.getElem_cons_zero]
          refine wpAnyH_take (i := 1) (v := ?v201) rfl (by kernel_rfl) (by kernel_rfl) (by kernel_rfl) (fun _ _ _ h => h) (Or.inl ⟨by rfl, ?hy201⟩) (by assumption) ?rest201
          case hy201 => (intro w hSw; (try dsimp only at hSw); go_simp; try with_reducible rfl)
          simp only [Act.put, List.setIfInBounds_toArray, List.set_cons_zero, List.set_cons_succ, List.getElem_toArray, List.getElem_cons_succ, List.getElem_cons_zero]
          refine wpAnyH_take (i := 2) (v := ?v202) rfl (by kernel_rfl) (by kernel_rfl) (by kernel_rfl) (fun _ _ _ h => h) (Or.inl ⟨by rfl, ?hy202⟩) (by assumption) ?rest202
          case hy202 => (intro w hSw; (try dsimp only at hSw); go_simp; try with_reducible rfl)
          simp only [Act.put, List.setIfInBounds_toArray, List.set_cons_zero, List.set_cons_succ, List.getElem_toArray, List.getElem_cons_succ, List.getElem_cons_zero]
          refine wpAnyH_take (i := 3) rfl (by kernel_rfl) (by kernel_rfl) (by kernel_rfl) (fun _ _ _ h => h) (yieldsIf_load_mid (by rfl) _ _ rfl _ _ rfl _ _ (fun w hS => hS.1) hu rfl i1) (by assumption) ?_
          simp only [Act.put, List.setIfInBounds_toArray, List.set_cons_zero, List.set_cons_succ, List.getElem_toArray, List.getElem_cons_succ, List.getElem_cons_zero]
          refine wpAnyH_take (i := 4) (v := ?v204) rfl (by kernel_rfl) (by kernel_rfl) (by kernel_rfl) (fun _ _ _ h => h) (Or.inl ⟨by rfl, ?hy204⟩) (by assumption) ?rest204
          case hy204 => (intro w hSw; (try dsimp only at hSw); go_simp; try with_reducible rfl)
          simp only [Act.put, List.setIfInBounds_toArray, List.set_cons_zero, List.set_cons_succ, List.getElem_toArray, List.getElem_cons_succ, List.getElem_cons_zero]
          refine wpAnyH_take (i := 5) (v := ?v205) rfl (by kernel_rfl) (by kernel_rfl) (by kernel_rfl) (fun _ _ _ h => h) (Or.inl ⟨by rfl, ?hy205⟩) (by assumption) ?rest205
          case hy205 => (intro w hSw; (try dsimp only at hSw); go_simp; try with_reducible rfl)
          simp only [Act.put, List.setIfInBounds_toArray, List.set_cons_zero, List.set_cons_succ, List.getElem_toArray, List.getElem_cons_succ, List.getElem_cons_zero]
          refine wpAnyH_take (i := 6) (v := ?v206) rfl (by kernel_rfl) (by kernel_rfl) (by kernel_rfl) (fun _ _ _ h => h) (Or.inl ⟨by rfl, ?hy206⟩) (by assumption) ?rest206
          case hy206 => (intro w hSw; (try dsimp only at hSw); go_simp; try with_reducible rfl)
          simp only [Act.put, List.setIfInBounds_toArray, List.set_cons_zero, List.set_cons_succ, List.getElem_toArray, List.getElem_cons_succ, List.getElem_cons_zero]
          refine wpAnyH_take (i := 7) rfl (by kernel_rfl) (by kernel_rfl) (by kernel_rfl) (fun _ _ _ h => h) (yieldsIf_load_mid (by rfl) _ _ rfl _ _ rfl _ _ (fun w hS => hS.2) hu rfl i2) (by assumption) ?_
          simp only [Act.put, List.setIfInBounds_toArray, List.set_cons_zero, List.set_cons_succ, List.getElem_toArray, List.getElem_cons_succ, List.getElem_cons_zero]
          refine wpAnyH_take (i := 8) (v := ?v208) rfl (by kernel_rfl) (by kernel_rfl) (by kernel_rfl) (fun _ _ _ h => h) (Or.inl ⟨by rfl, ?hy208⟩) (by assumption) ?rest208
          case hy208 => (intro w hSw; (try dsimp only at hSw); go_simp; try with_reducible rfl)
          simp only [Act.put, List.setIfInBounds_toArray, List.set_cons_zero, List.set_cons_succ, List.getElem_toArray, List.getElem_cons_succ, List.getElem_cons_zero]
          refine wpAnyH_done (by kernel_rfl) ?_ _
          go_wp2
          go_ret
          exact ⟨by rw [hres.out]; rfl, hfin.out⟩
      · obtain rfl : k = l.length := by omega
        have hres : Hid (decide (l = m) = true) := by
          show _ = _
          rw [decide_eq_true_iff]
          have h1 := hn.out
          rw [List.take_length, HL.out, List.take_length] at h1
          exact h1
        clear hn
        go_wp2
        go_ret
        exact ⟨by rw [hres.out]; rfl, ho⟩
  · have hres := hid (show decide (l = m) = false by
      rw [decide_eq_false_iff_not]
      intro h
      exact hlm (by rw [h]))
    have hne : ¬ ((l.length : Int) = (m.length : Int)) := by omega
    go_enter Try.func79, Try.ntmps79
    go_wp2
    go_ret
    exact ⟨by rw [hres.out]; rfl, Only.refl _ _⟩

theorem cs_mid {w : World} {b o : Nat} {d : List UInt8} (h : w.rangeAt b o (bytes d)) (hd : d.length = 32) : Bs w (.slice (some ⟨b, o, none⟩) 32 32) d :=
  ⟨by simp [bytes], some ⟨b, o, none⟩, 32, by rw [hd], by omega, by unfold maxLen; omega, by omega, .inr ⟨b, o, rfl, h⟩⟩

set_option maxRecDepth 20000 in
set_option maxHeartbeats 1600000 in
theorem rnames_any (w : World) (v : Value) (ids : List (List UInt8)) (hv : Dgs w v ids) (hil : ids.length ≤ 1000) :
    Calls Try.prog 83 #[v] w fun e w' => ∃ u, e = .returned u ∧ Ob w.heap.size w' u (namesB ids) ∧ Only [] w w' := by
  obtain ⟨a, cap, rfl, h1, h2, h3⟩ := hv.form
  have hnum := refNumB_any ids.length w (by omega)
  have hnl := numB_few ids.length (by omega)
  obtain ⟨nb, hnb⟩ : ∃ nb, nb = numB ids.length := ⟨_, rfl⟩
  have HNB := hid (show namesB ids = nb ++ ids.flatten by rw [hnb]; rfl)
  rw [← hnb] at hnum hnl
  clear hnb
  replace hnum := hid hnum
  go_enter Try.func83, Try.ntmps83
  go_wp2_with fail
  refine hnum.out.mono ?_
  rintro e w1 ⟨v1, rfl, own1, o1⟩
  go_wp2_with fail
  go_loopw [3, 11] (fun bv i wr => ∃ (k : Nat) (acc : List UInt8), k ≤ ids.length ∧ i = .int .i64 k ∧ acc.length ≤ 20 + 32 * k ∧ Ob w.heap.size wr bv acc ∧ Hid (acc = nb ++ (ids.take k).flatten) ∧ Only [] w wr) (fun _ i _ => ids.length - (intOf i).toNat)
  case atStart => exact ⟨0, nb, Nat.zero_le _, rfl, by omega, own1, hid (by simp), o1⟩
  case round =>
    obtain ⟨k, acc, hk, rfl, hal, hown, hacc, ho⟩ := hrel
    obtain ⟨oa, oc, rfl⟩ := own_form hown
    have sr := ho.size
    by_cases hlt : k < ids.length
    · obtain ⟨b, o, rfl, hr⟩ := (hv.kept0 ho).at k hlt
      have hl32 := hv.2 ids[k] (List.getElem_mem hlt)
      have hstep : Hid (∀ d, d = ids[k] → acc ++ d = nb ++ (ids.take (k + 1)).flatten) := fun d hd => by
        rw [List.take_succ_eq_append_getElem hlt, List.flatten_append, hacc.out, hd]
        simp
      obtain ⟨d, hd⟩ : ∃ d, d = ids[k] := ⟨_, rfl⟩
      have hstep2 := hid (hstep.out d hd)
      rw [← hd] at hr hl32
      have hx := cs_mid hr hl32
      have hb32 := hid hl32
      have hdl : d.length ≤ 32 := by omega
      clear hd hacc hstep hr hl32
      go_wp2_with (at_builtin; refine wpList_app (by rfl) _ _ 27 (by rfl) w.heap.size 5 1 1 el_u8 (by rfl) hown (by rfl) hx (bytes_one d) (by omega) (by omega) (by omega) ?_; intro v3 w3 own3 app3)
      have own4 : Ob w.heap.size w3 v3 (acc ++ d) := Ob.app own3
      obtain ⟨va, vc, rfl⟩ := own_form own4
      have q3 : Only [] w w3 := ho.app app3 (fun i hi => .inr (hown.lt i hi).1)
      go_wp2
      go_roundw
      case rel => exact ⟨k + 1, acc ++ d, by omega, by go_num, by have := hb32.out; simp; omega, own4, hstep2, q3⟩
      case measure => simp [intOf]; omega
    · obtain rfl : k = ids.length := by omega
      have hfin := hid (show acc = namesB ids by rw [hacc.out, List.take_length, HNB.out])
      clear hacc
      go_wp2
      go_ret
      exact ⟨_, rfl, by rw [← hfin.out]; exact hown, ho⟩
end Go.Proofs.Ytnlmeaijnfjakaa.Sh
/- append onto an empty row of which nothing is known: in a drawn region. -/
namespace Go.Proofs.Ytnlmeaijnfjakaa.Sh
set_option linter.unusedSimpArgs false
set_option linter.unusedVariables false
open Go Go.RowKit

/-- The block that an append onto v may change: none where there is no room. -/
def RB : Value → Option Nat
  | .slice (some a) _ (_ + 1) => some a.block
  | _ => none
structure App0 (w w' : World) (v v' : Value) : Prop where
  grown : w.grownBy w' (RB v)
  blk : ∀ k, RB v' = some k → RB v = some k ∨ w.heap.size ≤ k
/-- A row of the call's own, or an empty one without room. -/
def Rw (w : World) (base e size : Nat) (v : Value) (n : Nat) (xs : List Value) : Prop :=
  (n = 0 ∧ xs = [] ∧ ∃ a : Option Nat, v = .slice (a.map fun g => ⟨g, 0, none⟩) 0 0) ∨ ∃ g cap, v = .slice (some ⟨g, 0, none⟩) n (cap + 1) ∧ w.ownsRow base e size v n xs
theorem rw_built {w : World} {base e size g : Nat} : Rw w base e size (.slice (some ⟨g, 0, none⟩) 0 0) 0 [] := .inl ⟨rfl, rfl, some g, rfl⟩
theorem Rw.of_own {w : World} {base e size : Nat} {v : Value} {n : Nat} {xs : List Value} (h : w.ownsRow base e size v n xs) : Rw w base e size v n xs := by
  have hl := h.1
  rcases id h.2 with ⟨rfl, rfl⟩ | ⟨g, cap, cur, rfl, r⟩
  · exact .inl ⟨rfl, by simpa using hl, none, rfl⟩
  · cases cap with
    | zero =>
      obtain rfl : n = 0 := by have := r.2.2.1; omega
      exact .inl ⟨rfl, by simpa using hl, some g, rfl⟩
    | succ c => exact .inr ⟨g, c, rfl, h⟩
theorem Rw.lt {w : World} {base e size : Nat} {v : Value} {n : Nat} {xs : List Value} (h : Rw w base e size v n xs) : ∀ k, RB v = some k → base ≤ k ∧ k < w.heap.size := by
  intro k hk
  rcases h with ⟨_, _, a, rfl⟩ | ⟨g, cap, rfl, h⟩
  · cases a <;> simp [RB] at hk
  · exact h.lt k (by simpa [RB, Value.ownBlock] using hk)
theorem Rw.form {w : World} {base e size : Nat} {v : Value} {n : Nat} {xs : List Value} (h : Rw w base e size v n xs) : ∃ a c, v = .slice a n c := by
  rcases h with ⟨rfl, _, a, rfl⟩ | ⟨g, cap, rfl, h⟩
  · exact ⟨_, _, rfl⟩
  · exact ⟨_, _, rfl⟩
def ra : Value → Option Addr
  | .slice a _ _ => a
  | _ => none
def rc : Value → Nat
  | .slice _ _ c => c
  | _ => 0
theorem Rw.form' {w : World} {base e size : Nat} {v : Value} {n : Nat} {xs : List Value} (h : Rw w base e size v n xs) : v = .slice (ra v) n (rc v) := by
  obtain ⟨a, c, rfl⟩ := h.form
  rfl
theorem Rw.only {w w' : World} {base e size : Nat} {v : Value} {n : Nat} {xs : List Value} (h : Rw w base e size v n xs) {bs : List Nat} (ho : Only bs w w') (hn : ∀ k, RB v = some k → k ∉ bs) : Rw w' base e size v n xs := by
  rcases h with h | ⟨g, cap, rfl, h⟩
  · exact .inl h
  · exact .inr ⟨g, cap, rfl, own_only h ho (fun k hk => hn k (by simpa [RB, Value.ownBlock] using hk))⟩
theorem Rw.only0 {w w' : World} {base e size : Nat} {v : Value} {n : Nat} {xs : List Value} (h : Rw w base e size v n xs) (ho : Only [] w w') : Rw w' base e size v n xs := h.only ho (by simp)
theorem Rw.cs {w : World} {base e size : Nat} {v : Value} {n : Nat} {xs : List Value} (h : Rw w base e size v n xs) (hn : n ≤ 9223372036854775807) : Cs size w v n xs := by
  rcases h with ⟨rfl, rfl, a, rfl⟩ | ⟨g, cap, rfl, h⟩
  · exact ⟨by simp, _, 0, rfl, Nat.le_refl _, by unfold maxLen; omega, by omega, .inl rfl⟩
  · exact Cs.of_own h hn
theorem Rw.bs {w : World} {base e : Nat} {v : Value} {n : Nat} {xs : List Value} {l : List UInt8} (h : Rw w base e 1 v n xs) (hn : n = l.length) (hx : xs = bytes l) (hl : l.length ≤ 9223372036854775807) : Bs w v l := by
  subst hn hx
  exact h.cs hl
theorem Only.app0 {bs : List Nat} {a b c : World} {v v' : Value} (h : Only bs a b) (hp : App0 b c v v') (hr : ∀ k, RB v = some k → k ∈ bs ∨ a.heap.size ≤ k) : Only bs a c := h.grown hp.grown hr
theorem App0.fresh {b c : World} {g : Nat} {v' : Value} (h : App0 b c (.slice (some ⟨g, 0, none⟩) 0 0) v') : Only [] b c := (Only.refl [] b).app0 h (fun k hk => by simp [RB] at hk)

theorem RB.own {v : Value} {k : Nat} (hk : RB v = some k) : v.ownBlock = some k := by
  unfold RB at hk
  split at hk <;> simp_all [Value.ownBlock]

/-- What follows a drawn region, once for all its orders: the first order fixes P. -/
theorem share {P G : Prop} (later : P) (region : P → G) : G := region later

theorem run_app0 {P : Program} (w : World) (base : Nat) (t ty e : TypeId) (size byts : Nat) (he : El P t e size byts) (v : Value) (n : Nat) (xs : List Value) (hown : Rw w base e size v n xs)
    (x : Value) (m : Nat) (news : List Value) (hx : Cs size w x m news) (h1 : ∀ u ∈ news, u.oneCell' = true) (hb : (n + m) * byts ≤ 140737488355328) (hn : n + m ≤ 140737488355328) (hbase : base ≤ w.heap.size) :
    ∃ v' w', (Builtin.append_ #[t, t] ty #[v, x]).run P w = .ok v' w' ∧ Rw w' base e size v' (n + m) (xs ++ news) ∧ App0 w w' v v' := by
  have own : w.ownsRow base e size v n xs → ∃ v' w', (Builtin.append_ #[t, t] ty #[v, x]).run P w = .ok v' w' ∧ w'.ownsRow base e size v' (n + m) (xs ++ news) ∧ App w w' v v' := fun h => run_app w base t ty e size byts he v n xs h x m news hx h1 hb hn hbase
  rcases hown with ⟨rfl, rfl, a, rfl⟩ | ⟨g, cap, rfl, h⟩
  · cases a with
    | none =>
      obtain ⟨v', w', hr, h2, h3⟩ := own ⟨by simp, .inl ⟨rfl, rfl⟩⟩
      exact ⟨v', w', hr, .of_own h2, h3.grown, fun k hk => by
        have hk2 := RB.own hk
        rcases h3.blk k hk2 with h | h
        · simp [Value.ownBlock] at h
        · exact .inr h⟩
    | some g =>
      clear own
      obtain ⟨hu, ⟨i, z, hi, hz, rfl, rfl, hzs⟩, hp⟩ := he
      have hs := src_of_cs hu hx hp h1
      have hnl := hs.newsLen
      by_cases hm : m = 0
      · subst hm
        have hnews : news = [] := by simpa using hnl
        subst hnews
        refine ⟨.slice (some ⟨g, 0, none⟩) 0 0, w, ?_, .inl ⟨rfl, rfl, some g, rfl⟩, World.grownBy.refl _ _, fun k hk => by simp [RB] at hk⟩
        rcases hs.kind with ⟨e', hk⟩ | hk
        · simp [Builtin.append_, run_underlying hu, run_underlying hk, sizeOf, typeInfo, hi, hs.len, hs.cells, storeCells]
        · rw [hk] at hu; cases hu
      · have hf : (Builtin.firstCells i.size 0 (.slice (some ⟨g, 0, none⟩) 0 0)).run P w.drew = .ok ([] : List Value).toArray w.drew := run_firstCells_some w.drew i.size 0 ⟨g, 0, none⟩ 0 0 [] (by simp) (by intro j u hj; simp at hj)
        have hr := run_append_grow_src w t t ty e i z hu hi hz (some ⟨g, 0, none⟩) 0 0 [] hf x m news hs (by omega) (by omega) (growslice_fits (by omega) hb)
        have hge := grownCap_ge w (0 + m) 0 e
        have hcm : grownCap w (0 + m) 0 e ≤ maxLen := grownCap_le_maxLen w (0 + m) 0 e (by unfold maxLen; omega)
        refine ⟨_, _, hr, .of_own ⟨by simp [hnl], .inr ⟨w.heap.size, _, _, rfl, hbase, heap_alloc_new w.drew _, hge, hcm, ?_, ?_⟩⟩, ⟨rfl, rfl, rfl, by simp, fun k hk _ => Below.heap_alloc w.drew _ k hk⟩, fun k hk => ?_⟩
        · simp only [Array.size_append, List.size_toArray, size_zeroCells, hzs, List.nil_append, hnl]
          rw [← Nat.add_mul]
          congr 1
          omega
        · simp only [Array.toList_append, List.nil_append]
          exact List.take_left' (by rw [hnl]; simp)
        · have h9 := RB.own hk
          simp [Value.ownBlock] at h9
          exact .inr (by omega)
  · obtain ⟨v', w', hr, h2, h3⟩ := own h
    exact ⟨v', w', hr, .of_own h2, h3.grown, fun k hk => by
      have hk2 := RB.own hk
      rcases h3.blk k hk2 with h | h
      · exact .inl h
      · exact .inr h⟩

theorem step_app0 {P : Program} {ops : Array Oper} {o : Oper} {a : Act} {K : Act → World → Prop} {Q : Exit → Act → World → Prop} {E : Prop} {w : World} (hgd : o.guard = none) (s x : Operand) (t : TypeId)
    (ho : o.op = .call { callee := .builtin .append, args := #[s, x], argTypes := #[t, t] })
    (base e size byts : Nat) (he : El P t e size byts) {v : Value} {n : Nat} {xs : List Value} (hs : a.eval s = v) (hown : Rw w base e size v n xs)
    {xv : Value} {m : Nat} {news : List Value} (hx : a.eval x = xv) (hcs : Cs size w xv m news) (h1 : ∀ u ∈ news, u.oneCell' = true) (hb : (n + m) * byts ≤ 140737488355328) (hn : n + m ≤ 140737488355328) (hbase : base ≤ w.heap.size)
    (h : ∀ v' w', Rw w' base e size v' (n + m) (xs ++ news) → App0 w w' v v' → K (a.put o.dst v') w') :
    if Region.wanted o (yielded ops a.tmps) = true then Oper.wp P o a w K Q else E := by
  have hw : Region.wanted o (yielded ops a.tmps) = true := by simp [Region.wanted, hgd]
  rw [if_pos hw]
  obtain ⟨v', w', hr, h2, h3⟩ := run_app0 (P := P) w base t o.type e size byts he v n xs hown xv m news hcs h1 hb hn hbase
  unfold Oper.wp execOp
  simp only [ho, resolve, invoke, builtin, Sem.run_bind, Sem.run_pure, Result.andThen_ok, List.map_toArray, List.map_cons, List.map_nil, hs, hx, hr]
  exact h v' w' h2 h3
theorem wp_app0 {P : Program} {o : Oper} {a : Act} {K : Act → World → Prop} {Q : Exit → Act → World → Prop} {w : World} (s x : Operand) (t : TypeId)
    (ho : o.op = .call { callee := .builtin .append, args := #[s, x], argTypes := #[t, t] })
    (base e size byts : Nat) (he : El P t e size byts) {v : Value} {n : Nat} {xs : List Value} (hs : a.eval s = v) (hown : Rw w base e size v n xs)
    {xv : Value} {m : Nat} {news : List Value} (hx : a.eval x = xv) (hcs : Cs size w xv m news) (h1 : ∀ u ∈ news, u.oneCell' = true) (hb : (n + m) * byts ≤ 140737488355328) (hn : n + m ≤ 140737488355328) (hbase : base ≤ w.heap.size)
    (h : ∀ v' w', Rw w' base e size v' (n + m) (xs ++ news) → App0 w w' v v' → K (a.put o.dst v') w') :
    Oper.wp P o a w K Q := by
  obtain ⟨v', w', hr, h2, h3⟩ := run_app0 (P := P) w base t o.type e size byts he v n xs hown xv m news hcs h1 hb hn hbase
  unfold Oper.wp execOp
  simp only [ho, resolve, invoke, builtin, Sem.run_bind, Sem.run_pure, Result.andThen_ok, List.map_toArray, List.map_cons, List.map_nil, hs, hx, hr]
  exact h v' w' h2 h3
end Go.Proofs.Ytnlmeaijnfjakaa.Sh
/- The region of a number in a function's code. -/
namespace Go.Proofs.Ytnlmeaijnfjakaa.Sh
set_option linter.unusedSimpArgs false
set_option linter.unusedVariables false
open Go

def findReg (n : Nat) : Code → Option Code
  | .region i ops b => if i = n then some (.region i ops b) else none
  | .seq a b => match findReg n a with
    | some c => some c
    | none => findReg n b
  | .block _ c => findReg n c
  | .scope c => findReg n c
  | .loop c => findReg n c
  | .cond _ a b => match findReg n a with
    | some c => some c
    | none => findReg n b
  | _ => none
end Go.Proofs.Ytnlmeaijnfjakaa.Sh
