/- Texts of this proof, merged: KrL, KrM, KrN. -/
import Derived.Test.YtnlmeaijnfjakaaZ8
/- A call on the keyper and on the document's answers alike: walked. (Printed by gen_krl.py.) -/
namespace Go.Proofs.Ytnlmeaijnfjakaa.Sh
set_option linter.unusedSimpArgs false
set_option linter.unusedVariables false
open Go Go.RowKit

/-- The keyper at k and the document's at y are what the same records tell; both are newer than w. -/
structure Both (w W : World) (k y : Nat) (rs : List (List UInt8)) (B C : List Nat) : Prop where
  a : KB W k rs B
  b : RKB W y rs C
  na : ∀ i ∈ B, w.heap.size ≤ i
  nb : ∀ i ∈ C, w.heap.size ≤ i
  dj : ∀ i ∈ B, i ∉ C
  only : Only [] w W
theorem Both.kept0 {w W W' : World} {k y : Nat} {rs : List (List UInt8)} {B C : List Nat} (h : Both w W k y rs B C) (ho : Only [] W W') : Both w W' k y rs B C := ⟨h.a.kept0 ho, h.b.kept0 ho, h.na, h.nb, h.dj, h.only.trans0 ho⟩
theorem Both.ky {w W : World} {k y : Nat} {rs : List (List UInt8)} {B C : List Nat} (h : Both w W k y rs B C) : Ky w W k rs B := ⟨h.a, h.na, h.only⟩
theorem Bs.blk {w : World} {v : Value} {s : List UInt8} (h : Bs w v s) : ∀ i, v.ownBlock = some i → s = [] ∨ i < w.heap.size := by
  intro i hi
  by_cases h0 : 0 < s.length
  · obtain ⟨b, o, c, rfl, _, _, _, hr⟩ := h.form h0
    right
    have := World.block_lt_of_cell? w _ (hr 0 (vU8 s[0]) (bytes_get h0))
    simp [Value.ownBlock] at hi
    subst hi
    simpa using this
  · left
    exact List.eq_nil_of_length_eq_zero (by omega)

section
variable (w W : World) (y : Nat) (rs : List (List UInt8)) (C : List Nat) (n : Nat)
/-- What a call on the document's keyper leaves. -/
def RPost (w W : World) (y : Nat) (C : List Nat) (rs : List (List UInt8)) (w' : World) : Prop :=
  ∃ C', RKB w' y rs C' ∧ (∀ i ∈ C', i ∈ C ∨ W.heap.size ≤ i) ∧ (∀ i ∈ C', w.heap.size ≤ i) ∧ Only C W w'
theorem r_post {w' : World} (hk : RKB w' y rs (C ++ newBs W w')) (hn : ∀ i ∈ C, w.heap.size ≤ i) (hs : w.heap.size ≤ W.heap.size) (ho : Only C W w') : RPost w W y C rs w' := by
  refine ⟨_, hk, fun i hi => ?_, fun i hi => ?_, ho⟩
  · rcases List.mem_append.1 hi with hi | hi
    · exact .inl hi
    · exact .inr (mem_newBs.1 hi).1
  · rcases List.mem_append.1 hi with hi | hi
    · exact hn i hi
    · have := (mem_newBs.1 hi).1; omega
theorem r_keep (h : RKB W y rs C) (hC : ∀ i ∈ C, w.heap.size ≤ i) (hs0 : w.heap.size ≤ W.heap.size) (hn : Few n rs) (hn2 : n ≤ 200) (d : List UInt8) (hd : d.length = 32) (sv : Value) (s : List UInt8) (hs : Bs W sv s) (hsC : ∀ i, sv.ownBlock = some i → s = [] ∨ i ∉ C) (hsl : s.length ≤ 1000) :
    Calls Try.prog 53 #[.pointer (some ⟨y, 0, none⟩), vD d, sv] W fun e w' => e = .returned (.int .i64 ((keepK (openK rs) d s).1 : Int)) ∧ RPost w W y C (keepR rs d s) w' := by
  have h1 := hn.1
  have h2 := hn.2
  refine (rmkeep_any W y rs C h d hd sv s hs hsC hsl (by omega) (by omega)).mono ?_
  rintro e w' ⟨rfl, hk, o⟩
  exact ⟨rfl, r_post w W y _ C hk hC hs0 o⟩
theorem r_forget (h : RKB W y rs C) (hC : ∀ i ∈ C, w.heap.size ≤ i) (hs0 : w.heap.size ≤ W.heap.size) (hn : Few n rs) (hn2 : n ≤ 200) (u : Value) (ids : List (List UInt8)) (hu : Dgs W u ids) (huC : ∀ i, u.ownBlock = some i → i ∉ C) (hil : ids.length ≤ 1000) :
    Calls Try.prog 55 #[.pointer (some ⟨y, 0, none⟩), u] W fun e w' => e = .returned (.tuple #[.int .i64 ((mforgetE rs ids).1.1 : Int), .int .i64 ((mforgetE rs ids).1.2 : Int)]) ∧ RPost w W y C (mforgetE rs ids).2 w' := by
  have h1 := hn.1
  have h2 := hn.2
  refine (rmforget_any W y rs C h u ids hu huC hil (by omega) (by omega)).mono ?_
  rintro e w' ⟨rfl, hk, o⟩
  exact ⟨rfl, r_post w W y _ C hk hC hs0 o⟩
theorem r_commit (h : RKB W y rs C) (hC : ∀ i ∈ C, w.heap.size ≤ i) (hs0 : w.heap.size ≤ W.heap.size) (hn : Few n rs) (hn2 : n ≤ 200) (slot : Nat) (hslot : slot < 18446744073709551616) (u : Value) (ids : List (List UInt8)) (hu : Dgs W u ids) (huC : ∀ i, u.ownBlock = some i → i ∉ C) (hil : ids.length ≤ 1000) :
    Calls Try.prog 54 #[.pointer (some ⟨y, 0, none⟩), .int .u64 (slot : Int), u] W fun e w' => ∃ ov, e = .returned (.tuple #[ov, .int .i64 ((commitK (openK rs) slot ids).1.2 : Int)]) ∧ Bss w' ov (mcommitL rs slot ids) ∧ RPost w W y C (mcommitR rs slot ids) w' := by
  have h1 := hn.1
  have h2 := hn.2
  refine (rmcommit_any W y rs C h slot hslot u ids hu huC hil (by omega) (by omega)).mono ?_
  rintro e w' ⟨ov, rfl, hb, hk, o⟩
  exact ⟨ov, rfl, hb, r_post w W y _ C hk hC hs0 o⟩
end

/-- What a call does to the records. -/
def doR (rs : List (List UInt8)) (o : KOp) : List (List UInt8) :=
  if o.kind = 1 then keepR rs (nm o.a) o.share else if o.kind = 2 then mcommitR rs o.slot (o.l.map nm) else if o.kind = 3 then (mforgetE rs (o.l.map nm)).2 else rs
def kopV (o : KOp) (sv lv : Value) : Value := .agg #[.int .i64 o.kind, .int .i64 o.keep, vU8 o.a, vU8 o.torn, sv, .int .u64 (o.slot : Int), lv]
def DoPost (w : World) (k y n : Nat) (rs : List (List UInt8)) (e : Ending) (w' : World) : Prop :=
  e = .returned (.bool true) ∧ ∃ B' C', Both w w' k y rs B' C' ∧ Few (n + 1) rs

set_option maxRecDepth 20000 in
set_option maxHeartbeats 12800000 in
theorem do_any (w W : World) (k y : Nat) (rs : List (List UInt8)) (B C : List Nat) (n : Nat) (h : Both w W k y rs B C) (hn : Few n rs) (hn2 : n ≤ 200) (o : KOp) (ho : o.ok) (sv lv : Value) (hsw : Bs w sv o.share) (hlw : Bs w lv o.l) (hsl : o.share.length ≤ 60) (hll : o.l.length ≤ 60) :
    Calls Try.prog 23 #[.pointer (some ⟨k, 0, none⟩), .pointer (some ⟨y, 0, none⟩), kopV o sv lv] W (DoPost w k y n (doR rs o)) := by
  obtain ⟨kind, keep, a, torn, share, slot, L⟩ := o
  simp only at hsw hlw hsl hll
  obtain ⟨sa, sc, rfl⟩ := bs_form hsw
  obtain ⟨ga, gc, rfl⟩ := bs_form hlw
  have hslot : slot < 18446744073709551616 := ho.2.2
  obtain ⟨w4, hw4⟩ : ∃ w4, w4 = W.alloc (Obj.cells #[.int .i64 kind, .int .i64 keep, .int .u8 (a.toNat : Int), .int .u8 (torn.toNat : Int), .slice sa share.length sc, .int .u64 (slot : Int), .slice ga L.length gc] 32) := ⟨_, rfl⟩
  have o4 : Only [] W w4 := by rw [hw4]; exact (Only.refl [] W).alloc _
  obtain ⟨ob, hob⟩ : ∃ ob, ob = W.heap.size := ⟨_, rfl⟩
  have d2 : w4.cell? ⟨ob, 2, none⟩ = some (.int .u8 (a.toNat : Int)) := by rw [hw4, hob]; simp [go_sem]
  have d4 : w4.cell? ⟨ob, 4, none⟩ = some (.slice sa share.length sc) := by rw [hw4, hob]; simp [go_sem]
  have d5 : w4.cell? ⟨ob, 5, none⟩ = some (.int .u64 (slot : Int)) := by rw [hw4, hob]; simp [go_sem]
  have d6 : w4.cell? ⟨ob, 6, none⟩ = some (.slice ga L.length gc) := by rw [hw4, hob]; simp [go_sem]
  have s4 : w4.heap.size = ob + 1 := by rw [hw4, hob]; simp
  have hob1 : W.heap.size ≤ ob := by omega
  have hob2 : ob ≤ W.heap.size := by omega
  have hAl := hid h.a.lt
  have hBl := hid h.b.lt
  have hobA : ob ∉ B := fun hm => by have := hAl.out ob hm; omega
  have hobB : ob ∉ C := fun hm => by have := hBl.out ob hm; omega
  have hwb := h.only.size
  have h4 := h.kept0 o4
  have od : Only [] w4 w4.drew := (Only.refl [] w4).drew
  have hSw := hid hsw
  have hLw := hid hlw
  have hdj := hid h.dj
  have hnC := hid h.nb
  have hnB := hid h.na
  clear h o4 ho hsw hlw
  rw [show kopV ⟨kind, keep, a, torn, share, slot, L⟩ (.slice sa share.length sc) (.slice ga L.length gc) = .agg #[.int .i64 kind, .int .i64 keep, .int .u8 (a.toNat : Int), .int .u8 (torn.toNat : Int), .slice sa share.length sc, .int .u64 (slot : Int), .slice ga L.length gc] from rfl]
  unfold doR
  simp only
  by_cases e1 : kind = 1
  · subst e1
    rw [if_pos rfl]
    have na := hid (fun W => name_any W a)
    have kpA := fun W (h : Ky w W k rs B) (hb : Bs W (.slice sa share.length sc) share) => ky_keep w W k rs B n h hn hn2 (nm a) (nm_len a) _ share hb (by omega)
    have kpB := fun W (h : RKB W y rs C) (hs0 : w.heap.size ≤ W.heap.size) (hb : Bs W (.slice sa share.length sc) share) => r_keep w W y rs C n h hnC.out hs0 hn hn2 (nm a) (nm_len a) _ share hb (fun i hi => (hSw.out.blk i hi).imp id (fun h9 hm => by have := hnC.out i hm; omega)) (by omega)
    obtain ⟨E, hE⟩ : ∃ E, E = (keepK (openK rs) (nm a) share).1 := ⟨_, rfl⟩
    obtain ⟨RS, hRS⟩ : ∃ R, R = keepR rs (nm a) share := ⟨_, rfl⟩
    simp only [← hE, ← hRS] at kpA kpB
    rw [← hRS]
    replace kpA := hid kpA
    replace kpB := hid kpB
    clear hE hRS
    go_enter Try.func23, Try.ntmps23
    go_wp2_with fail
    rw [← hw4, ← hob]
    clear hw4 hob
    go_region_held3 (fun W => W.cell? ⟨ob, 2, none⟩ = some (.int .u8 (a.toNat : Int)) ∧ W.cell? ⟨ob, 4, none⟩ = some (.slice sa share.length sc))
      (first | exact ⟨d2, d4⟩ | exact ⟨od.cell d2 (by simp), od.cell d4 (by simp)⟩ | exact ⟨px1.cell d2 (by simp), px1.cell d4 (by simp)⟩ | exact ⟨ox2.cell (px1.cell d2 (by simp)) hobA, ox2.cell (px1.cell d4 (by simp)) hobA⟩ | exact ⟨px3.cell (ox2.cell (px1.cell d2 (by simp)) hobA) (by simp), px3.cell (ox2.cell (px1.cell d4 (by simp)) hobA) (by simp)⟩ | exact ⟨ox4.cell (px3.cell (ox2.cell (px1.cell d2 (by simp)) hobA) (by simp)) hobB, ox4.cell (px3.cell (ox2.cell (px1.cell d4 (by simp)) hobA) (by simp)) hobB⟩)
      (first
      | (have := px3; go_at_call 53; refine (kpB.out _ (((h4.b.kept0 px1).only ox2 (fun i hi hm => hdj.out i hi hm)).kept0 px3) (by have := px1.size; have := ox2.size; have := px3.size; omega) (hSw.out.kept0 (kx2.only.trans0 px3))).mono ?_; rintro e wx4 ⟨rfl, C4, kx4, cx4, nx4, ox4⟩)
      | (have := ox2; go_at_call 13; refine (na.out _).mono ?_; rintro e wx3 ⟨rfl, qx3⟩; have px3 : Only [] wx2 wx3 := qx3)
      | (have := px1; go_at_call 14; refine (kpA.out _ (h4.ky.kept0 px1) (hSw.out.kept0 (h4.only.trans0 px1))).mono ?_; rintro e wx2 ⟨rfl, Ax, kx2, ax2, ox2, fx2⟩)
      | (go_at_call 13; refine (na.out _).mono ?_; rintro e wx1 ⟨rfl, qx1⟩; have px1 : Only [] w4 wx1 := od.trans0 qx1))
    have sx1 := px1.size
    have sx2 := ox2.size
    have sx3 := px3.size
    have hlt2 := kx2.kb.lt
    have hfin : DoPost w k y n RS (.returned (.bool true)) wx4 := by
      have dx2 : ∀ i ∈ Ax, i ∉ C := fun i hi hm => by
        rcases ax2 i hi with h | h
        · exact hdj.out i h hm
        · have := hBl.out i hm; omega
      exact ⟨rfl, Ax, C4, ⟨(kx2.kb.kept0 px3).only ox4 (fun i hi hm => dx2 i hm hi), kx4, kx2.new, nx4, fun i hi hm => by
        rcases cx4 i hm with h | h
        · exact dx2 i hi h
        · have := hlt2 i hi; omega, (kx2.only.trans0 px3).trans ox4 (by simp) (fun i hi => .inr (hnC.out i hi))⟩, fx2⟩
    replace hfin := hid hfin
    clear kx2 kx4 ax2 cx4 h4 kpA kpB hlt2
    go_wp2
    go_ret
    exact hfin.out
  · rw [if_neg e1]
    by_cases e2 : kind = 2
    · subst e2
      rw [if_pos rfl]
      obtain ⟨ids, hids⟩ : ∃ ids, ids = L.map nm := ⟨_, rfl⟩
      have hil : ids.length ≤ 60 := by rw [hids]; simp; omega
      have na := fun W (hb : Bs W (.slice ga L.length gc) L) => names_any W _ L hb (by omega)
      simp only [← hids] at na
      rw [← hids]
      replace na := hid na
      clear hids
      have cA := fun W (h : Ky w W k rs B) u (hu : Dgs W u ids) hB => ky_commit w W k rs B n h hn hn2 slot hslot u ids hu hB
      have cB := fun W (h : RKB W y rs C) (hs0 : w.heap.size ≤ W.heap.size) u (hu : Dgs W u ids) huC => r_commit w W y rs C n h hnC.out hs0 hn hn2 slot hslot u ids hu huC (by omega)
      obtain ⟨E, hE⟩ : ∃ E, E = (commitK (openK rs) slot ids).1.2 := ⟨_, rfl⟩
      obtain ⟨RS, hRS⟩ : ∃ R, R = mcommitR rs slot ids := ⟨_, rfl⟩
      obtain ⟨ML, hML⟩ : ∃ R, R = mcommitL rs slot ids := ⟨_, rfl⟩
      have hMLl : ML.length ≤ 60 := by
        rw [hML]
        unfold mcommitL
        split
        · simp [outL]; omega
        · simp
      simp only [← hE, ← hRS, ← hML] at cA cB
      rw [← hRS]
      replace cA := hid cA
      replace cB := hid cB
      have hls := hid (fun W v (h : Bss W v ML) u (hu : Bss W u ML) => (show Calls Try.prog 26 #[v, u] W fun e w' => e = .returned (.bool true) ∧ Only [] W w' from by
        have := lists_any v u ML ML W h hu
        rwa [decide_eq_true rfl] at this))
      clear hE hRS hML
      go_enter Try.func23, Try.ntmps23
      go_wp2_with fail
      rw [← hw4, ← hob]
      clear hw4 hob
      go_region_held3 (fun W => W.cell? ⟨ob, 5, none⟩ = some (.int .u64 (slot : Int)) ∧ W.cell? ⟨ob, 6, none⟩ = some (.slice ga L.length gc))
        (first | exact ⟨d5, d6⟩ | exact ⟨od.cell d5 (by simp), od.cell d6 (by simp)⟩ | exact ⟨p5.cell d5 (by simp), p5.cell d6 (by simp)⟩ | exact ⟨o6.cell (p5.cell d5 (by simp)) hobA, o6.cell (p5.cell d6 (by simp)) hobA⟩)
        (first
        | (go_at_call 16; refine (na.out _ (hLw.out.kept0 (h4.only.trans0 od))).mono ?_; rintro e w5 ⟨u5, rfl, hu5, q5⟩; have p5 : Only [] w4 w5 := od.trans0 q5)
        | (go_at_call 15; refine (cA.out _ (h4.ky.kept0 p5) _ (hu5.dgs (by omega)) (fun i hi => .inr (fun hm => by have h1 := (hu5.1.lt i hi).1; have h2 := hAl.out i hm; have h3 := od.size; omega))).mono ?_; rintro e w6 ⟨ov, V6, A6, rfl, k6, hov, v1, v2, v3, o6, f6⟩))
      have p5s := p5.size
      have o6s := o6.size
      have b6 := (h4.b.kept0 p5).only o6 (fun i hi hm => hdj.out i hi hm)
      have y5 := o6.cell (p5.cell d5 (by simp)) hobA
      have y6 := o6.cell (p5.cell d6 (by simp)) hobA
      have od6 : Only [] w6 w6.drew := (Only.refl [] w6).drew
      obtain ⟨oa, oc, rfl, _⟩ := (hov.bss (by omega)).form
      clear cA h4 d2 d4 d5 d6 hu5
      go_wp2_with fail
      go_region_held3 (fun W => W.cell? ⟨ob, 5, none⟩ = some (.int .u64 (slot : Int)) ∧ W.cell? ⟨ob, 6, none⟩ = some (.slice ga L.length gc))
        (first | exact ⟨y5, y6⟩ | exact ⟨od6.cell y5 (by simp), od6.cell y6 (by simp)⟩ | exact ⟨p7.cell y5 (by simp), p7.cell y6 (by simp)⟩ | exact ⟨o8.cell (p7.cell y5 (by simp)) hobB, o8.cell (p7.cell y6 (by simp)) hobB⟩)
        (first
        | (go_at_call 16; refine (na.out _ (hLw.out.kept0 (k6.only.trans0 od6))).mono ?_; rintro e w7 ⟨u7, rfl, hu7, q7⟩; have p7 : Only [] w6 w7 := od6.trans0 q7)
        | (go_at_call 54; refine (cB.out _ (b6.kept0 p7) (by have := k6.only.size; have := p7.size; omega) _ (hu7.dgs (by omega)) (fun i hi hm => by have h1 := (hu7.1.lt i hi).1; have h2 := hBl.out i hm; have h3 := od6.size; omega)).mono ?_; rintro e w8 ⟨ov8, rfl, hov8, C8, k8, c8, n8, o8⟩))
      have p7s := p7.size
      have hovA8 := ((hov.kept0 p7).away o8 (fun i hi => by have := hBl.out i hi; omega)).bss (by omega)
      obtain ⟨oa8, oc8, rfl, _⟩ := hov8.form
      have h2A := fun i (hi : i ∈ A6) => (v2 i hi)
      have hfin : Hid (∀ W', Only [] w8 W' → DoPost w k y n RS (.returned (.bool true)) W') := fun W' hW => by
        have dx2 : ∀ i ∈ A6, i ∉ C := fun i hi hm => by
          rcases (v2 i hi).1 with h | h
          · exact hdj.out i h hm
          · have := hBl.out i hm; omega
        have hb : Both w w8 k y RS A6 C8 := ⟨(k6.kb.kept0 p7).only o8 (fun i hi hm => dx2 i hm hi), k8, k6.new, n8, fun i hi hm => by
          rcases c8 i hm with h | h
          · exact dx2 i hi h
          · have := (v2 i hi).2; omega, (k6.only.trans0 p7).trans o8 (by simp) (fun i hi => .inr (hnC.out i hi))⟩
        exact ⟨rfl, A6, C8, hb.kept0 hW, f6⟩
      have HA := hid hovA8
      have HB := hid hov8
      clear cB b6 k6 hov hov8 hovA8 v2 y5 y6 hu7 na k8 c8 h2A
      go_wp2_with fail
      refine (hls.out _ _ HA.out _ HB.out).mono ?_
      rintro e w9 ⟨rfl, q9⟩
      have hF9 := hid (hfin.out _ q9)
      go_wp2
      go_ret
      exact hF9.out
    · rw [if_neg e2]
      by_cases e3 : kind = 3
      · subst e3
        rw [if_pos rfl]
        obtain ⟨ids, hids⟩ : ∃ ids, ids = L.map nm := ⟨_, rfl⟩
        have hil : ids.length ≤ 60 := by rw [hids]; simp; omega
        have na := fun W (hb : Bs W (.slice ga L.length gc) L) => names_any W _ L hb (by omega)
        simp only [← hids] at na
        rw [← hids]
        replace na := hid na
        clear hids
        have fA := fun W (h : Ky w W k rs B) u (hu : Dgs W u ids) => ky_forget w W k rs B n h hn hn2 u ids hu
        have fB := fun W (h : RKB W y rs C) (hs0 : w.heap.size ≤ W.heap.size) u (hu : Dgs W u ids) huC => r_forget w W y rs C n h hnC.out hs0 hn hn2 u ids hu huC (by omega)
        obtain ⟨E1, hE1⟩ : ∃ E, E = (mforgetE rs ids).1.1 := ⟨_, rfl⟩
        obtain ⟨E2, hE2⟩ : ∃ E, E = (mforgetE rs ids).1.2 := ⟨_, rfl⟩
        obtain ⟨RS, hRS⟩ : ∃ R, R = (mforgetE rs ids).2 := ⟨_, rfl⟩
        simp only [← hE1, ← hE2, ← hRS] at fA fB
        rw [← hRS]
        replace fA := hid fA
        replace fB := hid fB
        clear hE1 hE2 hRS
        go_enter Try.func23, Try.ntmps23
        go_wp2_with fail
        rw [← hw4, ← hob]
        clear hw4 hob
        refine (na.out _ (hLw.out.kept0 h4.only)).mono ?_
        rintro e w5 ⟨u5, rfl, hu5, q5⟩
        have q5s := q5.size
        go_wp2_with fail
        refine (fA.out _ (h4.ky.kept0 q5) _ (hu5.dgs (by omega))).mono ?_
        rintro e w6 ⟨rfl, A6, k6, a6, o6, f6⟩
        have y6 := o6.cell (q5.cell d6 (by simp)) hobA
        have b6 := (h4.b.kept0 q5).only o6 (fun i hi hm => hdj.out i hi hm)
        have o6s := o6.size
        go_wp2_with fail
        refine (na.out _ (hLw.out.kept0 k6.only)).mono ?_
        rintro e w7 ⟨u7, rfl, hu7, q7⟩
        have q7s := q7.size
        have hw6 := k6.only.size
        go_wp2_with fail
        refine (fB.out _ (b6.kept0 q7) (by omega) _ (hu7.dgs (by omega)) (fun i hi hm => by have h1 := (hu7.1.lt i hi).1; have h2 := hBl.out i hm; omega)).mono ?_
        rintro e w8 ⟨rfl, C8, k8, c8, n8, o8⟩
        have hx6 := k6.kb.lt
        have hfin : DoPost w k y n RS (.returned (.bool true)) w8 := by
          have dx2 : ∀ i ∈ A6, i ∉ C := fun i hi hm => by
            rcases a6 i hi with h | h
            · exact hdj.out i h hm
            · have := hBl.out i hm; omega
          exact ⟨rfl, A6, C8, ⟨(k6.kb.kept0 q7).only o8 (fun i hi hm => dx2 i hm hi), k8, k6.new, n8, fun i hi hm => by
            rcases c8 i hm with h | h
            · exact dx2 i hi h
            · have := hx6 i hi; omega, (k6.only.trans0 q7).trans o8 (by simp) (fun i hi => .inr (hnC.out i hi))⟩, f6⟩
        replace hfin := hid hfin
        clear k6 k8 a6 c8 b6 h4 fA fB hx6 hu5 hu7 na
        go_wp2
        go_ret
        exact hfin.out
      · rw [if_neg e3]
        have hfin := hid (show DoPost w k y n rs (.returned (.bool true)) w4 from ⟨rfl, B, C, h4, hn.same⟩)
        clear h4
        go_enter Try.func23, Try.ntmps23
        go_wp2
        go_ret
        rw [← hw4]
        exact hfin.out
end Go.Proofs.Ytnlmeaijnfjakaa.Sh
/- The keyper is the document's: the law's same: walked. -/
namespace Go.Proofs.Ytnlmeaijnfjakaa.Sh
set_option linter.unusedSimpArgs false
set_option linter.unusedVariables false
open Go Go.RowKit

set_option maxRecDepth 20000 in
set_option maxHeartbeats 6400000 in
theorem same20_any (w W : World) (k y : Nat) (rs : List (List UInt8)) (B C : List Nat) (n : Nat) (h : Both w W k y rs B C) (hn : Few n rs) (hn2 : n ≤ 200) :
    Calls Try.prog 22 #[.pointer (some ⟨k, 0, none⟩), .pointer (some ⟨y, 0, none⟩)] W fun e w' => e = .returned (.bool true) ∧ Only [] W w' := by
  have hn1 := hn.1
  have ms := mslot_any W k rs B h.a
  obtain ⟨x, ls, bs, hK, _⟩ := h.b
  have HK := hid hK
  obtain ⟨lv, ⟨l0, _⟩, l2⟩ := hK.c0
  obtain ⟨la, lc, rfl, _⟩ := l2.form
  have c1 := hK.c1.1
  have c3 := hK.c3.1
  have c4 := hK.c4
  obtain ⟨fa, fc, ja, jc, ⟨x0, _⟩, ⟨x1, _⟩, hxf, hxl, _⟩ := hK.log.sees
  obtain ⟨S0, hS0⟩ : ∃ S0, S0 = (openK rs).slot := ⟨_, rfl⟩
  obtain ⟨T0, hT0⟩ : ∃ T0, T0 = (openK rs).told := ⟨_, rfl⟩
  obtain ⟨N, hN⟩ : ∃ N, N = (openK rs).sh.length := ⟨_, rfl⟩
  have ml := fun W' (hW : Only [] W W') => mlen_any W' k rs B (h.a.kept0 hW)
  have hA := hid (fun W' (hW : Only [] W W') => h.a.kept0 hW)
  obtain ⟨SH, hSH⟩ : ∃ SH, SH = (openK rs).sh := ⟨_, rfl⟩
  have hh := fun W' (hW : Only [] W W') d hd => mhas_any W' k rs B (h.a.kept0 hW) d hd
  have ff := fun W' (hW : Only [] W W') d hd => find_any W' y x ls bs (openK rs) (flatL rs) rs (hK.kept0 hW) d hd
  have dk := fun W' (hW : Only [] W W') => mdisk_any W' k rs B (h.a.kept0 hW) (by omega)
  rw [← hS0, ← hT0] at ms
  rw [← hS0] at c1
  rw [← hT0] at c3
  rw [← hN] at l0
  simp only [← hN] at ml
  simp only [← hSH] at hh ff
  obtain ⟨F, hF⟩ : ∃ F, F = flatL rs := ⟨_, rfl⟩
  simp only [← hF] at dk
  rw [← hF] at x0 hxf hn1
  have smF := hid (fun W' v (hv : Bs W' v F) u (hu : Bs W' u F) => (show Calls Try.prog 25 #[v, u] W' fun e w' => e = .returned (.bool true) ∧ Only [] W' w' from by
    have := same_any v u F F W' hv hu
    rwa [decide_eq_true rfl] at this))
  have smL := hid (fun W' v (hv : Bs W' v []) u (hu : Bs W' u []) => (show Calls Try.prog 25 #[v, u] W' fun e w' => e = .returned (.bool true) ∧ Only [] W' w' from by
    have := same_any v u [] [] W' hv hu
    rwa [decide_eq_true rfl] at this))
  replace ms := hid ms
  replace ml := hid ml
  replace hh := hid hh
  replace ff := hid ff
  replace dk := hid dk
  have HXF := hid hxf
  have HXL := hid hxl
  clear h hS0 hT0 hN hSH hF hxf hxl l2 hK
  have step : Hid (∀ b : UInt8, ((getS SH (nm b)).isSome = true → 0 ≤ findI SH (nm b)) ∧ ((getS SH (nm b)).isSome = false → findI SH (nm b) < 0)) := fun b => by
    cases hg : getS SH (nm b) with
    | none => exact ⟨fun e => (by cases e), fun _ => by rw [findI_no _ _ hg]; omega⟩
    | some t =>
      obtain ⟨q, hq, h1, _⟩ := findI_some _ _ _ hg
      exact ⟨fun _ => by rw [h1]; omega, fun e => (by cases e)⟩
  go_enter Try.func22, Try.ntmps22
  go_wp2_with fail
  refine ms.out.mono ?_
  rintro e w1 ⟨rfl, o1⟩
  have od1 : Only [] w1 w1.drew := (Only.refl [] w1).drew
  have l1 := o1.cell l0 (by simp)
  have d1 := o1.cell c1 (by simp)
  have d3 := o1.cell c3 (by simp)
  go_wp2_with fail
  go_region_held3 (fun V => V.cell? ⟨y, 0, none⟩ = some (.slice la N lc) ∧ V.cell? ⟨y, 3, none⟩ = some (.bool T0) ∧ V.cell? ⟨y, 1, none⟩ = some (.int .u64 (S0 : Int)))
    (first | exact ⟨l1, d3, d1⟩ | exact ⟨od1.cell l1 (by simp), od1.cell d3 (by simp), od1.cell d1 (by simp)⟩)
    (first
    | (go_at_call 18; refine (ml.out _ (o1.trans0 od1)).mono ?_; rintro e w9 ⟨rfl, h9⟩; obtain rfl : w1.drew = w9 := h9.symm; clear h9))
  go_wp2_with fail
  go_loopw [38] (fun i wr => ∃ q : Nat, q ≤ 256 ∧ i = .int .i64 q ∧ Only [] W wr) (fun i _ => 256 - (intOf i).toNat)
  case atStart => exact ⟨0, by omega, rfl, o1.trans0 od1⟩
  case round =>
    obtain ⟨q, hq, rfl, ho⟩ := hrel
    by_cases hlt : q < 256
    · obtain ⟨b, hb⟩ : ∃ b : UInt8, (q : Int) = (b.toNat : Int) := u8_of ⟨by omega, by omega⟩
      have nb := hid (fun W => name_any W b)
      have st := step.out b
      have h32 := nm_len b
      have hhb := hid (fun W' (hW : Only [] W W') => hh.out W' hW (nm b) h32)
      have ffb := hid (fun W' (hW : Only [] W W') => ff.out W' hW (nm b) h32)
      obtain ⟨G, hG⟩ : ∃ G, G = (getS SH (nm b)).isSome := ⟨_, rfl⟩
      obtain ⟨I, hI⟩ : ∃ I, I = findI SH (nm b) := ⟨_, rfl⟩
      rw [← hG, ← hI] at st
      simp only [← hG] at hhb
      simp only [← hI] at ffb
      have hq8 : IntKind.u8.wrap (q : Int) = (b.toNat : Int) := by rw [← hb]; exact IntWalk.u8_in _ (by omega)
      replace hb := hid hb
      clear hG hI
      go_wp2_with fail
      refine (nb.out _).mono ?_
      rintro e w2 ⟨rfl, q2⟩
      go_wp2_with fail
      refine (hhb.out _ (ho.trans0 q2)).mono ?_
      rintro e w3 ⟨rfl, q3⟩
      go_wp2_with fail
      refine (nb.out _).mono ?_
      rintro e w5 ⟨rfl, q5⟩
      go_wp2_with fail
      refine (ffb.out _ (((ho.trans0 q2).trans0 q3).trans0 q5)).mono ?_
      rintro e w6 ⟨rfl, q6⟩
      have hof := hid ((((ho.trans0 q2).trans0 q3).trans0 q5).trans0 q6)
      clear hhb ffb nb hq8
      cases G
      · have hneg : I < 0 := st.2 rfl
        clear st
        go_wp2
        go_roundw
        case rel => exact ⟨q + 1, by omega, by go_num, hof.out⟩
        case measure => simp [intOf]; omega
      · have hpos : 0 ≤ I := st.1 rfl
        clear st
        go_wp2
        go_roundw
        case rel => exact ⟨q + 1, by omega, by go_num, hof.out⟩
        case measure => simp [intOf]; omega
    · obtain rfl : q = 256 := by omega
      go_wp2_with fail
      refine (dk.out _ ho).mono ?_
      rintro e w7 ⟨fv, jv, rfl, gf, gl, q7⟩
      have o7 := ho.trans0 q7
      have s7 := q7.size
      have bf := gf.bs (by omega)
      have bl := gl.bs (by simp)
      obtain ⟨va, vc, rfl⟩ := own_form gf
      obtain ⟨ua, uc, rfl⟩ := own_form gl
      obtain ⟨w8, hw8⟩ : ∃ w8, w8 = w7.alloc (Obj.cells #[.slice va F.length vc, .slice ua 0 uc] 29) := ⟨_, rfl⟩
      have o8 : Only [] w7 w8 := by rw [hw8]; exact (Only.refl [] w7).alloc _
      have od8 : Only [] w8 w8.drew := (Only.refl [] w8).drew
      have t0 : w8.cell? ⟨w7.heap.size, 0, none⟩ = some (.slice va F.length vc) := by rw [hw8]; simp [go_sem]
      have t1 : w8.cell? ⟨w7.heap.size, 1, none⟩ = some (.slice ua 0 uc) := by rw [hw8]; simp [go_sem]
      have o78 := o7.trans0 o8
      have z4 := o78.cell c4 (by simp)
      have z0 := o78.cell x0 (by simp)
      have z1 := o78.cell x1 (by simp)
      simp only [List.length_nil] at z1
      have bf8 := hid (bf.kept0 o8)
      have bl8 := hid (bl.kept0 o8)
      have xf8 := hid (HXF.out.kept0 o78)
      have xl8 := hid (HXL.out.kept0 o78)
      simp only [List.length_nil] at bl8 xl8
      clear bf bl gf gl
      go_wp2_with fail
      rw [← hw8]
      clear hw8
      go_region_held3 (fun V => (V.cell? ⟨w7.heap.size, 0, none⟩ = some (.slice va F.length vc) ∧ V.cell? ⟨w7.heap.size, 1, none⟩ = some (.slice ua 0 uc)) ∧ V.cell? ⟨y, 4, none⟩ = some (.pointer (some ⟨x, 0, none⟩)) ∧ V.cell? ⟨x, 0, none⟩ = some (.slice fa F.length fc) ∧ V.cell? ⟨x, 1, none⟩ = some (.slice ja 0 jc))
        (first | exact ⟨⟨t0, t1⟩, z4, z0, z1⟩ | exact ⟨⟨od8.cell t0 (by simp), od8.cell t1 (by simp)⟩, od8.cell z4 (by simp), od8.cell z0 (by simp), od8.cell z1 (by simp)⟩ | exact ⟨⟨p9.cell t0 (by simp), p9.cell t1 (by simp)⟩, p9.cell z4 (by simp), p9.cell z0 (by simp), p9.cell z1 (by simp)⟩ | exact ⟨⟨p10.cell t0 (by simp), p10.cell t1 (by simp)⟩, p10.cell z4 (by simp), p10.cell z0 (by simp), p10.cell z1 (by simp)⟩)
        (first
        | (have := p9; go_at_call 25; refine (smL.out _ _ (bl8.out.kept0 p9) _ (xl8.out.kept0 p9)).mono ?_; rintro e w10 ⟨rfl, q10⟩; have p10 : Only [] w8 w10 := p9.trans0 q10)
        | (go_at_call 25; refine (smF.out _ _ (bf8.out.kept0 od8) _ (xf8.out.kept0 od8)).mono ?_; rintro e w9 ⟨rfl, q9⟩; have p9 : Only [] w8 w9 := od8.trans0 q9))
      have hfin := hid (o78.trans0 p10)
      go_wp2
      go_ret
      exact ⟨rfl, hfin.out⟩
end Go.Proofs.Ytnlmeaijnfjakaa.Sh
/- The document's keyper opened, crashed, opened again: by the record. -/
namespace Go.Proofs.Ytnlmeaijnfjakaa.Sh
set_option linter.unusedSimpArgs false
set_option linter.unusedVariables false
open Go Go.RowKit

/-- The document's keyper, opened, that is newer than a world. -/
theorem r_open (w W : World) (ho : Only [] w W) (fv lv : Value) (f l : List UInt8) (hf : Bs W fv f) (hl : Bs W lv l) (hlen : f.length + l.length ≤ 500000) :
    Calls Try.prog 21 #[dskV fv lv] W fun e w' => ∃ y C, e = .returned (.pointer (some ⟨y, 0, none⟩)) ∧ RKB w' y (allL (f ++ l)).1 C ∧ (∀ i ∈ C, W.heap.size ≤ i) ∧ Only [] W w' := by
  refine (rkopen_any W fv lv f l hf hl hlen).mono ?_
  rintro e w' ⟨y, rfl, hk, o⟩
  exact ⟨y, _, rfl, hk, fun i hi => (mem_newBs.1 hi).1, o⟩
theorem both_made {w W W' : World} {k y : Nat} {rs : List (List UInt8)} {B C : List Nat} (ha : Ky w W k rs B) (hb : RKB W' y rs C) (hC : ∀ i ∈ C, W.heap.size ≤ i) (o : Only [] W W') : Both w W' k y rs B C := by
  have hs := ha.only.size
  exact ⟨ha.kb.kept0 o, hb, ha.new, fun i hi => by have := hC i hi; omega, fun i hi hm => by have := ha.kb.lt i hi; have := hC i hm; omega, ha.only.trans0 o⟩
section
variable (w W : World) (rs : List (List UInt8)) (n : Nat)
theorem r_crash (hn : Few n rs) (hn2 : n ≤ 200) (fv lv : Value) (hf : Bs W fv (flatL rs)) (hl : Bs W lv []) (keep : Int) (hk : -9223372036854775808 ≤ keep ∧ keep ≤ 9223372036854775807) (torn : UInt8) :
    Calls Try.prog 28 #[dskV fv lv, .int .i64 keep, .int .u8 (torn.toNat : Int)] W fun e w' => ∃ fv', e = .returned (dskV fv' (.slice none 0 0)) ∧ Bs w' fv' (flatL rs) ∧ Only [] W w' := by
  have h1 := hn.1
  refine (rcrash_any W fv lv (flatL rs) [] keep torn hf hl hk (by simp; omega)).mono ?_
  rintro e w' ⟨fv', rfl, h2, h3⟩
  rw [crashL_none] at h2
  exact ⟨fv', rfl, h2.bs (by omega), h3⟩
theorem r_reopen (ho : Only [] w W) (hn : Few n rs) (hn2 : n ≤ 200) (h1 : ∀ r ∈ rs, 1 ≤ r.length ∧ r.length ≤ 1000) (fv : Value) (hf : Bs W fv (flatL rs)) :
    Calls Try.prog 21 #[dskV fv (.slice none 0 0)] W fun e w' => ∃ y C, e = .returned (.pointer (some ⟨y, 0, none⟩)) ∧ RKB w' y rs C ∧ (∀ i ∈ C, W.heap.size ≤ i) ∧ Only [] W w' := by
  have h2 := hn.1
  have := r_open w W ho fv (.slice none 0 0) (flatL rs) [] hf (Bs.empty (by unfold maxLen; omega)) (by simp; omega)
  rwa [open_flat rs h1] at this
end
end Go.Proofs.Ytnlmeaijnfjakaa.Sh
