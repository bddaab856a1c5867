/- Texts of this proof, merged: KrO, ReadD, LawKeyperOpens. -/
import Derived.Test.YtnlmeaijnfjakaaZ9
import Derived.Test.YtnlmeaijnfjakaaZ4
/- A frame is laid ahead of a disk's bytes: one region that draws its order. (Printed by gen_kro.py.) -/
namespace Go.Proofs.Ytnlmeaijnfjakaa.Sh
set_option linter.unusedSimpArgs false
set_option linter.unusedVariables false
open Go Go.RowKit

noncomputable def opens10 : Code := (Try.f4.body.bind (findReg 10)).getD .skip
structure O10G where
  r1 : Value
  r2 : Value
  g1 : Nat
structure O10 (w2 : World) (db : Nat) (ka : Option Addr) (kc : Nat) (fa : Option Addr) (fc : Nat) (fl F : List UInt8) (bt : Nat → Bool) (v : Nat → Value) (g : O10G) (W : World) : Prop where
  C1 : bt 1 = true → v 60 = .slice ka fl.length kc
  C3 : bt 3 = true → v 62 = .pointer (some ⟨db, 0, none⟩)
  C4 : bt 4 = true → v 63 = .slice fa F.length fc
  C6 : bt 6 = true → v 65 = .pointer (some ⟨db, 0, none⟩)
  O : Only [db] w2 W
  Y : bt 7 = false → W.cell? ⟨db, 0, none⟩ = some (.slice fa F.length fc) ∧ W.frozen? ⟨db, 0, none⟩ = false
  YC : ∀ i, i ≠ 0 → W.cell? ⟨db, i, none⟩ = w2.cell? ⟨db, i, none⟩ ∧ W.frozen? ⟨db, i, none⟩ = w2.frozen? ⟨db, i, none⟩
  F0 : bt 0 = true → v 59 = .slice (some ⟨g.g1, 0, none⟩) 0 0
  F2 : bt 2 = true → bt 5 = false → v 61 = g.r1 ∧ Rw W w2.heap.size 5 1 g.r1 fl.length (bytes fl)
  F5 : bt 5 = true → v 64 = g.r2 ∧ Rw W w2.heap.size 5 1 g.r2 (fl.length + F.length) (bytes fl ++ bytes F)
  F7 : bt 7 = true → W.cell? ⟨db, 0, none⟩ = some g.r2 ∧ W.frozen? ⟨db, 0, none⟩ = false

set_option maxRecDepth 100000 in
set_option maxHeartbeats 6400000 in
theorem opens10_ok (Q : Exit → Act → World → Prop) (w2 : World) (db : Nat) (ka : Option Addr) (kc : Nat) (fa : Option Addr) (fc : Nat) (fl F : List UInt8) (u0 u1 u2 u4 u5 u6 u7 u9 u10 u11 u12 u13 u14 u15 u16 u17 u18 u19 u20 u21 u22 u23 u24 u25 u26 u27 u28 u29 u30 u31 u32 u33 u34 u35 u36 u37 u38 u39 u40 u41 u42 u43 u44 u45 u46 u47 u48 u49 u50 u51 u52 u53 u54 u55 u56 u57 u58 u59 u60 u61 u62 u63 u64 u65 u66 u67 u68 u69 u70 u71 u72 u73 u74 u75 u76 u77 u78 u79 u80 u81 u82 u83 u84 u85 u86 u87 u88 u89 u90 u91 u92 u93 u94 u95 u96 u97 u98 : Value)
    (c0 : w2.cell? ⟨db, 0, none⟩ = some (.slice fa F.length fc) ∧ w2.frozen? ⟨db, 0, none⟩ = false) (hfl : Bs w2 (.slice ka fl.length kc) fl) (hfly : ∀ b, (Value.slice ka fl.length kc).ownBlock = some b → b ≠ db) (hF : Bs w2 (.slice fa F.length fc) F) (hFy : ∀ b, (Value.slice fa F.length fc).ownBlock = some b → F = [] ∨ b ≠ db) (hn1 : fl.length ≤ 10000) (hn2 : F.length ≤ 10000) (hdb : db < w2.heap.size)
    (hfin : ∀ (r2 : Value) (v59 v61 v64 : Value) (W : World), Only [db] w2 W → (∀ i, i ≠ 0 → W.cell? ⟨db, i, none⟩ = w2.cell? ⟨db, i, none⟩ ∧ W.frozen? ⟨db, i, none⟩ = w2.frozen? ⟨db, i, none⟩) → W.cell? ⟨db, 0, none⟩ = some r2 ∧ W.frozen? ⟨db, 0, none⟩ = false → Rw W w2.heap.size 5 1 r2 (fl.length + F.length) (bytes fl ++ bytes F) →
      Q .normal ⟨#[u0, u1, u2, .pointer (some ⟨db, 0, none⟩), u4, u5, u6, u7, .slice ka fl.length kc, u9, u10, u11, u12, u13, u14, u15, u16, u17, u18, u19, u20, u21, u22, u23, u24, u25, u26, u27, u28, u29, u30, u31, u32, u33, u34, u35, u36, u37, u38, u39, u40, u41, u42, u43, u44, u45, u46, u47, u48, u49, u50, u51, u52, u53, u54, u55, u56, u57, u58, v59, .slice ka fl.length kc, v61, .pointer (some ⟨db, 0, none⟩), .slice fa F.length fc, v64, .pointer (some ⟨db, 0, none⟩), u66, u67, u68, u69, u70, u71, u72, u73, u74, u75, u76, u77, u78, u79, u80, u81, u82, u83, u84, u85, u86, u87, u88, u89, u90, u91, u92, u93, u94, u95, u96, u97, u98], []⟩ W) :
    opens10.wp Try.prog Q ⟨#[u0, u1, u2, .pointer (some ⟨db, 0, none⟩), u4, u5, u6, u7, .slice ka fl.length kc, u9, u10, u11, u12, u13, u14, u15, u16, u17, u18, u19, u20, u21, u22, u23, u24, u25, u26, u27, u28, u29, u30, u31, u32, u33, u34, u35, u36, u37, u38, u39, u40, u41, u42, u43, u44, u45, u46, u47, u48, u49, u50, u51, u52, u53, u54, u55, u56, u57, u58, u59, u60, u61, u62, u63, u64, u65, u66, u67, u68, u69, u70, u71, u72, u73, u74, u75, u76, u77, u78, u79, u80, u81, u82, u83, u84, u85, u86, u87, u88, u89, u90, u91, u92, u93, u94, u95, u96, u97, u98], []⟩ w2 := by
  replace hfin := hid hfin
  conv => arg 2; whnf
  refine wp_region_inv [59, 60, 61, 62, 63, 64, 65] (O10 w2 db ka kc fa fc fl F) (by kernel_rfl) (by kernel_rfl) ⟨undef, undef, 0⟩ ?start ?fin ?steps
  case start =>
    exact { C1 := fun h => no_up h rfl, C3 := fun h => no_up h rfl, C4 := fun h => no_up h rfl, C6 := fun h => no_up h rfl, O := (Only.refl [db] w2).drew, Y := fun _ => c0, YC := fun i _ => ⟨rfl, rfl⟩, F0 := fun h => no_up h rfl, F2 := fun h => no_up h rfl, F5 := fun h => no_up h rfl, F7 := fun h => no_up h rfl }
  case steps =>
    refine StepsFrom.cons (i := 0) (j := 1) rfl ?_ ?_
    · intro bt v g W hR hb hd hcl K hK
      have e2 := not_up hcl 2 0 (by kernel_rfl) hb
      have e5 := not_up hcl 5 0 (by kernel_rfl) hb
      have e7 := not_up hcl 7 0 (by kernel_rfl) hb
      have so : Only [] W (W.alloc (Obj.cells #[] 5)) := (Only.refl [] W).alloc _
      simp only [putAll, Act.put, List.setIfInBounds_toArray, List.set_cons_zero, List.set_cons_succ]
      go_simp
      exact hK.out _ _ ⟨upv v 59 (.slice (some ⟨W.heap.size, 0, none⟩) 0 0), { g with g1 := W.heap.size }, (by simp only [putAll, Act.put, List.setIfInBounds_toArray, List.set_cons_zero, List.set_cons_succ, upv_at, Nat.reduceBEq, cond_false, cond_true]), { C1 := hR.C1, C3 := hR.C3, C4 := hR.C4, C6 := hR.C6, O := hR.O.trans so (ds := [db]) (by simp) (by simp), Y := fun h => cell_kept so (by simp) (hR.Y h), YC := fun i hi => ⟨(Only.cell' so (p := ⟨db, i, none⟩) (Nat.lt_of_lt_of_le hdb hR.O.size) (by simp)).trans (hR.YC i hi).1, (Only.frozen' so (p := ⟨db, i, none⟩) (Nat.lt_of_lt_of_le hdb hR.O.size) (by simp)).trans (hR.YC i hi).2⟩, F0 := fun _ => rfl, F2 := fun h _ => no_up h e2, F5 := fun h => no_up h e5, F7 := fun h => no_up h e7 }⟩
    refine StepsFrom.cons (i := 1) (j := 2) rfl ?_ ?_
    · intro bt v g W hR hb hd hcl K hK
      simp only [putAll, Act.put, List.setIfInBounds_toArray, List.set_cons_zero, List.set_cons_succ]
      go_simp
      exact hK.out _ _ ⟨upv v 60 (.slice ka fl.length kc), g, (by simp only [putAll, Act.put, List.setIfInBounds_toArray, List.set_cons_zero, List.set_cons_succ, upv_at, Nat.reduceBEq, cond_false, cond_true]), { C1 := fun _ => rfl, C3 := hR.C3, C4 := hR.C4, C6 := hR.C6, O := hR.O, Y := hR.Y, YC := hR.YC, F0 := hR.F0, F2 := hR.F2, F5 := hR.F5, F7 := hR.F7 }⟩
    refine StepsFrom.cons (i := 2) (j := 3) rfl ?_ ?_
    · intro bt v g W hR hb hd hcl K hK
      have c1 := hR.C1 (hd 1 (by kernel_rfl))
      have e5 := not_up hcl 5 2 (by kernel_rfl) hb
      have e7 := not_up hcl 7 2 (by kernel_rfl) hb
      have f0 := hR.F0 (hd 0 (by kernel_rfl))
      simp only [putAll, Act.put, List.setIfInBounds_toArray, List.set_cons_zero, List.set_cons_succ, f0, c1]
      refine wp_app0 _ _ 27 (by rfl) w2.heap.size 5 1 1 el_u8 (by rfl) rw_built (by rfl) (hfl.kept hR.O (fun b hb => by simpa using hfly b hb)) (bytes_one fl) (by omega) (by omega) hR.O.size ?_
      intro vr W' own app
      rw [Nat.zero_add, List.nil_append] at own
      simp only [Act.put, List.setIfInBounds_toArray, List.set_cons_zero, List.set_cons_succ]
      have so := app.fresh
      exact hK.out _ _ ⟨upv v 61 (vr), { g with r1 := vr }, (by simp only [putAll, Act.put, List.setIfInBounds_toArray, List.set_cons_zero, List.set_cons_succ, upv_at, Nat.reduceBEq, cond_false, cond_true, f0, c1]), { C1 := hR.C1, C3 := hR.C3, C4 := hR.C4, C6 := hR.C6, O := hR.O.trans so (ds := [db]) (by simp) (by simp), Y := fun h => cell_kept so (by simp) (hR.Y h), YC := fun i hi => ⟨(Only.cell' so (p := ⟨db, i, none⟩) (Nat.lt_of_lt_of_le hdb hR.O.size) (by simp)).trans (hR.YC i hi).1, (Only.frozen' so (p := ⟨db, i, none⟩) (Nat.lt_of_lt_of_le hdb hR.O.size) (by simp)).trans (hR.YC i hi).2⟩, F0 := hR.F0, F2 := fun _ _ => ⟨rfl, own⟩, F5 := fun h => no_up h e5, F7 := fun h => no_up h e7 }⟩
    refine StepsFrom.cons (i := 3) (j := 4) rfl ?_ ?_
    · intro bt v g W hR hb hd hcl K hK
      simp only [putAll, Act.put, List.setIfInBounds_toArray, List.set_cons_zero, List.set_cons_succ]
      go_simp
      exact hK.out _ _ ⟨upv v 62 (.pointer (some ⟨db, 0, none⟩)), g, (by simp only [putAll, Act.put, List.setIfInBounds_toArray, List.set_cons_zero, List.set_cons_succ, upv_at, Nat.reduceBEq, cond_false, cond_true]), { C1 := hR.C1, C3 := fun _ => rfl, C4 := hR.C4, C6 := hR.C6, O := hR.O, Y := hR.Y, YC := hR.YC, F0 := hR.F0, F2 := hR.F2, F5 := hR.F5, F7 := hR.F7 }⟩
    refine StepsFrom.cons (i := 4) (j := 5) rfl ?_ ?_
    · intro bt v g W hR hb hd hcl K hK
      have c3 := hR.C3 (hd 3 (by kernel_rfl))
      have e7 := not_up hcl 7 4 (by kernel_rfl) hb
      simp only [putAll, Act.put, List.setIfInBounds_toArray, List.set_cons_zero, List.set_cons_succ, c3]
      have cc := (hR.Y e7).1
      go_simp
      exact hK.out _ _ ⟨upv v 63 (.slice fa F.length fc), g, (by simp only [putAll, Act.put, List.setIfInBounds_toArray, List.set_cons_zero, List.set_cons_succ, upv_at, Nat.reduceBEq, cond_false, cond_true, c3]), { C1 := hR.C1, C3 := hR.C3, C4 := fun _ => rfl, C6 := hR.C6, O := hR.O, Y := hR.Y, YC := hR.YC, F0 := hR.F0, F2 := hR.F2, F5 := hR.F5, F7 := hR.F7 }⟩
    refine StepsFrom.cons (i := 5) (j := 6) rfl ?_ ?_
    · intro bt v g W hR hb hd hcl K hK
      have c4 := hR.C4 (hd 4 (by kernel_rfl))
      have e7 := not_up hcl 7 5 (by kernel_rfl) hb
      have f2 := hR.F2 (hd 2 (by kernel_rfl)) hb
      have f21 := f2.1
      have F2r := hid f2.2
      clear f2
      simp only [putAll, Act.put, List.setIfInBounds_toArray, List.set_cons_zero, List.set_cons_succ, f21, c4]
      refine wp_app0 _ _ 27 (by rfl) w2.heap.size 5 1 1 el_u8 (by rfl) F2r.out (by rfl) (hF.kept' hR.O (fun b hb => (hFy b hb).imp id (fun h => by simpa using h))) (bytes_one F) (by omega) (by omega) hR.O.size ?_
      intro vr W' own app
      simp only [Act.put, List.setIfInBounds_toArray, List.set_cons_zero, List.set_cons_succ]
      have so : Only [db] w2 W' := hR.O.app0 app (fun k hk => .inr (F2r.out.lt k hk).1)
      have sy : Only (RB g.r1).toList W W' := (Only.refl _ W).app0 app (fun k hk => .inl (by simp [hk]))
      have hny : db ∉ (RB g.r1).toList := fun hm => by have := (F2r.out.lt db (by simpa using hm)).1; omega
      exact hK.out _ _ ⟨upv v 64 (vr), { g with r2 := vr }, (by simp only [putAll, Act.put, List.setIfInBounds_toArray, List.set_cons_zero, List.set_cons_succ, upv_at, Nat.reduceBEq, cond_false, cond_true, f21, c4]), { C1 := hR.C1, C3 := hR.C3, C4 := hR.C4, C6 := hR.C6, O := so, Y := fun h => cell_kept sy hny (hR.Y h), YC := fun i hi => ⟨(Only.cell' sy (p := ⟨db, i, none⟩) (Nat.lt_of_lt_of_le hdb hR.O.size) hny).trans (hR.YC i hi).1, (Only.frozen' sy (p := ⟨db, i, none⟩) (Nat.lt_of_lt_of_le hdb hR.O.size) hny).trans (hR.YC i hi).2⟩, F0 := hR.F0, F2 := fun _ h => no_up rfl h, F5 := fun _ => ⟨rfl, own⟩, F7 := fun h => no_up h e7 }⟩
    refine StepsFrom.cons (i := 6) (j := 7) rfl ?_ ?_
    · intro bt v g W hR hb hd hcl K hK
      simp only [putAll, Act.put, List.setIfInBounds_toArray, List.set_cons_zero, List.set_cons_succ]
      go_simp
      exact hK.out _ _ ⟨upv v 65 (.pointer (some ⟨db, 0, none⟩)), g, (by simp only [putAll, Act.put, List.setIfInBounds_toArray, List.set_cons_zero, List.set_cons_succ, upv_at, Nat.reduceBEq, cond_false, cond_true]), { C1 := hR.C1, C3 := hR.C3, C4 := hR.C4, C6 := fun _ => rfl, O := hR.O, Y := hR.Y, YC := hR.YC, F0 := hR.F0, F2 := hR.F2, F5 := hR.F5, F7 := hR.F7 }⟩
    refine StepsFrom.cons (i := 7) (j := 8) rfl ?_ ?_
    · intro bt v g W hR hb hd hcl K hK
      have c6 := hR.C6 (hd 6 (by kernel_rfl))
      have f5 := hR.F5 (hd 5 (by kernel_rfl))
      have hform := f5.2.form'
      have f51 := f5.1.trans hform
      have HF := hid hform
      have z0 := (hR.Y hb).1
      have z1 := (hR.Y hb).2
      clear f5 hform
      simp only [putAll, Act.put, List.setIfInBounds_toArray, List.set_cons_zero, List.set_cons_succ, f51, c6]
      go_simp
      have so : Only [db] W (W.setCell ⟨db, 0, none⟩ (.slice (ra g.r2) (fl.length + F.length) (rc g.r2))) := (Only.refl _ W).setCell (.inl (by simp)) _
      have hky : ∀ {e size : Nat} {v : Value} {m : Nat} {xs : List Value}, Rw W w2.heap.size e size v m xs → ∀ k, RB v = some k → k ∉ [db] := fun h k hk hm => by have := (h.lt k hk).1; rw [List.mem_singleton] at hm; omega
      exact hK.out _ _ ⟨v, g, (by simp only [putAll, Act.put, List.setIfInBounds_toArray, List.set_cons_zero, List.set_cons_succ, upv_at, Nat.reduceBEq, cond_false, cond_true, f51, c6]), { C1 := hR.C1, C3 := hR.C3, C4 := hR.C4, C6 := hR.C6, O := hR.O.setCell (.inl (by simp)) _, Y := fun h => no_up rfl h, YC := fun i hi => ⟨(World.cell?_setCell_other _ _ _ _ (by intro e; exact hi (by simpa using congrArg Addr.off e.symm))).trans (hR.YC i hi).1, (show (W.setCell ⟨db, 0, none⟩ (.slice (ra g.r2) (fl.length + F.length) (rc g.r2))).frozen? ⟨db, i, none⟩ = W.frozen? ⟨db, i, none⟩ by simp [go_sem]).trans (hR.YC i hi).2⟩, F0 := hR.F0, F2 := fun h k => no_up (hd 5 (by kernel_rfl)) k, F5 := fun h => ⟨(hR.F5 h).1, (hR.F5 h).2.only so (hky (hR.F5 h).2)⟩, F7 := fun _ => ⟨(show (W.setCell ⟨db, 0, none⟩ (.slice (ra g.r2) (fl.length + F.length) (rc g.r2))).cell? ⟨db, 0, none⟩ = some (.slice (ra g.r2) (fl.length + F.length) (rc g.r2)) by simp [go_sem, z0]).trans (congrArg some HF.out.symm), by simp [go_sem, z1]⟩ }⟩
    exact StepsFrom.nil
  case fin =>
    intro bt v g W hR hall
    have c1 := hR.C1 (hall 1 rfl)
    have c3 := hR.C3 (hall 3 rfl)
    have c4 := hR.C4 (hall 4 rfl)
    have c6 := hR.C6 (hall 6 rfl)
    have f5 := hR.F5 (hall 5 rfl)
    have f7 := hR.F7 (hall 7 rfl)
    simp only [putAll, Act.put, List.setIfInBounds_toArray, List.set_cons_zero, List.set_cons_succ, c1, c3, c4, c6]
    exact hfin.out g.r2 _ _ _ W hR.O hR.YC f7 f5.2
end Go.Proofs.Ytnlmeaijnfjakaa.Sh
/- The document's disks, read. -/
namespace Go.Proofs.Ytnlmeaijnfjakaa.Sh
set_option linter.unusedSimpArgs false
set_option linter.unusedVariables false
open Go Go.RowKit Go.ChangeShapes Go.WideShapes Go.Deep

/-- A value that is a disk. -/
def DskRep (w : World) (v : Value) (d : List UInt8 × List UInt8) : Prop := ∃ fv lv, v = dskV fv lv ∧ Bs w fv d.1 ∧ Bs w lv d.2
section
variable {H : Type} {enc : TypeId × Value → H} {P : Program} {w : World} {base : Nat} {spare : Nat → Bool} {held : Bool}
theorem read_disk {t tb te : TypeId} {f0 f1 : Field} {r : Reach} {b0 : Nat} {v : Value} {d : DataW H} {p : List MemPlace} (hs : P.underlying t = some (.struct #[f0, f1])) (hone : Deep.oneCellFields P #[f0, f1] = true) (hC : P.cellsOf t = 2)
    (t0 : f0.type = tb) (t1 : f1.type = tb) (hb : P.underlying tb = some (.slice te)) (he : P.underlying te = some (.int .u8)) (hce : P.cellsOf te = 1)
    (hv : Value.okWide P w r b0 t v) (h : DataW.Trod enc P w base spare held t v d p) : ∃ D : List UInt8 × List UInt8, DskRep w v D := by
  obtain ⟨c0, c1, y0, y1, m, rfl, rfl, rfl, g0, g1⟩ := Joins.open_agg2 hs hone hC hv h
  rw [t0] at g0
  rw [t1] at g1
  obtain ⟨l0, h0⟩ := read_bs hb he hce g0
  obtain ⟨l1, h1⟩ := read_bs hb he hce g1
  exact ⟨(l0, l1), c0, c1, rfl, h0, h1⟩
end
end Go.Proofs.Ytnlmeaijnfjakaa.Sh
/- Of any disk the keyper is the document's; whatever its records tell: the law's walk. (Printed by gen_kopens.py.) -/
namespace Go.Proofs.Ytnlmeaijnfjakaa.Sh
set_option linter.unusedSimpArgs false
set_option linter.unusedVariables false
open Go Go.RowKit

theorem few_open (z : List UInt8) (hz : z.length ≤ 7000) : Few 0 (allL z).1 := by
  obtain ⟨h1, _⟩ := allL_flat _ z (Nat.le_refl _)
  obtain ⟨h3, h4⟩ := allL_le _ z (Nat.le_refl _)
  refine ⟨?_, by omega⟩
  show ((allL z).1.map frameL).flatten.length ≤ _
  rw [h1, List.length_take]
  omega

set_option maxRecDepth 20000 in
set_option maxHeartbeats 12800000 in
theorem keyperOpens_mid (w : World) {dv rv v : Value} {D : List UInt8 × List UInt8} {recs : List (List UInt8)} {l : List KOp} (hd : DskRep w dv D) (hr : Bss w rv recs) (hl : KOps w v l) (hf : fewK l = true) (q1 : ¬ 300 < D.1.length) (q2 : ¬ 300 < D.2.length) (q3 : ¬ 20 < recs.length) :
    Calls Try.prog 4 #[dv, rv, v] w fun e w' => e = .returned (.bool true) ∧ Only [] w w' := by
  obtain ⟨fv, lv, rfl, hfv, hlv⟩ := hd
  obtain ⟨F0, Lo⟩ := D
  simp only at hfv hlv q1 q2
  obtain ⟨fa0, fc0, rfl⟩ := bs_form hfv
  obtain ⟨ja, jc, rfl⟩ := bs_form hlv
  obtain ⟨ra, rc, rfl, r1, r2, r3⟩ := hr.form
  obtain ⟨va, vc, rfl, h1, h2, h3⟩ := hl.form
  obtain ⟨hfe, hl60⟩ := fewK_ok hf
  replace hfe := hid hfe
  have hok := hid hl.ok
  have hfw := fun W (o : Only [] w W) => few20_any _ l W (hl.kept0 o)
  rw [hf] at hfw
  replace hfw := hid hfw
  have hF0 : F0.length ≤ 300 := by omega
  have hLo : Lo.length ≤ 300 := by omega
  have hrl : recs.length ≤ 20 := by omega
  obtain ⟨w1, hw1⟩ : ∃ w1, w1 = w.alloc (Obj.cells #[.slice fa0 F0.length fc0, .slice ja Lo.length jc] 49) := ⟨_, rfl⟩
  have o1 : Only [] w w1 := by rw [hw1]; exact (Only.refl [] w).alloc _
  obtain ⟨db, hdb⟩ : ∃ db, db = w.heap.size := ⟨_, rfl⟩
  have x0 : w1.cell? ⟨db, 0, none⟩ = some (.slice fa0 F0.length fc0) ∧ w1.frozen? ⟨db, 0, none⟩ = false := by rw [hw1, hdb]; constructor <;> simp [go_sem]
  have x1 : w1.cell? ⟨db, 1, none⟩ = some (.slice ja Lo.length jc) ∧ w1.frozen? ⟨db, 1, none⟩ = false := by rw [hw1, hdb]; constructor <;> simp [go_sem]
  have hdbw : w.heap.size ≤ db := by omega
  have hdb1 : db < w1.heap.size := by rw [hw1, hdb]; simp
  have hfb : ∀ b, (Value.slice fa0 F0.length fc0).ownBlock = some b → F0 = [] ∨ b ≠ db := fun b hb => (hfv.blk b hb).imp id (fun h => by omega)
  have hjb : ∀ b, (Value.slice ja Lo.length jc).ownBlock = some b → Lo = [] ∨ b ≠ db := fun b hb => (hlv.blk b hb).imp id (fun h => by omega)
  obtain ⟨LN, hLN⟩ : ∃ n, n = Lo.length := ⟨_, rfl⟩
  have HLV := hid hlv
  have HFV := hid hfv
  have HRR := hid hr
  have HLL := hid hl
  clear hf q1 q2 q3 hfv hlv
  go_enter Try.func4, Try.ntmps4
  go_wp2_with fail
  rw [← hw1, ← hdb]
  clear hw1 hdb
  refine (awake20_any _).mono ?_
  rintro e w2 ⟨rfl, o2⟩
  have y0 := cell_kept o2 (by simp) x0
  have y1 := cell_kept o2 (by simp) x1
  have y0a := y0.1
  have y1a := y1.1
  have o12 := o1.trans0 o2
  have s2 := o2.size
  clear hLN
  go_wp2_with fail
  refine (hfw.out _ o12).mono ?_
  rintro e w' ⟨rfl, h9⟩
  obtain rfl : w2 = w' := h9.symm
  clear h9
  go_wp2_with fail
  go_loopw [40] (fun i wr => ∃ (j : Nat) (F : List UInt8) (fa : Option Addr) (fc : Nat), j ≤ recs.length ∧ i = .int .i64 j ∧ (wr.cell? ⟨db, 0, none⟩ = some (.slice fa F.length fc) ∧ wr.frozen? ⟨db, 0, none⟩ = false) ∧ (wr.cell? ⟨db, 1, none⟩ = some (.slice ja Lo.length jc) ∧ wr.frozen? ⟨db, 1, none⟩ = false) ∧ Bs wr (.slice fa F.length fc) F ∧ (∀ b, (Value.slice fa F.length fc).ownBlock = some b → F = [] ∨ b ≠ db) ∧ F.length ≤ 300 + 306 * j ∧ Only [db] w2 wr) (fun i _ => recs.length - (intOf i).toNat)
  case atStart => exact ⟨0, F0, fa0, fc0, Nat.zero_le _, rfl, y0, y1, HFV.out.kept0 o12, hfb, by omega, Only.refl _ _⟩
  case round =>
    obtain ⟨j, F, fa, fc, hj, rfl, ⟨c0, z0⟩, ⟨c1, z1⟩, hF, hFb, hFl, ho⟩ := hrel
    have sr := ho.size
    have howr : Only [] w wr := o12.trans ho (by simp) (by simp; omega)
    by_cases hlt : j < recs.length
    · obtain ⟨b, o, xv, rfl, cr, hx⟩ := (HRR.out.kept0 howr).at j hlt
      obtain ⟨R, hR⟩ : ∃ R, R = recs[j] := ⟨_, rfl⟩
      rw [← hR] at hx
      have hx0 := hid hx
      obtain ⟨xa, xc, rfl⟩ := bs_form hx
      by_cases hbad : R.length < 1 ∨ 1000 < R.length
      · have fr := hid (refFrame_bad _ R wr hx0.out hbad)
        obtain ⟨rn, hrn⟩ : ∃ n, n = R.length := ⟨_, rfl⟩
        rw [← hrn] at cr fr hbad
        have hFF := hid hF
        have hofin := hid howr
        clear hR hx hrn hF
        by_cases h300 : 300 < rn
        · clear hbad
          go_wp2_with fail
          refine fr.out.mono ?_
          rintro e w' ⟨rfl, h9⟩
          obtain rfl : wr = w' := h9
          go_wp2
          go_ret
          exact ⟨rfl, hofin.out⟩
        · clear hbad
          go_wp2_with fail
          refine fr.out.mono ?_
          rintro e w' ⟨rfl, h9⟩
          obtain rfl : wr = w' := h9
          go_wp2
          go_roundw
          case rel => exact ⟨j + 1, F, fa, fc, by omega, by go_num, ⟨c0, z0⟩, ⟨c1, z1⟩, hFF.out, hFb, by omega, ho⟩
          case measure => simp [intOf]; omega
      · have hR1 : 1 ≤ R.length := by omega
        have hR2 : R.length ≤ 1000 := by omega
        have fr := refFrame_good _ R wr hx0.out hR1 hR2
        have hfrl : (frameL R).length = 6 + R.length := frameL_length R
        obtain ⟨fl, hfl⟩ : ∃ fl, fl = frameL R := ⟨_, rfl⟩
        rw [← hfl] at fr hfrl
        replace fr := hid fr
        obtain ⟨rn, hrn⟩ : ∃ n, n = R.length := ⟨_, rfl⟩
        rw [← hrn] at cr fr hR1 hR2 hfrl
        have hFF := hid hF
        have hofin := hid howr
        have hfl1 : fl.length ≤ 6 + rn := by omega
        clear hR hx hrn hF hbad hfl hfrl
        by_cases h300 : 300 < rn
        · go_wp2_with fail
          refine fr.out.mono ?_
          rintro e w5 ⟨kv, rfl, hk5, o5⟩
          obtain ⟨ka, kc, rfl⟩ := own_form hk5
          have cr5 := o5.cell cr (by simp)
          have hof := hid (hofin.out.trans0 o5)
          clear hk5
          go_wp2
          go_ret
          exact ⟨rfl, hof.out⟩
        · go_wp2_with fail
          refine fr.out.mono ?_
          rintro e w5 ⟨kv, rfl, hk5, o5⟩
          obtain ⟨ka, kc, rfl⟩ := own_form hk5
          have s5 := o5.size
          have cr5 := o5.cell cr (by simp)
          have HK5 := hid hk5
          have C0 := hid (cell_kept o5 (by simp) (⟨c0, z0⟩ : wr.cell? ⟨db, 0, none⟩ = some (.slice fa F.length fc) ∧ wr.frozen? ⟨db, 0, none⟩ = false))
          have C1 := hid (cell_kept o5 (by simp) (⟨c1, z1⟩ : wr.cell? ⟨db, 1, none⟩ = some (.slice ja Lo.length jc) ∧ wr.frozen? ⟨db, 1, none⟩ = false))
          clear hk5
          go_wp2_with fail
          refine opens10_ok _ w5 db ka kc fa fc fl F _ _ _ _ _ _ _ _ _ _ _ _ _ _ _ _ _ _ _ _ _ _ _ _ _ _ _ _ _ _ _ _ _ _ _ _ _ _ _ _ _ _ _ _ _ _ _ _ _ _ _ _ _ _ _ _ _ _ _ _ _ _ _ _ _ _ _ _ _ _ _ _ _ _ _ _ _ _ _ _ _ _ _ _ _ _ _ _ _ _ _ _ _ _ _ _ _ C0.out (HK5.out.bs (by omega)) (fun i hi => by have := (HK5.out.lt i hi).1; omega) (hFF.out.kept0 o5) hFb (by omega) (by omega) (by omega) ?_
          intro rr v59 v61 v64 W oW hYC hcW hRw
          have hfin : Hid (∃ (F' : List UInt8) (fa' : Option Addr) (fc' : Nat), rr = .slice fa' F'.length fc' ∧ Bs W (.slice fa' F'.length fc') F' ∧ (∀ b, (Value.slice fa' F'.length fc').ownBlock = some b → F' = [] ∨ b ≠ db) ∧ F'.length = fl.length + F.length) := by
            obtain ⟨a', c', he⟩ := hRw.form
            refine ⟨fl ++ F, a', c', by rw [he, List.length_append], ?_, fun b hb => ?_, by rw [List.length_append]⟩
            · rw [List.length_append, ← he]
              exact hRw.bs (by rw [List.length_append]) (by simp [bytes]) (by rw [List.length_append]; omega)
            · by_cases h0 : fl.length + F.length = 0
              · left
                exact List.eq_nil_of_length_eq_zero (by rw [List.length_append]; omega)
              · right
                rw [List.length_append, ← he] at hb
                have := hRw.own_lt (by omega) b hb
                omega
          obtain ⟨F', fa', fc', hrr, g1, g2, g3⟩ := hfin.out
          rw [hrr] at hcW
          have c1W := hYC 1 (by omega)
          have C1W := hid (show W.cell? ⟨db, 1, none⟩ = some (.slice ja Lo.length jc) ∧ W.frozen? ⟨db, 1, none⟩ = false by rw [c1W.1, c1W.2]; exact C1.out)
          have hG1 := hid g1
          have hF'l : F'.length ≤ 300 + 306 * (j + 1) := by omega
          have hoW : Only [db] w2 W := (ho.trans o5 (ds := [db]) (by simp) (by simp)).trans oW (ds := [db]) (by simp) (by simp)
          have hcW2 := hid hcW
          clear hRw hYC c1W g1 hfin hcW g3 hrr hFF
          go_wp2
          go_roundw
          case rel => exact ⟨j + 1, F', fa', fc', by omega, by go_num, hcW2.out, C1W.out, hG1.out, g2, hF'l, hoW⟩
          case measure => simp [intOf]; omega
    · obtain rfl : j = recs.length := by omega
      have hFF := hid hF
      have hFl2 : F.length ≤ 6420 := by omega
      have hop := hid (fun W (o : Only [] wr W) => ky_open w W (howr.trans0 o) _ _ F Lo (hFF.out.kept0 o) (HLV.out.kept0 (howr.trans0 o)) (by omega))
      have rop := hid (fun W (o : Only [] wr W) => r_open w W (howr.trans0 o) _ _ F Lo (hFF.out.kept0 o) (HLV.out.kept0 (howr.trans0 o)) (by omega))
      have hfw0 := few_open (F ++ Lo) (by simp; omega)
      obtain ⟨rs0, hrs0⟩ : ∃ rs0, rs0 = (allL (F ++ Lo)).1 := ⟨_, rfl⟩
      rw [← hrs0] at hop rop hfw0
      have od : Only [] wr wr.drew := (Only.refl [] wr).drew
      have HO := hid howr
      obtain ⟨FN, hFN⟩ : ∃ n, n = F.length := ⟨_, rfl⟩
      obtain ⟨LN2, hLN2⟩ : ∃ n, n = Lo.length := ⟨_, rfl⟩
      rw [← hFN] at c0 hop rop
      rw [← hLN2] at c1 hop rop
      clear hrs0 hF hFN hLN2
      go_wp2_with fail
      go_region_held3 (fun V => V.cell? ⟨db, 0, none⟩ = some (.slice fa FN fc) ∧ V.cell? ⟨db, 1, none⟩ = some (.slice ja LN2 jc))
        (first | exact ⟨c0, c1⟩ | exact ⟨od.cell c0 (by simp), od.cell c1 (by simp)⟩ | exact ⟨p5.cell c0 (by simp), p5.cell c1 (by simp)⟩ | exact ⟨p6.cell c0 (by simp), p6.cell c1 (by simp)⟩)
        (first
        | (go_at_call 11; refine (hop.out _ od).mono ?_; rintro e w5 ⟨k, B, rfl, K5, b5, q5⟩; have p5 : Only [] wr w5 := od.trans0 q5)
        | (go_at_call 21; refine (rop.out _ p5).mono ?_; rintro e w6 ⟨y, C, rfl, K6, c6, q6⟩; have p6 : Only [] wr w6 := p5.trans0 q6))
      have hb6 := both_made K5 K6 c6 q6
      have sm := hid (same20_any w w6 k y rs0 B C 0 hb6 hfw0 (by omega))
      have HB6 := hid hb6
      clear K5 K6 b5 c6 hop rop hb6
      go_wp2_with fail
      refine sm.out.mono ?_
      rintro e w7 ⟨rfl, o7⟩
      have hb7 := HB6.out.kept0 o7
      clear sm
      go_wp2_with fail
      go_loopw [81] (fun i wr => ∃ (j : Nat) (rs : List (List UInt8)) (B C : List Nat), j ≤ l.length ∧ i = .int .i64 j ∧ Both w wr k y rs B C ∧ Few j rs) (fun i _ => l.length - (intOf i).toNat)
      case atStart => exact ⟨0, rs0, B, C, Nat.zero_le _, rfl, hb7, hfw0⟩
      case round =>
        obtain ⟨j, rs, B, C, hj, rfl, hb, hfew⟩ := hrel
        by_cases hlt : j < l.length
        · clear hr
          obtain ⟨b, o, rfl, hel⟩ := HLL.out.at j hlt
          have hoks := hok.out _ (List.getElem_mem hlt)
          have hsml := hfe.out _ (List.getElem_mem hlt)
          obtain ⟨O, hO'⟩ : ∃ O, O = l[j] := ⟨_, rfl⟩
          rw [← hO'] at hel hoks hsml
          clear hO'
          obtain ⟨⟨c0, c1, c2, c3, c5⟩, ⟨x4, c4, h4⟩, x6, c6, h6⟩ := hel
          replace c0 := hb.only.cell c0 (by simp)
          replace c1 := hb.only.cell c1 (by simp)
          replace c2 := hb.only.cell c2 (by simp)
          replace c3 := hb.only.cell c3 (by simp)
          replace c4 := hb.only.cell c4 (by simp)
          replace c5 := hb.only.cell c5 (by simp)
          replace c6 := hb.only.cell c6 (by simp)
          have dd := hid (do_any w wr k y rs B C j hb hfew (by omega) O hoks x4 x6 h4 h6 hsml.1 hsml.2)
          obtain ⟨sa, sc, rfl⟩ := bs_form h4
          obtain ⟨ga, gc, rfl⟩ := bs_form h6
          clear hb h4 h6
          go_wp2_with fail
          refine dd.out.mono ?_
          rintro e w10 ⟨rfl, B5, C5, hb5, f5⟩
          have sm := hid (same20_any w w10 k y _ B5 C5 _ hb5 f5 (by omega))
          have HB5 := hid hb5
          clear dd hb5
          go_wp2_with fail
          refine sm.out.mono ?_
          rintro e w11 ⟨rfl, o11⟩
          have hb11 := HB5.out.kept0 o11
          clear sm
          go_wp2
          go_roundw
          case rel => exact ⟨j + 1, _, B5, C5, by omega, by go_num, hb11, f5⟩
          case measure => simp [intOf]; omega
        · obtain rfl : j = l.length := by omega
          have hfin := hid hb.only
          clear hb
          go_wp2
          go_ret
          exact ⟨rfl, hfin.out⟩

set_option maxRecDepth 20000 in
set_option maxHeartbeats 3200000 in
theorem keyperOpens_walk (w : World) {dv rv v : Value} {D : List UInt8 × List UInt8} {recs : List (List UInt8)} {l : List KOp} (hd : DskRep w dv D) (hr : Bss w rv recs) (hl : KOps w v l) :
    Calls Try.prog 4 #[dv, rv, v] w fun e w' => e = .returned (.bool true) ∧ Only [] w w' := by
  by_cases hc : fewK l = true ∧ ¬ 300 < D.1.length ∧ ¬ 300 < D.2.length ∧ ¬ 20 < recs.length
  · obtain ⟨hf, q1, q2, q3⟩ := hc
    exact keyperOpens_mid w hd hr hl hf q1 q2 q3
  obtain ⟨fv, lv, rfl, hfv, hlv⟩ := hd
  obtain ⟨F0, Lo⟩ := D
  simp only at hfv hlv hc
  obtain ⟨fa0, fc0, rfl⟩ := bs_form hfv
  obtain ⟨ja, jc, rfl⟩ := bs_form hlv
  obtain ⟨ra, rc, rfl, r1, r2, r3⟩ := hr.form
  obtain ⟨va, vc, rfl, h1, h2, h3⟩ := hl.form
  have hfw := fun W (o : Only [] w W) => few20_any _ l W (hl.kept0 o)
  replace hfw := hid hfw
  obtain ⟨w1, hw1⟩ : ∃ w1, w1 = w.alloc (Obj.cells #[.slice fa0 F0.length fc0, .slice ja Lo.length jc] 49) := ⟨_, rfl⟩
  have o1 : Only [] w w1 := by rw [hw1]; exact (Only.refl [] w).alloc _
  have x0 : w1.cell? ⟨w.heap.size, 0, none⟩ = some (.slice fa0 F0.length fc0) := by rw [hw1]; simp [go_sem]
  have x1 : w1.cell? ⟨w.heap.size, 1, none⟩ = some (.slice ja Lo.length jc) := by rw [hw1]; simp [go_sem]
  obtain ⟨db, hdb⟩ : ∃ db, db = w.heap.size := ⟨_, rfl⟩
  rw [← hdb] at x0 x1
  obtain ⟨n0, hn0⟩ : ∃ n, n = F0.length := ⟨_, rfl⟩
  obtain ⟨n1, hn1⟩ : ∃ n, n = Lo.length := ⟨_, rfl⟩
  obtain ⟨n2, hn2⟩ : ∃ n, n = recs.length := ⟨_, rfl⟩
  have b0 : F0.length ≤ 9223372036854775807 := by obtain ⟨_, _, _, _, _, _, hm, _⟩ := hfv; exact hm
  have b1 : Lo.length ≤ 9223372036854775807 := by obtain ⟨_, _, _, _, _, _, hm, _⟩ := hlv; exact hm
  rw [← hn0] at x0 hw1 hc b0
  rw [← hn1] at x1 hw1 hc b1
  rw [← hn2] at hc r3
  rw [← hn0, ← hn1, ← hn2]
  clear hn0 hn1 hn2 hfv hlv r1 r2 h1 h2
  go_enter Try.func4, Try.ntmps4
  go_wp2_with fail
  rw [← hw1, ← hdb]
  clear hw1 hdb
  refine (awake20_any _).mono ?_
  rintro e w2 ⟨rfl, o2⟩
  have y0 := o2.cell x0 (by simp)
  have y1 := o2.cell x1 (by simp)
  have o12 := o1.trans0 o2
  clear x0 x1
  cases hf : fewK l with
  | false =>
    rw [hf] at hfw
    clear hf hc
    go_wp2_with fail
    refine (hfw.out _ o12).mono ?_
    rintro e w' ⟨rfl, h9⟩
    obtain rfl : w2 = w' := h9.symm
    clear h9
    go_wp2_with fail
    refine (awake20_any _).mono ?_
    rintro e w3 ⟨rfl, o3⟩
    go_wp2
    go_ret
    exact ⟨rfl, o12.trans0 o3⟩
  | true =>
    rw [hf] at hfw
    have hc' : 300 < n0 ∨ 300 < n1 ∨ 20 < n2 := by
      by_cases q1 : 300 < n0
      · exact .inl q1
      by_cases q2 : 300 < n1
      · exact .inr (.inl q2)
      by_cases q3 : 20 < n2
      · exact .inr (.inr q3)
      · exact absurd ⟨hf, q1, q2, q3⟩ hc
    clear hf hc
    go_wp2_with fail
    refine (hfw.out _ o12).mono ?_
    rintro e w' ⟨rfl, h9⟩
    obtain rfl : w2 = w' := h9.symm
    clear h9
    by_cases q1 : 300 < n0
    · clear hc'
      go_wp2_with fail
      refine (awake20_any _).mono ?_
      rintro e w3 ⟨rfl, o3⟩
      go_wp2
      go_ret
      exact ⟨rfl, o12.trans0 o3⟩
    by_cases q2 : 300 < n1
    · clear hc'
      go_wp2_with fail
      refine (awake20_any _).mono ?_
      rintro e w3 ⟨rfl, o3⟩
      go_wp2
      go_ret
      exact ⟨rfl, o12.trans0 o3⟩
    have q3 : 20 < n2 := by omega
    clear hc'
    go_wp2_with fail
    refine (awake20_any _).mono ?_
    rintro e w3 ⟨rfl, o3⟩
    go_wp2
    go_ret
    exact ⟨rfl, o12.trans0 o3⟩
end Go.Proofs.Ytnlmeaijnfjakaa.Sh
