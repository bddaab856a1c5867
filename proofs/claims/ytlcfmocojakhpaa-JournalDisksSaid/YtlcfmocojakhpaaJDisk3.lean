/- A disk is made of clones: one region that draws its order. (Printed by gen_jdisk3.py.) -/
import Derived.Test.YtlcfmocojakhpaaReadJ
import Derived.Test.YtlcfmocojakhpaaAppZero
import Derived.Test.YtlcfmocojakhpaaRegInv
import Derived.Test.YtlcfmocojakhpaaKeep
import Derived.Test.YtlcfmocojakhpaaFindReg
namespace Go.Proofs.Ytlcfmocojakhpaa.Sh
open Go Go.RowKit

theorem crashL_len (f l : List UInt8) (keep : Int) (torn : UInt8) : (crashL f l keep torn).length ≤ f.length + l.length := by
  unfold crashL
  split <;> simp <;> omega
theorem crashL_none (f : List UInt8) (keep : Int) (torn : UInt8) : crashL f [] keep torn = f := by
  have h : keepN keep ([] : List UInt8).length = 0 := by unfold keepN; simp; omega
  unfold crashL
  rw [h]
  simp
/-- A row's blocks. -/
def bks (v : Value) : List Nat := v.ownBlock.toList
theorem bks_lt {w : World} {B e size : Nat} {v : Value} {n : Nat} {xs : List Value} (h : w.ownsRow B e size v n xs) : ∀ k ∈ bks v, B ≤ k ∧ k < w.heap.size := fun k hk => h.lt k (by simpa [bks] using hk)
theorem bytes_set (z : List UInt8) (k : Nat) (x : UInt8) : (bytes z).set k (vU8 x) = bytes (z.set k x) := by simp [bytes, List.map_set]
theorem Bs.far {w w' : World} {v : Value} {l : List UInt8} (h : Bs w v l) {bs : List Nat} (ho : Only bs w w') (hb : ∀ k ∈ bs, w.heap.size ≤ k) : Bs w' v l := by
  obtain ⟨hl, a, cap, rfl, h1, h2, h4, h3⟩ := h
  refine ⟨hl, a, cap, rfl, h1, h2, h4, h3.imp id (fun ⟨b, o, e, h⟩ => ⟨b, o, e, fun j u hu => ho.cell (h j u hu) (fun hm => ?_)⟩)⟩
  have g1 := hb b hm
  have g2 := World.block_lt_of_cell? w _ (h j u hu)
  simp only at g2
  omega

noncomputable def disks3 : Code := (Try.f3.body.bind (findReg 3)).getD .skip
structure D3G where
  g1 : Nat
  g2 : Nat
  r1 : Value
  r2 : Value
  n9 : Nat
structure D3 (w2 : World) (p4 : Nat) (f l : List UInt8) (fa : Option Addr) (fc : Nat) (la : Option Addr) (lc : Nat) (bt : Nat → Bool) (v : Nat → Value) (g : D3G) (W : World) : Prop where
  C1 : bt 1 = true → v 40 = .pointer (some ⟨p4, 0, none⟩)
  C2 : bt 2 = true → v 41 = .slice fa f.length fc
  C5 : bt 5 = true → v 44 = .pointer (some ⟨p4, 1, none⟩)
  C6 : bt 6 = true → v 45 = .slice la l.length lc
  O : Only [] w2 W
  F0 : bt 0 = true → v 39 = .slice (some ⟨g.g1, 0, none⟩) 0 0
  F3 : bt 3 = true → v 42 = g.r1 ∧ Rw W w2.heap.size 5 1 g.r1 f.length (bytes f) ∧ (bt 9 = true → RB g.r1 ≠ some g.n9)
  F4 : bt 4 = true → v 43 = .slice (some ⟨g.g2, 0, none⟩) 0 0
  F7 : bt 7 = true → v 46 = g.r2 ∧ Rw W w2.heap.size 5 1 g.r2 l.length (bytes l) ∧ (bt 9 = true → RB g.r2 ≠ some g.n9)
  F8 : bt 8 = true → v 47 = dskV g.r1 g.r2
  F9 : bt 9 = true → v 9 = .pointer (some ⟨g.n9, 0, none⟩) ∧ w2.heap.size ≤ g.n9 ∧ g.n9 < W.heap.size
  F9c : bt 9 = true → bt 10 = false → (W.cell? ⟨g.n9, 0, none⟩ = some (.slice none 0 0) ∧ W.frozen? ⟨g.n9, 0, none⟩ = false) ∧ (W.cell? ⟨g.n9, 1, none⟩ = some (.slice none 0 0) ∧ W.frozen? ⟨g.n9, 1, none⟩ = false)
  F10 : bt 10 = true → W.cell? ⟨g.n9, 0, none⟩ = some g.r1 ∧ W.cell? ⟨g.n9, 1, none⟩ = some g.r2

set_option maxRecDepth 100000 in
set_option maxHeartbeats 6400000 in
theorem disks3_ok (Q : Exit → Act → World → Prop) (w2 : World) (p4 : Nat) (f l : List UInt8) (fa : Option Addr) (fc : Nat) (la : Option Addr) (lc : Nat) (u0 u1 u2 u3 u5 u6 u7 u8 u9 u10 u11 u12 u13 u14 u15 u16 u17 u18 u19 u20 u21 u22 u23 u24 u25 u26 u27 u28 u29 u30 u31 u32 u33 u34 u35 u36 u37 u38 u39 u40 u41 u42 u43 u44 u45 u46 u47 u48 u49 u50 u51 u52 u53 u54 u55 u56 u57 u58 u59 u60 u61 u62 u63 u64 u65 u66 u67 u68 u69 u70 u71 u72 u73 u74 u75 u76 u77 u78 u79 u80 u81 u82 u83 u84 u85 u86 u87 u88 u89 u90 u91 u92 u93 u94 u95 u96 u97 u98 u99 u100 u101 u102 u103 u104 u105 u106 u107 u108 u109 u110 u111 u112 u113 u114 u115 u116 u117 u118 u119 u120 u121 u122 u123 u124 u125 u126 u127 u128 u129 u130 u131 u132 u133 u134 u135 u136 u137 u138 u139 u140 u141 u142 u143 u144 u145 : Value)
    (c0 : w2.cell? ⟨p4, 0, none⟩ = some (.slice fa f.length fc)) (c1 : w2.cell? ⟨p4, 1, none⟩ = some (.slice la l.length lc)) (hf : Bs w2 (.slice fa f.length fc) f) (hl : Bs w2 (.slice la l.length lc) l) (hfl : f.length + l.length ≤ 1000)
    (hfin : ∀ (n9 : Nat) (xa : Option Addr) (xc : Nat) (ya : Option Addr) (yc : Nat) (v39 v42 v43 v46 v47 : Value) (W : World), Only [] w2 W → w2.heap.size ≤ n9 → W.cell? ⟨n9, 0, none⟩ = some (.slice xa f.length xc) → W.cell? ⟨n9, 1, none⟩ = some (.slice ya l.length yc) → Bs W (.slice xa f.length xc) f → Bs W (.slice ya l.length yc) l →
      Q .normal ⟨#[u0, u1, u2, u3, .pointer (some ⟨p4, 0, none⟩), u5, u6, u7, u8, .pointer (some ⟨n9, 0, none⟩), u10, u11, u12, u13, u14, u15, u16, u17, u18, u19, u20, u21, u22, u23, u24, u25, u26, u27, u28, u29, u30, u31, u32, u33, u34, u35, u36, u37, u38, v39, .pointer (some ⟨p4, 0, none⟩), .slice fa f.length fc, v42, v43, .pointer (some ⟨p4, 1, none⟩), .slice la l.length lc, v46, v47, u48, u49, u50, u51, u52, u53, u54, u55, u56, u57, u58, u59, u60, u61, u62, u63, u64, u65, u66, u67, u68, u69, u70, u71, u72, u73, u74, u75, u76, u77, u78, u79, u80, u81, u82, u83, u84, u85, u86, u87, u88, u89, u90, u91, u92, u93, u94, u95, u96, u97, u98, u99, u100, u101, u102, u103, u104, u105, u106, u107, u108, u109, u110, u111, u112, u113, u114, u115, u116, u117, u118, u119, u120, u121, u122, u123, u124, u125, u126, u127, u128, u129, u130, u131, u132, u133, u134, u135, u136, u137, u138, u139, u140, u141, u142, u143, u144, u145], []⟩ W) :
    disks3.wp Try.prog Q ⟨#[u0, u1, u2, u3, .pointer (some ⟨p4, 0, none⟩), u5, u6, u7, u8, u9, u10, u11, u12, u13, u14, u15, u16, u17, u18, u19, u20, u21, u22, u23, u24, u25, u26, u27, u28, u29, u30, u31, u32, u33, u34, u35, u36, u37, u38, u39, u40, u41, u42, u43, u44, u45, u46, u47, u48, u49, u50, u51, u52, u53, u54, u55, u56, u57, u58, u59, u60, u61, u62, u63, u64, u65, u66, u67, u68, u69, u70, u71, u72, u73, u74, u75, u76, u77, u78, u79, u80, u81, u82, u83, u84, u85, u86, u87, u88, u89, u90, u91, u92, u93, u94, u95, u96, u97, u98, u99, u100, u101, u102, u103, u104, u105, u106, u107, u108, u109, u110, u111, u112, u113, u114, u115, u116, u117, u118, u119, u120, u121, u122, u123, u124, u125, u126, u127, u128, u129, u130, u131, u132, u133, u134, u135, u136, u137, u138, u139, u140, u141, u142, u143, u144, u145], []⟩ w2 := by
  replace hfin := hid hfin
  conv => arg 2; whnf
  refine wp_region_inv [39, 40, 41, 42, 43, 44, 45, 46, 47, 9] (D3 w2 p4 f l fa fc la lc) (by kernel_rfl) (by kernel_rfl) ⟨0, 0, undef, undef, 0⟩ ?start ?fin ?steps
  case start =>
    exact { C1 := fun h => no_up h rfl, C2 := fun h => no_up h rfl, C5 := fun h => no_up h rfl, C6 := fun h => no_up h rfl, O := (Only.refl [] w2).drew, F0 := fun h => no_up h rfl, F3 := fun h => no_up h rfl, F4 := fun h => no_up h rfl, F7 := fun h => no_up h rfl, F8 := fun h => no_up h rfl, F9 := fun h => no_up h rfl, F9c := fun h => no_up h rfl, F10 := fun h => no_up h rfl }
  case steps =>
    refine StepsFrom.cons (i := 0) (j := 1) rfl ?_ ?_
    · intro bt v g W hR hb hd hcl K hK
      have e3 := not_up hcl 3 0 (by kernel_rfl) hb
      have e8 := not_up hcl 8 0 (by kernel_rfl) hb
      have e10 := not_up hcl 10 0 (by kernel_rfl) hb
      have so : Only [] W (W.alloc (Obj.cells #[] 5)) := (Only.refl [] W).alloc _
      simp only [putAll, Act.put, List.setIfInBounds_toArray, List.set_cons_zero, List.set_cons_succ]
      go_simp
      exact hK.out _ _ ⟨upv v 39 (.slice (some ⟨W.heap.size, 0, none⟩) 0 0), { g with g1 := W.heap.size }, (by simp only [putAll, Act.put, List.setIfInBounds_toArray, List.set_cons_zero, List.set_cons_succ, upv_at, Nat.reduceBEq, cond_false, cond_true]), { C1 := hR.C1, C2 := hR.C2, C5 := hR.C5, C6 := hR.C6, O := hR.O.trans0 so, F0 := fun _ => rfl, F3 := fun h => no_up h e3, F4 := hR.F4, F7 := fun h => ⟨(hR.F7 h).1, (hR.F7 h).2.1.only0 so, (hR.F7 h).2.2⟩, F8 := fun h => no_up h e8, F9 := fun h => ⟨(hR.F9 h).1, (hR.F9 h).2.1, Nat.lt_of_lt_of_le (hR.F9 h).2.2 (Only.size so)⟩, F9c := fun h k => ⟨cell_kept so (by simp) (hR.F9c h k).1, cell_kept so (by simp) (hR.F9c h k).2⟩, F10 := fun h => no_up h e10 }⟩
    refine StepsFrom.cons (i := 1) (j := 2) rfl ?_ ?_
    · intro bt v g W hR hb hd hcl K hK
      simp only [putAll, Act.put, List.setIfInBounds_toArray, List.set_cons_zero, List.set_cons_succ]
      go_simp
      exact hK.out _ _ ⟨upv v 40 (.pointer (some ⟨p4, 0, none⟩)), g, (by simp only [putAll, Act.put, List.setIfInBounds_toArray, List.set_cons_zero, List.set_cons_succ, upv_at, Nat.reduceBEq, cond_false, cond_true]), { C1 := fun _ => rfl, C2 := hR.C2, C5 := hR.C5, C6 := hR.C6, O := hR.O, F0 := hR.F0, F3 := hR.F3, F4 := hR.F4, F7 := hR.F7, F8 := hR.F8, F9 := hR.F9, F9c := hR.F9c, F10 := hR.F10 }⟩
    refine StepsFrom.cons (i := 2) (j := 3) rfl ?_ ?_
    · intro bt v g W hR hb hd hcl K hK
      have c1 := hR.C1 (hd 1 (by kernel_rfl))
      simp only [putAll, Act.put, List.setIfInBounds_toArray, List.set_cons_zero, List.set_cons_succ, c1]
      have cc := hR.O.cell c0 (by simp)
      go_simp
      exact hK.out _ _ ⟨upv v 41 (.slice fa f.length fc), g, (by simp only [putAll, Act.put, List.setIfInBounds_toArray, List.set_cons_zero, List.set_cons_succ, upv_at, Nat.reduceBEq, cond_false, cond_true, c1]), { C1 := hR.C1, C2 := fun _ => rfl, C5 := hR.C5, C6 := hR.C6, O := hR.O, F0 := hR.F0, F3 := hR.F3, F4 := hR.F4, F7 := hR.F7, F8 := hR.F8, F9 := hR.F9, F9c := hR.F9c, F10 := hR.F10 }⟩
    refine StepsFrom.cons (i := 3) (j := 4) rfl ?_ ?_
    · intro bt v g W hR hb hd hcl K hK
      have c2 := hR.C2 (hd 2 (by kernel_rfl))
      have e8 := not_up hcl 8 3 (by kernel_rfl) hb
      have e10 := not_up hcl 10 3 (by kernel_rfl) hb
      have f0 := hR.F0 (hd 0 (by kernel_rfl))
      simp only [putAll, Act.put, List.setIfInBounds_toArray, List.set_cons_zero, List.set_cons_succ, f0, c2]
      rw [if_pos (by rfl)]
      refine wp_app0 _ _ 22 (by rfl) w2.heap.size 5 1 1 el_u8 (by rfl) rw_built (by rfl) (hf.kept0 hR.O) (bytes_one f) (by omega) (by omega) hR.O.size ?_
      intro vr W' own app
      rw [Nat.zero_add, List.nil_append] at own
      simp only [Act.put, List.setIfInBounds_toArray, List.set_cons_zero, List.set_cons_succ]
      have so := app.fresh
      have hne : bt 9 = true → RB vr ≠ some g.n9 := fun h hk => by have h1 := (app.blk _ hk).resolve_left (by simp [RB]); have := (hR.F9 h).2.2; omega
      exact hK.out _ _ ⟨upv v 42 (vr), { g with r1 := vr }, (by simp only [putAll, Act.put, List.setIfInBounds_toArray, List.set_cons_zero, List.set_cons_succ, upv_at, Nat.reduceBEq, cond_false, cond_true, f0, c2]), { C1 := hR.C1, C2 := hR.C2, C5 := hR.C5, C6 := hR.C6, O := hR.O.trans0 so, F0 := hR.F0, F3 := fun _ => ⟨rfl, own, hne⟩, F4 := hR.F4, F7 := fun h => ⟨(hR.F7 h).1, (hR.F7 h).2.1.only0 so, (hR.F7 h).2.2⟩, F8 := fun h => no_up h e8, F9 := fun h => ⟨(hR.F9 h).1, (hR.F9 h).2.1, Nat.lt_of_lt_of_le (hR.F9 h).2.2 (Only.size so)⟩, F9c := fun h k => ⟨cell_kept so (by simp) (hR.F9c h k).1, cell_kept so (by simp) (hR.F9c h k).2⟩, F10 := fun h => no_up h e10 }⟩
    refine StepsFrom.cons (i := 4) (j := 5) rfl ?_ ?_
    · intro bt v g W hR hb hd hcl K hK
      have e7 := not_up hcl 7 4 (by kernel_rfl) hb
      have e8 := not_up hcl 8 4 (by kernel_rfl) hb
      have e10 := not_up hcl 10 4 (by kernel_rfl) hb
      have so : Only [] W (W.alloc (Obj.cells #[] 5)) := (Only.refl [] W).alloc _
      simp only [putAll, Act.put, List.setIfInBounds_toArray, List.set_cons_zero, List.set_cons_succ]
      go_simp
      exact hK.out _ _ ⟨upv v 43 (.slice (some ⟨W.heap.size, 0, none⟩) 0 0), { g with g2 := W.heap.size }, (by simp only [putAll, Act.put, List.setIfInBounds_toArray, List.set_cons_zero, List.set_cons_succ, upv_at, Nat.reduceBEq, cond_false, cond_true]), { C1 := hR.C1, C2 := hR.C2, C5 := hR.C5, C6 := hR.C6, O := hR.O.trans0 so, F0 := hR.F0, F3 := fun h => ⟨(hR.F3 h).1, (hR.F3 h).2.1.only0 so, (hR.F3 h).2.2⟩, F4 := fun _ => rfl, F7 := fun h => no_up h e7, F8 := fun h => no_up h e8, F9 := fun h => ⟨(hR.F9 h).1, (hR.F9 h).2.1, Nat.lt_of_lt_of_le (hR.F9 h).2.2 (Only.size so)⟩, F9c := fun h k => ⟨cell_kept so (by simp) (hR.F9c h k).1, cell_kept so (by simp) (hR.F9c h k).2⟩, F10 := fun h => no_up h e10 }⟩
    refine StepsFrom.cons (i := 5) (j := 6) rfl ?_ ?_
    · intro bt v g W hR hb hd hcl K hK
      simp only [putAll, Act.put, List.setIfInBounds_toArray, List.set_cons_zero, List.set_cons_succ]
      go_simp
      exact hK.out _ _ ⟨upv v 44 (.pointer (some ⟨p4, 1, none⟩)), g, (by simp only [putAll, Act.put, List.setIfInBounds_toArray, List.set_cons_zero, List.set_cons_succ, upv_at, Nat.reduceBEq, cond_false, cond_true]), { C1 := hR.C1, C2 := hR.C2, C5 := fun _ => rfl, C6 := hR.C6, O := hR.O, F0 := hR.F0, F3 := hR.F3, F4 := hR.F4, F7 := hR.F7, F8 := hR.F8, F9 := hR.F9, F9c := hR.F9c, F10 := hR.F10 }⟩
    refine StepsFrom.cons (i := 6) (j := 7) rfl ?_ ?_
    · intro bt v g W hR hb hd hcl K hK
      have c5 := hR.C5 (hd 5 (by kernel_rfl))
      simp only [putAll, Act.put, List.setIfInBounds_toArray, List.set_cons_zero, List.set_cons_succ, c5]
      have cc := hR.O.cell c1 (by simp)
      go_simp
      exact hK.out _ _ ⟨upv v 45 (.slice la l.length lc), g, (by simp only [putAll, Act.put, List.setIfInBounds_toArray, List.set_cons_zero, List.set_cons_succ, upv_at, Nat.reduceBEq, cond_false, cond_true, c5]), { C1 := hR.C1, C2 := hR.C2, C5 := hR.C5, C6 := fun _ => rfl, O := hR.O, F0 := hR.F0, F3 := hR.F3, F4 := hR.F4, F7 := hR.F7, F8 := hR.F8, F9 := hR.F9, F9c := hR.F9c, F10 := hR.F10 }⟩
    refine StepsFrom.cons (i := 7) (j := 8) rfl ?_ ?_
    · intro bt v g W hR hb hd hcl K hK
      have c6 := hR.C6 (hd 6 (by kernel_rfl))
      have e8 := not_up hcl 8 7 (by kernel_rfl) hb
      have e10 := not_up hcl 10 7 (by kernel_rfl) hb
      have f0 := hR.F4 (hd 4 (by kernel_rfl))
      simp only [putAll, Act.put, List.setIfInBounds_toArray, List.set_cons_zero, List.set_cons_succ, f0, c6]
      rw [if_pos (by rfl)]
      refine wp_app0 _ _ 22 (by rfl) w2.heap.size 5 1 1 el_u8 (by rfl) rw_built (by rfl) (hl.kept0 hR.O) (bytes_one l) (by omega) (by omega) hR.O.size ?_
      intro vr W' own app
      rw [Nat.zero_add, List.nil_append] at own
      simp only [Act.put, List.setIfInBounds_toArray, List.set_cons_zero, List.set_cons_succ]
      have so := app.fresh
      have hne : bt 9 = true → RB vr ≠ some g.n9 := fun h hk => by have h1 := (app.blk _ hk).resolve_left (by simp [RB]); have := (hR.F9 h).2.2; omega
      exact hK.out _ _ ⟨upv v 46 (vr), { g with r2 := vr }, (by simp only [putAll, Act.put, List.setIfInBounds_toArray, List.set_cons_zero, List.set_cons_succ, upv_at, Nat.reduceBEq, cond_false, cond_true, f0, c6]), { C1 := hR.C1, C2 := hR.C2, C5 := hR.C5, C6 := hR.C6, O := hR.O.trans0 so, F0 := hR.F0, F3 := fun h => ⟨(hR.F3 h).1, (hR.F3 h).2.1.only0 so, (hR.F3 h).2.2⟩, F4 := hR.F4, F7 := fun _ => ⟨rfl, own, hne⟩, F8 := fun h => no_up h e8, F9 := fun h => ⟨(hR.F9 h).1, (hR.F9 h).2.1, Nat.lt_of_lt_of_le (hR.F9 h).2.2 (Only.size so)⟩, F9c := fun h k => ⟨cell_kept so (by simp) (hR.F9c h k).1, cell_kept so (by simp) (hR.F9c h k).2⟩, F10 := fun h => no_up h e10 }⟩
    refine StepsFrom.cons (i := 8) (j := 9) rfl ?_ ?_
    · intro bt v g W hR hb hd hcl K hK
      have f3 := hR.F3 (hd 3 (by kernel_rfl))
      have f7 := hR.F7 (hd 7 (by kernel_rfl))
      have hform := f3.2.1.form'
      have hform2 := f7.2.1.form'
      have f31 := f3.1.trans hform
      have f71 := f7.1.trans hform2
      have HF := hid hform
      have HF2 := hid hform2
      clear f3 f7 hform hform2
      simp only [putAll, Act.put, List.setIfInBounds_toArray, List.set_cons_zero, List.set_cons_succ, f31, f71]
      go_simp
      exact hK.out _ _ ⟨upv v 47 (.agg #[.slice (ra g.r1) f.length (rc g.r1), .slice (ra g.r2) l.length (rc g.r2)]), g, (by simp only [putAll, Act.put, List.setIfInBounds_toArray, List.set_cons_zero, List.set_cons_succ, upv_at, Nat.reduceBEq, cond_false, cond_true, f31, f71]), { C1 := hR.C1, C2 := hR.C2, C5 := hR.C5, C6 := hR.C6, O := hR.O, F0 := hR.F0, F3 := hR.F3, F4 := hR.F4, F7 := hR.F7, F8 := fun _ => congrArg (fun z => Value.agg z) (by rw [← HF.out, ← HF2.out]), F9 := hR.F9, F9c := hR.F9c, F10 := hR.F10 }⟩
    refine StepsFrom.cons (i := 9) (j := 10) rfl ?_ ?_
    · intro bt v g W hR hb hd hcl K hK
      have e10 := not_up hcl 10 9 (by kernel_rfl) hb
      have so : Only [] W (W.alloc (Obj.cells #[.slice none 0 0, .slice none 0 0] 26)) := (Only.refl [] W).alloc _
      simp only [putAll, Act.put, List.setIfInBounds_toArray, List.set_cons_zero, List.set_cons_succ]
      go_simp
      exact hK.out _ _ ⟨upv v 9 (.pointer (some ⟨W.heap.size, 0, none⟩)), { g with n9 := W.heap.size }, (by simp only [putAll, Act.put, List.setIfInBounds_toArray, List.set_cons_zero, List.set_cons_succ, upv_at, Nat.reduceBEq, cond_false, cond_true]), { C1 := hR.C1, C2 := hR.C2, C5 := hR.C5, C6 := hR.C6, O := hR.O.trans0 so, F0 := hR.F0, F3 := fun h => ⟨(hR.F3 h).1, (hR.F3 h).2.1.only0 so, fun _ hk => by have := ((hR.F3 h).2.1.lt _ hk).2; exact absurd this (Nat.lt_irrefl _)⟩, F4 := hR.F4, F7 := fun h => ⟨(hR.F7 h).1, (hR.F7 h).2.1.only0 so, fun _ hk => by have := ((hR.F7 h).2.1.lt _ hk).2; exact absurd this (Nat.lt_irrefl _)⟩, F8 := hR.F8, F9 := fun _ => ⟨rfl, hR.O.size, by simp⟩, F9c := fun _ _ => ⟨⟨by simp [go_sem], by simp [go_sem]⟩, ⟨by simp [go_sem], by simp [go_sem]⟩⟩, F10 := fun h => no_up h e10 }⟩
    refine StepsFrom.cons (i := 10) (j := 11) rfl ?_ ?_
    · intro bt v g W hR hb hd hcl K hK
      have u9 := hd 9 (by kernel_rfl)
      have f9 := hR.F9 u9
      have f91 := f9.1
      have f3 := hR.F3 (hd 3 (by kernel_rfl))
      have f7 := hR.F7 (hd 7 (by kernel_rfl))
      have f9c := hR.F9c u9 hb
      have z0 := f9c.1.1
      have z1 := f9c.1.2
      have z2 := f9c.2.1
      have z3 := f9c.2.2
      clear f9c
      have hform := f3.2.1.form'
      have hform2 := f7.2.1.form'
      have f8 : v 47 = dskV (.slice (ra g.r1) f.length (rc g.r1)) (.slice (ra g.r2) l.length (rc g.r2)) := by rw [← hform, ← hform2]; exact hR.F8 (hd 8 (by kernel_rfl))
      have HF := hid hform
      have HF2 := hid hform2
      have HF3 := hid f3
      have HF7 := hid f7
      have HF9 := hid f9
      clear hform hform2 f3 f7 f9
      simp only [putAll, Act.put, List.setIfInBounds_toArray, List.set_cons_zero, List.set_cons_succ, f91, f8]
      go_simp
      have so : Only [g.n9] W ((W.setCell ⟨g.n9, 0, none⟩ (.slice (ra g.r1) f.length (rc g.r1))).setCell ⟨g.n9, 1, none⟩ (.slice (ra g.r2) l.length (rc g.r2))) := ((Only.refl _ W).setCell (.inl (by simp)) _).setCell (.inl (by simp)) _
      exact hK.out _ _ ⟨v, g, (by simp only [putAll, Act.put, List.setIfInBounds_toArray, List.set_cons_zero, List.set_cons_succ, upv_at, Nat.reduceBEq, cond_false, cond_true, f91, f8]), { C1 := hR.C1, C2 := hR.C2, C5 := hR.C5, C6 := hR.C6, O := hR.O.trans so (by simp) (fun k hk => .inr (by rw [List.mem_singleton.1 hk]; exact HF9.out.2.1)), F0 := hR.F0, F3 := fun h => ⟨HF3.out.1, HF3.out.2.1.only so (fun k hk hm => HF3.out.2.2 u9 (by rw [hk, List.mem_singleton.1 hm])), HF3.out.2.2⟩, F4 := hR.F4, F7 := fun h => ⟨HF7.out.1, HF7.out.2.1.only so (fun k hk hm => HF7.out.2.2 u9 (by rw [hk, List.mem_singleton.1 hm])), HF7.out.2.2⟩, F8 := hR.F8, F9 := fun _ => ⟨f91, HF9.out.2.1, Nat.lt_of_lt_of_le HF9.out.2.2 so.size⟩, F9c := fun _ h => no_up rfl h, F10 := fun _ => ⟨by rw [← HF.out]; simp [go_sem, z0, z1, z2, z3], by rw [← HF2.out]; simp [go_sem, z0, z1, z2, z3]⟩ }⟩
    exact StepsFrom.nil
  case fin =>
    intro bt v g W hR hall
    have c1 := hR.C1 (hall 1 rfl)
    have c2 := hR.C2 (hall 2 rfl)
    have c5 := hR.C5 (hall 5 rfl)
    have c6 := hR.C6 (hall 6 rfl)
    have f3 := hR.F3 (hall 3 rfl)
    have f7 := hR.F7 (hall 7 rfl)
    have f9 := hR.F9 (hall 9 rfl)
    have f91 := f9.1
    have f10 := hR.F10 (hall 10 rfl)
    have hx := f3.2.1.form'
    have hy := f7.2.1.form'
    have b3 := f3.2.1.bs rfl rfl (by omega)
    have b7 := f7.2.1.bs rfl rfl (by omega)
    have d1 := f10.1.trans (congrArg some hx)
    have d2 := f10.2.trans (congrArg some hy)
    rw [hx] at b3
    rw [hy] at b7
    simp only [putAll, Act.put, List.setIfInBounds_toArray, List.set_cons_zero, List.set_cons_succ, f91, c1, c2, c5, c6]
    exact hfin.out g.n9 _ _ _ _ _ _ _ _ _ W hR.O f9.2.1 d1 d2 b3 b7
end Go.Proofs.Ytlcfmocojakhpaa.Sh
