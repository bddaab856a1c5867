/- Bytes are written to the disk, and it is opened, by the program and by the document: one region that draws its order. (Printed by gen_jplay5.py.) -/
import Derived.Test.YtlcfmocojakhpaaReadJ
import Derived.Test.YtlcfmocojakhpaaLists
import Derived.Test.YtlcfmocojakhpaaAppZero
import Derived.Test.YtlcfmocojakhpaaRegInv
namespace Go.Proofs.Ytlcfmocojakhpaa.Sh
open Go Go.RowKit

/-- The records of bytes are few, and short. -/
theorem all_few (z : List UInt8) : (allL z).1.length ≤ z.length ∧ (z.take (allL z).2).length ≤ z.length ∧ ∀ r ∈ (allL z).1, r.length ≤ 1000 := by
  have h1 := allL_le z.length z (Nat.le_refl _)
  have h2 := allL_flat z.length z (Nat.le_refl _)
  exact ⟨by omega, by simp; omega, fun r hr => (h2.2 r hr).2⟩
theorem crashL_len (f l : List UInt8) (keep : Int) (torn : UInt8) : (crashL f l keep torn).length ≤ f.length + l.length := by
  unfold crashL
  split <;> simp <;> omega

/-- A log opened, and a row that is none of its blocks. -/
def Half (a W : World) (x : Nat) (f : List UInt8) (rs : List (List UInt8)) (v : Value) : Prop :=
  ∃ bs, Lg W x f [] rs bs ∧ (∀ k ∈ bs, a.heap.size ≤ k ∧ k < W.heap.size) ∧ ∀ k, RB v = some k → k ∉ bs
theorem Half.open {a W W' : World} {x : Nat} {f : List UInt8} {rs : List (List UInt8)} {v : Value} (h : Lg W' x f [] rs (newBs W W')) (ho : Only [] a W) (hv : ∀ k, RB v = some k → k < W.heap.size) : Half a W' x f rs v := by
  refine ⟨_, h, fun k hk => ?_, fun k hk hm => ?_⟩
  · have := mem_newBs.1 hk
    have := ho.size
    omega
  · have := mem_newBs.1 hm
    have := hv k hk
    omega
theorem Half.any {a W W' : World} {x : Nat} {f : List UInt8} {rs : List (List UInt8)} {v v' : Value} (h : Half a W x f rs v) (ho : Only [] W W') (hv : RB v' = none) : Half a W' x f rs v' := by
  obtain ⟨bs, h1, h2, _⟩ := h
  refine ⟨bs, h1.kept0 ho, fun k hk => ?_, fun k hk hm => ?_⟩
  · have := h2 k hk
    have := ho.size
    omega
  · rw [hv] at hk
    cases hk
theorem Half.app {a W W' : World} {x : Nat} {f : List UInt8} {rs : List (List UInt8)} {v v' : Value} (h : Half a W x f rs v) (k : App0 W W' v v') : Half a W' x f rs v' := by
  obtain ⟨bs, h1, h2, h3⟩ := h
  have hs := k.grown.size
  refine ⟨bs, h1.only (ds := (RB v).toList) ?_ (fun j hj hm => ?_), fun j hj => ?_, fun j hj hm => ?_⟩
  · exact (Only.refl _ W).app0 k (fun i hi => .inl (by simp [hi]))
  · exact h3 j (by simpa using hj) hm
  · have := h2 j hj
    omega
  · rcases k.blk j hj with h | h
    · exact h3 j h hm
    · have := h2 j hm
      omega
theorem Half.two {w a W V : World} {x y : Nat} {f : List UInt8} {rs : List (List UInt8)} {v : Value} (h : Half a W x f rs v) (h0 : Only [] w a) (h1 : Only [] a W) (o3 : Only [] W V) (h2 : RLg V y f [] rs (newBs W V)) : Two w V x y f [] rs := by
  obtain ⟨bs, g1, g2, _⟩ := h
  have s0 := h0.size
  have s1 := h1.size
  have s3 := o3.size
  refine ⟨bs, _, g1.kept0 o3, h2, fun k hk => ?_, fun k hk => ?_, fun k hk hk2 => ?_, (h0.trans0 h1).trans0 o3⟩
  · have := g2 k hk; omega
  · have := mem_newBs.1 hk; omega
  · have := g2 k hk; have := mem_newBs.1 hk2; omega

/-- Bytes in one of some blocks. -/
def Yd (W : World) (bs : List Nat) (v : Value) (l : List UInt8) : Prop := Bs W v l ∧ ∀ k, v.ownBlock = some k → k ∈ bs
theorem Yd.only {W W' : World} {bs ds : List Nat} {v : Value} {l : List UInt8} (h : Yd W bs v l) (ho : Only ds W W') (hd : ∀ k ∈ ds, k ∉ bs) : Yd W' bs v l := ⟨h.1.kept ho (fun b hb hm => hd b hm (h.2 b hb)), h.2⟩
theorem Yd.fresh {W W' : World} {v : Value} {l : List UInt8} (h : Fresh W W' v l) (hl : l.length ≤ 9223372036854775807) : Yd W' (newBs W W') v l := ⟨h.bs hl, fun k hk => mem_newBs.2 (h.lt k hk)⟩
/-- In a drawn region: the blocks of what one chain of calls has at hand; the row that the other one appends to. -/
structure Rg (a W : World) (bs : List Nat) (v : Value) : Prop where
  o : Only [] a W
  blk : ∀ k ∈ bs, a.heap.size ≤ k ∧ k < W.heap.size
  row : ∀ k, RB v = some k → (a.heap.size ≤ k ∧ k < W.heap.size) ∧ k ∉ bs
theorem Rg.start {a : World} : Rg a a.drew [] (.slice none 0 0) := ⟨(Only.refl [] a).drew, by simp, fun k hk => by simp [RB] at hk⟩
theorem Rg.kept {a W W' : World} {bs : List Nat} {v : Value} (h : Rg a W bs v) (ho : Only [] W W') : Rg a W' bs v := by
  have := ho.size
  exact ⟨h.o.trans0 ho, fun k hk => by have := h.blk k hk; omega, fun k hk => ⟨by have := (h.row k hk).1; omega, (h.row k hk).2⟩⟩
theorem Rg.call {a W W' : World} {bs : List Nat} {v : Value} (h : Rg a W bs v) (ho : Only [] W W') : Rg a W' (newBs W W') v := by
  have s1 := ho.size
  have s2 := h.o.size
  exact ⟨h.o.trans0 ho, fun k hk => by have := mem_newBs.1 hk; omega, fun k hk => ⟨by have := (h.row k hk).1; omega, fun hm => by have := mem_newBs.1 hm; have := (h.row k hk).1; omega⟩⟩
theorem Rg.new {a W : World} {bs : List Nat} {v v' : Value} (h : Rg a W bs v) (hn : RB v' = none) : Rg a W bs v' := ⟨h.o, h.blk, fun k hk => by rw [hn] at hk; cases hk⟩
theorem Rg.ds {a W W' : World} {bs : List Nat} {v v' : Value} (h : Rg a W bs v) (k : App0 W W' v v') : Only (RB v).toList W W' ∧ ∀ j ∈ (RB v).toList, j ∉ bs :=
  ⟨(Only.refl _ W).app0 k (fun i hi => .inl (by simp [hi])), fun j hj => (h.row j (by simpa using hj)).2⟩
theorem Rg.app {a W W' : World} {bs : List Nat} {v v' : Value} (h : Rg a W bs v) (k : App0 W W' v v') (hl : ∀ j, RB v' = some j → a.heap.size ≤ j ∧ j < W'.heap.size) : Rg a W' bs v' := by
  have hs := k.grown.size
  refine ⟨h.o.app0 k (fun i hi => .inr (h.row i hi).1.1), fun j hj => by have := h.blk j hj; omega, fun j hj => ⟨hl j hj, fun hm => ?_⟩⟩
  rcases k.blk j hj with h1 | h1
  · exact (h.row j h1).2 hm
  · have := h.blk j hm; omega

/-- The region of a number in code. -/
def findReg (n : Nat) : Code → Option Code
  | .region i ops b => if i = n then some (.region i ops b) else none
  | .seq a b => match findReg n a with
    | some c => some c
    | none => findReg n b
  | .block _ c => findReg n c
  | .scope c => findReg n c
  | .loop c => findReg n c
  | .cond _ a b => match findReg n a with
    | some c => some c
    | none => findReg n b
  | _ => none
noncomputable def plays22 : Code := (Try.f6.body.bind (findReg 22)).getD .skip
structure J5G where
  bs : List Nat
  r : Value
  fv : Value
  lv : Value
  x' : Nat
  y' : Nat
structure J5 (w wA : World) (x y p8 : Nat) (f l b : List UInt8) (ba : Option Addr) (bc : Nat) (ya yc : Option Addr) (yb yd : Nat) (F' : List UInt8) (rs' : List (List UInt8)) (bt : Nat → Bool) (v : Nat → Value) (g : J5G) (W : World) : Prop where
  C0 : bt 0 = true → v 117 = .pointer (some ⟨x, 0, none⟩)
  C2 : bt 2 = true → v 119 = .pointer (some ⟨p8, 3, none⟩)
  C3 : bt 3 = true → v 120 = .slice ba b.length bc
  C6 : bt 6 = true → v 123 = .pointer (some ⟨y, 0, none⟩)
  C7 : bt 7 = true → v 124 = .pointer (some ⟨y, 0, none⟩)
  C8 : bt 8 = true → v 125 = .pointer (some ⟨y, 0, none⟩)
  C9 : bt 9 = true → v 126 = .pointer (some ⟨y, 0, none⟩)
  C10 : bt 10 = true → v 127 = .slice ya f.length yb
  C12 : bt 12 = true → v 129 = .pointer (some ⟨y, 0, none⟩)
  C13 : bt 13 = true → v 130 = .pointer (some ⟨y, 0, none⟩)
  C14 : bt 14 = true → v 131 = .pointer (some ⟨y, 0, none⟩)
  C15 : bt 15 = true → v 132 = .pointer (some ⟨y, 1, none⟩)
  C16 : bt 16 = true → v 133 = .slice yc l.length yd
  C18 : bt 18 = true → v 135 = .pointer (some ⟨p8, 3, none⟩)
  C19 : bt 19 = true → v 136 = .slice ba b.length bc
  G : Rg wA W g.bs g.r
  F1 : bt 1 = true → bt 4 = false → v 118 = dskV g.fv g.lv ∧ Yd W g.bs g.fv f ∧ Yd W g.bs g.lv l
  F4 : bt 4 = true → bt 5 = false → v 121 = dskV g.fv g.lv ∧ Yd W g.bs g.fv f ∧ Yd W g.bs g.lv (l ++ b)
  F5 : bt 5 = true → v 122 = .pointer (some ⟨g.x', 0, none⟩) ∧ Lg W g.x' F' [] rs' g.bs
  F11 : bt 11 = true → bt 17 = false → v 128 = g.r ∧ Rw W wA.heap.size 5 1 g.r 0 []
  F17 : bt 17 = true → bt 20 = false → v 134 = g.r ∧ Rw W wA.heap.size 5 1 g.r l.length (bytes l)
  F20 : bt 20 = true → v 137 = g.r ∧ Rw W wA.heap.size 5 1 g.r (l.length + b.length) (bytes l ++ bytes b)
  F21 : bt 21 = true → v 138 = dskV (.slice ya f.length yb) g.r
  F22 : bt 22 = true → v 139 = .pointer (some ⟨g.y', 0, none⟩) ∧ Two w W g.x' g.y' F' [] rs'
  F23 : bt 23 = true → v 5 = .pointer (some ⟨g.x', 0, none⟩)
  F24 : bt 24 = true → v 6 = .pointer (some ⟨g.y', 0, none⟩)
  D5 : bt 23 = false → v 5 = .pointer (some ⟨x, 0, none⟩)
  D6 : bt 24 = false → v 6 = .pointer (some ⟨y, 0, none⟩)

set_option maxRecDepth 100000 in
set_option maxHeartbeats 6400000 in
theorem plays5 (Q : Exit → Act → World → Prop) (w wA : World) (x y p8 : Nat) (f l b : List UInt8) (rs : List (List UInt8)) (ba : Option Addr) (bc : Nat) (ya yc : Option Addr) (yb yd : Nat) (u0 u1 u2 u3 u4 u7 u9 u10 u11 u12 u13 u14 u15 u16 u17 u18 u19 u20 u21 u22 u23 u24 u25 u26 u27 u28 u29 u30 u31 u32 u33 u34 u35 u36 u37 u38 u39 u40 u41 u42 u43 u44 u45 u46 u47 u48 u49 u50 u51 u52 u53 u54 u55 u56 u57 u58 u59 u60 u61 u62 u63 u64 u65 u66 u67 u68 u69 u70 u71 u72 u73 u74 u75 u76 u77 u78 u79 u80 u81 u82 u83 u84 u85 u86 u87 u88 u89 u90 u91 u92 u93 u94 u95 u96 u97 u98 u99 u100 u101 u102 u103 u104 u105 u106 u107 u108 u109 u110 u111 u112 u113 u114 u115 u116 u117 u118 u119 u120 u121 u122 u123 u124 u125 u126 u127 u128 u129 u130 u131 u132 u133 u134 u135 u136 u137 u138 u139 u140 u141 u142 u143 u144 u145 u146 u147 u148 u149 u150 u151 u152 u153 u154 u155 u156 u157 u158 u159 u160 u161 u162 u163 u164 u165 u166 u167 u168 u169 u170 u171 u172 u173 : Value)
    (TA : Two w wA x y f l rs) (q3 : wA.cell? ⟨p8, 3, none⟩ = some (.slice ba b.length bc)) (hbA : Bs wA (.slice ba b.length bc) b)
    (y0 : wA.cell? ⟨y, 0, none⟩ = some (.slice ya f.length yb)) (y1 : wA.cell? ⟨y, 1, none⟩ = some (.slice yc l.length yd)) (yB1 : Bs wA (.slice ya f.length yb) f) (yB2 : Bs wA (.slice yc l.length yd) l)
    (hfl : f.length + l.length + b.length ≤ 3000) (F' : List UInt8) (rs' : List (List UInt8)) (hF' : F' = (f ++ (l ++ b)).take (allL (f ++ (l ++ b))).2) (hrs' : rs' = (allL (f ++ (l ++ b))).1)
    (hfin : ∀ (x' y' : Nat) (v118 v121 v128 v134 v137 v138 : Value) (W : World), Two w W x' y' F' [] rs' → Q .normal ⟨#[u0, u1, u2, u3, u4, .pointer (some ⟨x', 0, none⟩), .pointer (some ⟨y', 0, none⟩), u7, .pointer (some ⟨p8, 0, none⟩), u9, u10, u11, u12, u13, u14, u15, u16, u17, u18, u19, u20, u21, u22, u23, u24, u25, u26, u27, u28, u29, u30, u31, u32, u33, u34, u35, u36, u37, u38, u39, u40, u41, u42, u43, u44, u45, u46, u47, u48, u49, u50, u51, u52, u53, u54, u55, u56, u57, u58, u59, u60, u61, u62, u63, u64, u65, u66, u67, u68, u69, u70, u71, u72, u73, u74, u75, u76, u77, u78, u79, u80, u81, u82, u83, u84, u85, u86, u87, u88, u89, u90, u91, u92, u93, u94, u95, u96, u97, u98, u99, u100, u101, u102, u103, u104, u105, u106, u107, u108, u109, u110, u111, u112, u113, u114, u115, u116, .pointer (some ⟨x, 0, none⟩), v118, .pointer (some ⟨p8, 3, none⟩), .slice ba b.length bc, v121, .pointer (some ⟨x', 0, none⟩), .pointer (some ⟨y, 0, none⟩), .pointer (some ⟨y, 0, none⟩), .pointer (some ⟨y, 0, none⟩), .pointer (some ⟨y, 0, none⟩), .slice ya f.length yb, v128, .pointer (some ⟨y, 0, none⟩), .pointer (some ⟨y, 0, none⟩), .pointer (some ⟨y, 0, none⟩), .pointer (some ⟨y, 1, none⟩), .slice yc l.length yd, v134, .pointer (some ⟨p8, 3, none⟩), .slice ba b.length bc, v137, v138, .pointer (some ⟨y', 0, none⟩), u140, u141, u142, u143, u144, u145, u146, u147, u148, u149, u150, u151, u152, u153, u154, u155, u156, u157, u158, u159, u160, u161, u162, u163, u164, u165, u166, u167, u168, u169, u170, u171, u172, u173], []⟩ W) :
    plays22.wp Try.prog Q ⟨#[u0, u1, u2, u3, u4, .pointer (some ⟨x, 0, none⟩), .pointer (some ⟨y, 0, none⟩), u7, .pointer (some ⟨p8, 0, none⟩), u9, u10, u11, u12, u13, u14, u15, u16, u17, u18, u19, u20, u21, u22, u23, u24, u25, u26, u27, u28, u29, u30, u31, u32, u33, u34, u35, u36, u37, u38, u39, u40, u41, u42, u43, u44, u45, u46, u47, u48, u49, u50, u51, u52, u53, u54, u55, u56, u57, u58, u59, u60, u61, u62, u63, u64, u65, u66, u67, u68, u69, u70, u71, u72, u73, u74, u75, u76, u77, u78, u79, u80, u81, u82, u83, u84, u85, u86, u87, u88, u89, u90, u91, u92, u93, u94, u95, u96, u97, u98, u99, u100, u101, u102, u103, u104, u105, u106, u107, u108, u109, u110, u111, u112, u113, u114, u115, u116, u117, u118, u119, u120, u121, u122, u123, u124, u125, u126, u127, u128, u129, u130, u131, u132, u133, u134, u135, u136, u137, u138, u139, u140, u141, u142, u143, u144, u145, u146, u147, u148, u149, u150, u151, u152, u153, u154, u155, u156, u157, u158, u159, u160, u161, u162, u163, u164, u165, u166, u167, u168, u169, u170, u171, u172, u173], []⟩ wA := by
  have di := hid (fun W (hk : Only [] wA W) => ndisk_any w W x _ _ _ (TA.kept0 hk).lgn (by omega))
  have wri := hid (fun W fv lv (hF : Bs W fv f) (hL : Bs W lv l) (hk : Only [] wA W) => write_any W fv lv _ f l b hF hL (hbA.kept0 hk) (by omega))
  have hf5 : f.length ≤ 3000 := by omega
  have hl5 : l.length ≤ 3000 := by omega
  have hb5 : b.length ≤ 3000 := by omega
  have op := fun W fv lv (hF : Bs W fv f) (hL : Bs W lv (l ++ b)) => open_any W fv lv f (l ++ b) hF hL (by rw [List.length_append]; omega)
  have rop := fun W lv (hk : Only [] wA W) (hL : Bs W lv (l ++ b)) => ropen_any W _ lv f (l ++ b) (yB1.kept0 hk) hL (by rw [List.length_append]; omega)
  simp only [← hF', ← hrs'] at op rop
  replace op := hid op
  replace rop := hid rop
  clear hF' hrs'
  replace hfin := hid hfin
  conv => arg 2; whnf
  refine wp_region_inv [117, 118, 119, 120, 121, 122, 123, 124, 125, 126, 127, 128, 129, 130, 131, 132, 133, 134, 135, 136, 137, 138, 139, 5, 6] (J5 w wA x y p8 f l b ba bc ya yc yb yd F' rs') (by kernel_rfl) (by kernel_rfl) ⟨[], .slice none 0 0, undef, undef, 0, 0⟩ ?start ?fin ?steps
  case start =>
    exact { C0 := fun h => no_up h rfl, C2 := fun h => no_up h rfl, C3 := fun h => no_up h rfl, C6 := fun h => no_up h rfl, C7 := fun h => no_up h rfl, C8 := fun h => no_up h rfl, C9 := fun h => no_up h rfl, C10 := fun h => no_up h rfl, C12 := fun h => no_up h rfl, C13 := fun h => no_up h rfl, C14 := fun h => no_up h rfl, C15 := fun h => no_up h rfl, C16 := fun h => no_up h rfl, C18 := fun h => no_up h rfl, C19 := fun h => no_up h rfl, G := Rg.start, F1 := fun h => no_up h rfl, F4 := fun h => no_up h rfl, F5 := fun h => no_up h rfl, F11 := fun h => no_up h rfl, F17 := fun h => no_up h rfl, F20 := fun h => no_up h rfl, F21 := fun h => no_up h rfl, F22 := fun h => no_up h rfl, F23 := fun h => no_up h rfl, F24 := fun h => no_up h rfl, D5 := fun _ => rfl, D6 := fun _ => rfl }
  case steps =>
    refine StepsFrom.cons (i := 0) (j := 1) rfl ?_ ?_
    · intro bt v g W hR hb hd hcl K hK
      have e23 := not_up hcl 23 0 (by kernel_rfl) hb
      have d5 := hR.D5 e23
      simp only [putAll, Act.put, List.setIfInBounds_toArray, List.set_cons_zero, List.set_cons_succ, d5]
      go_simp
      exact hK.out _ _ ⟨upv v 117 (.pointer (some ⟨x, 0, none⟩)), g, (by simp only [putAll, Act.put, List.setIfInBounds_toArray, List.set_cons_zero, List.set_cons_succ, upv_at, Nat.reduceBEq, cond_false, cond_true, d5]), { C0 := fun _ => rfl, C2 := hR.C2, C3 := hR.C3, C6 := hR.C6, C7 := hR.C7, C8 := hR.C8, C9 := hR.C9, C10 := hR.C10, C12 := hR.C12, C13 := hR.C13, C14 := hR.C14, C15 := hR.C15, C16 := hR.C16, C18 := hR.C18, C19 := hR.C19, G := hR.G, F1 := hR.F1, F4 := hR.F4, F5 := hR.F5, F11 := hR.F11, F17 := hR.F17, F20 := hR.F20, F21 := hR.F21, F22 := hR.F22, F23 := hR.F23, F24 := hR.F24, D5 := hR.D5, D6 := hR.D6 }⟩
    refine StepsFrom.cons (i := 1) (j := 2) rfl ?_ ?_
    · intro bt v g W hR hb hd hcl K hK
      have c0 := hR.C0 (hd 0 (by kernel_rfl))
      have e4 := not_up hcl 4 1 (by kernel_rfl) hb
      have e5 := not_up hcl 5 1 (by kernel_rfl) hb
      have e22 := not_up hcl 22 1 (by kernel_rfl) hb
      have e23 := not_up hcl 23 1 (by kernel_rfl) hb
      have e24 := not_up hcl 24 1 (by kernel_rfl) hb
      simp only [putAll, Act.put, List.setIfInBounds_toArray, List.set_cons_zero, List.set_cons_succ, c0]
      go_simp
      refine (di.out _ hR.G.o).mono ?_
      rintro e W' ⟨dfv, dlv, rfl, hdf, hdl, s1⟩
      go_wp2_with fail
      exact hK.out _ _ ⟨upv v 118 (dskV dfv dlv), { g with bs := newBs W W', fv := dfv, lv := dlv }, (by simp only [putAll, Act.put, List.setIfInBounds_toArray, List.set_cons_zero, List.set_cons_succ, upv_at, Nat.reduceBEq, cond_false, cond_true, c0]), { C0 := hR.C0, C2 := hR.C2, C3 := hR.C3, C6 := hR.C6, C7 := hR.C7, C8 := hR.C8, C9 := hR.C9, C10 := hR.C10, C12 := hR.C12, C13 := hR.C13, C14 := hR.C14, C15 := hR.C15, C16 := hR.C16, C18 := hR.C18, C19 := hR.C19, G := hR.G.call s1, F1 := fun _ _ => ⟨rfl, Yd.fresh hdf (by omega), Yd.fresh hdl (by omega)⟩, F4 := fun h => no_up h e4, F5 := fun h => no_up h e5, F11 := fun h k => ⟨(hR.F11 h k).1, (hR.F11 h k).2.only0 s1⟩, F17 := fun h k => ⟨(hR.F17 h k).1, (hR.F17 h k).2.only0 s1⟩, F20 := fun h => ⟨(hR.F20 h).1, (hR.F20 h).2.only0 s1⟩, F21 := hR.F21, F22 := fun h => no_up h e22, F23 := fun h => no_up h e23, F24 := fun h => no_up h e24, D5 := hR.D5, D6 := hR.D6 }⟩
    refine StepsFrom.cons (i := 2) (j := 3) rfl ?_ ?_
    · intro bt v g W hR hb hd hcl K hK
      simp only [putAll, Act.put, List.setIfInBounds_toArray, List.set_cons_zero, List.set_cons_succ]
      go_simp
      exact hK.out _ _ ⟨upv v 119 (.pointer (some ⟨p8, 3, none⟩)), g, (by simp only [putAll, Act.put, List.setIfInBounds_toArray, List.set_cons_zero, List.set_cons_succ, upv_at, Nat.reduceBEq, cond_false, cond_true]), { C0 := hR.C0, C2 := fun _ => rfl, C3 := hR.C3, C6 := hR.C6, C7 := hR.C7, C8 := hR.C8, C9 := hR.C9, C10 := hR.C10, C12 := hR.C12, C13 := hR.C13, C14 := hR.C14, C15 := hR.C15, C16 := hR.C16, C18 := hR.C18, C19 := hR.C19, G := hR.G, F1 := hR.F1, F4 := hR.F4, F5 := hR.F5, F11 := hR.F11, F17 := hR.F17, F20 := hR.F20, F21 := hR.F21, F22 := hR.F22, F23 := hR.F23, F24 := hR.F24, D5 := hR.D5, D6 := hR.D6 }⟩
    refine StepsFrom.cons (i := 3) (j := 4) rfl ?_ ?_
    · intro bt v g W hR hb hd hcl K hK
      have c2 := hR.C2 (hd 2 (by kernel_rfl))
      simp only [putAll, Act.put, List.setIfInBounds_toArray, List.set_cons_zero, List.set_cons_succ, c2]
      have cc := hR.G.o.cell q3 (by simp)
      go_simp
      exact hK.out _ _ ⟨upv v 120 (.slice ba b.length bc), g, (by simp only [putAll, Act.put, List.setIfInBounds_toArray, List.set_cons_zero, List.set_cons_succ, upv_at, Nat.reduceBEq, cond_false, cond_true, c2]), { C0 := hR.C0, C2 := hR.C2, C3 := fun _ => rfl, C6 := hR.C6, C7 := hR.C7, C8 := hR.C8, C9 := hR.C9, C10 := hR.C10, C12 := hR.C12, C13 := hR.C13, C14 := hR.C14, C15 := hR.C15, C16 := hR.C16, C18 := hR.C18, C19 := hR.C19, G := hR.G, F1 := hR.F1, F4 := hR.F4, F5 := hR.F5, F11 := hR.F11, F17 := hR.F17, F20 := hR.F20, F21 := hR.F21, F22 := hR.F22, F23 := hR.F23, F24 := hR.F24, D5 := hR.D5, D6 := hR.D6 }⟩
    refine StepsFrom.cons (i := 4) (j := 5) rfl ?_ ?_
    · intro bt v g W hR hb hd hcl K hK
      have c3 := hR.C3 (hd 3 (by kernel_rfl))
      have e5 := not_up hcl 5 4 (by kernel_rfl) hb
      have e22 := not_up hcl 22 4 (by kernel_rfl) hb
      have f1 := hR.F1 (hd 1 (by kernel_rfl)) hb
      have f11 := f1.1
      simp only [putAll, Act.put, List.setIfInBounds_toArray, List.set_cons_zero, List.set_cons_succ, f11, c3]
      go_simp
      refine (wri.out _ _ _ f1.2.1.1 f1.2.2.1 hR.G.o).mono ?_
      rintro e W' ⟨cfv, clv, rfl, hcf, hcv, s2⟩
      go_wp2_with fail
      exact hK.out _ _ ⟨upv v 121 (dskV cfv clv), { g with bs := newBs W W', fv := cfv, lv := clv }, (by simp only [putAll, Act.put, List.setIfInBounds_toArray, List.set_cons_zero, List.set_cons_succ, upv_at, Nat.reduceBEq, cond_false, cond_true, f11, c3]), { C0 := hR.C0, C2 := hR.C2, C3 := hR.C3, C6 := hR.C6, C7 := hR.C7, C8 := hR.C8, C9 := hR.C9, C10 := hR.C10, C12 := hR.C12, C13 := hR.C13, C14 := hR.C14, C15 := hR.C15, C16 := hR.C16, C18 := hR.C18, C19 := hR.C19, G := hR.G.call s2, F1 := fun _ h => no_up rfl h, F4 := fun _ _ => ⟨rfl, Yd.fresh hcf (by omega), Yd.fresh hcv (by rw [List.length_append]; omega)⟩, F5 := fun h => no_up h e5, F11 := fun h k => ⟨(hR.F11 h k).1, (hR.F11 h k).2.only0 s2⟩, F17 := fun h k => ⟨(hR.F17 h k).1, (hR.F17 h k).2.only0 s2⟩, F20 := fun h => ⟨(hR.F20 h).1, (hR.F20 h).2.only0 s2⟩, F21 := hR.F21, F22 := fun h => no_up h e22, F23 := hR.F23, F24 := hR.F24, D5 := hR.D5, D6 := hR.D6 }⟩
    refine StepsFrom.cons (i := 5) (j := 6) rfl ?_ ?_
    · intro bt v g W hR hb hd hcl K hK
      have e22 := not_up hcl 22 5 (by kernel_rfl) hb
      have e23 := not_up hcl 23 5 (by kernel_rfl) hb
      have u4 := hd 4 (by kernel_rfl)
      have f4 := hR.F4 u4 hb
      have f41 := f4.1
      simp only [putAll, Act.put, List.setIfInBounds_toArray, List.set_cons_zero, List.set_cons_succ, f41]
      go_simp
      refine (op.out _ _ _ f4.2.1.1 f4.2.2.1).mono ?_
      rintro e W' ⟨x1, rfl, hL3, s3⟩
      go_wp2_with fail
      exact hK.out _ _ ⟨upv v 122 (.pointer (some ⟨x1, 0, none⟩)), { g with bs := newBs W W', x' := x1 }, (by simp only [putAll, Act.put, List.setIfInBounds_toArray, List.set_cons_zero, List.set_cons_succ, upv_at, Nat.reduceBEq, cond_false, cond_true, f41]), { C0 := hR.C0, C2 := hR.C2, C3 := hR.C3, C6 := hR.C6, C7 := hR.C7, C8 := hR.C8, C9 := hR.C9, C10 := hR.C10, C12 := hR.C12, C13 := hR.C13, C14 := hR.C14, C15 := hR.C15, C16 := hR.C16, C18 := hR.C18, C19 := hR.C19, G := hR.G.call s3, F1 := fun _ h => no_up u4 h, F4 := fun _ h => no_up rfl h, F5 := fun _ => ⟨rfl, hL3⟩, F11 := fun h k => ⟨(hR.F11 h k).1, (hR.F11 h k).2.only0 s3⟩, F17 := fun h k => ⟨(hR.F17 h k).1, (hR.F17 h k).2.only0 s3⟩, F20 := fun h => ⟨(hR.F20 h).1, (hR.F20 h).2.only0 s3⟩, F21 := hR.F21, F22 := fun h => no_up h e22, F23 := fun h => no_up h e23, F24 := hR.F24, D5 := hR.D5, D6 := hR.D6 }⟩
    refine StepsFrom.cons (i := 6) (j := 7) rfl ?_ ?_
    · intro bt v g W hR hb hd hcl K hK
      have e24 := not_up hcl 24 6 (by kernel_rfl) hb
      have d6 := hR.D6 e24
      simp only [putAll, Act.put, List.setIfInBounds_toArray, List.set_cons_zero, List.set_cons_succ, d6]
      go_simp
      exact hK.out _ _ ⟨upv v 123 (.pointer (some ⟨y, 0, none⟩)), g, (by simp only [putAll, Act.put, List.setIfInBounds_toArray, List.set_cons_zero, List.set_cons_succ, upv_at, Nat.reduceBEq, cond_false, cond_true, d6]), { C0 := hR.C0, C2 := hR.C2, C3 := hR.C3, C6 := fun _ => rfl, C7 := hR.C7, C8 := hR.C8, C9 := hR.C9, C10 := hR.C10, C12 := hR.C12, C13 := hR.C13, C14 := hR.C14, C15 := hR.C15, C16 := hR.C16, C18 := hR.C18, C19 := hR.C19, G := hR.G, F1 := hR.F1, F4 := hR.F4, F5 := hR.F5, F11 := hR.F11, F17 := hR.F17, F20 := hR.F20, F21 := hR.F21, F22 := hR.F22, F23 := hR.F23, F24 := hR.F24, D5 := hR.D5, D6 := hR.D6 }⟩
    refine StepsFrom.cons (i := 7) (j := 8) rfl ?_ ?_
    · intro bt v g W hR hb hd hcl K hK
      have c6 := hR.C6 (hd 6 (by kernel_rfl))
      simp only [putAll, Act.put, List.setIfInBounds_toArray, List.set_cons_zero, List.set_cons_succ, c6]
      go_simp
      exact hK.out _ _ ⟨upv v 124 (.pointer (some ⟨y, 0, none⟩)), g, (by simp only [putAll, Act.put, List.setIfInBounds_toArray, List.set_cons_zero, List.set_cons_succ, upv_at, Nat.reduceBEq, cond_false, cond_true, c6]), { C0 := hR.C0, C2 := hR.C2, C3 := hR.C3, C6 := hR.C6, C7 := fun _ => rfl, C8 := hR.C8, C9 := hR.C9, C10 := hR.C10, C12 := hR.C12, C13 := hR.C13, C14 := hR.C14, C15 := hR.C15, C16 := hR.C16, C18 := hR.C18, C19 := hR.C19, G := hR.G, F1 := hR.F1, F4 := hR.F4, F5 := hR.F5, F11 := hR.F11, F17 := hR.F17, F20 := hR.F20, F21 := hR.F21, F22 := hR.F22, F23 := hR.F23, F24 := hR.F24, D5 := hR.D5, D6 := hR.D6 }⟩
    refine StepsFrom.cons (i := 8) (j := 9) rfl ?_ ?_
    · intro bt v g W hR hb hd hcl K hK
      have c7 := hR.C7 (hd 7 (by kernel_rfl))
      simp only [putAll, Act.put, List.setIfInBounds_toArray, List.set_cons_zero, List.set_cons_succ, c7]
      go_simp
      exact hK.out _ _ ⟨upv v 125 (.pointer (some ⟨y, 0, none⟩)), g, (by simp only [putAll, Act.put, List.setIfInBounds_toArray, List.set_cons_zero, List.set_cons_succ, upv_at, Nat.reduceBEq, cond_false, cond_true, c7]), { C0 := hR.C0, C2 := hR.C2, C3 := hR.C3, C6 := hR.C6, C7 := hR.C7, C8 := fun _ => rfl, C9 := hR.C9, C10 := hR.C10, C12 := hR.C12, C13 := hR.C13, C14 := hR.C14, C15 := hR.C15, C16 := hR.C16, C18 := hR.C18, C19 := hR.C19, G := hR.G, F1 := hR.F1, F4 := hR.F4, F5 := hR.F5, F11 := hR.F11, F17 := hR.F17, F20 := hR.F20, F21 := hR.F21, F22 := hR.F22, F23 := hR.F23, F24 := hR.F24, D5 := hR.D5, D6 := hR.D6 }⟩
    refine StepsFrom.cons (i := 9) (j := 10) rfl ?_ ?_
    · intro bt v g W hR hb hd hcl K hK
      have c8 := hR.C8 (hd 8 (by kernel_rfl))
      simp only [putAll, Act.put, List.setIfInBounds_toArray, List.set_cons_zero, List.set_cons_succ, c8]
      go_simp
      exact hK.out _ _ ⟨upv v 126 (.pointer (some ⟨y, 0, none⟩)), g, (by simp only [putAll, Act.put, List.setIfInBounds_toArray, List.set_cons_zero, List.set_cons_succ, upv_at, Nat.reduceBEq, cond_false, cond_true, c8]), { C0 := hR.C0, C2 := hR.C2, C3 := hR.C3, C6 := hR.C6, C7 := hR.C7, C8 := hR.C8, C9 := fun _ => rfl, C10 := hR.C10, C12 := hR.C12, C13 := hR.C13, C14 := hR.C14, C15 := hR.C15, C16 := hR.C16, C18 := hR.C18, C19 := hR.C19, G := hR.G, F1 := hR.F1, F4 := hR.F4, F5 := hR.F5, F11 := hR.F11, F17 := hR.F17, F20 := hR.F20, F21 := hR.F21, F22 := hR.F22, F23 := hR.F23, F24 := hR.F24, D5 := hR.D5, D6 := hR.D6 }⟩
    refine StepsFrom.cons (i := 10) (j := 11) rfl ?_ ?_
    · intro bt v g W hR hb hd hcl K hK
      have c9 := hR.C9 (hd 9 (by kernel_rfl))
      simp only [putAll, Act.put, List.setIfInBounds_toArray, List.set_cons_zero, List.set_cons_succ, c9]
      have cc := hR.G.o.cell y0 (by simp)
      go_simp
      exact hK.out _ _ ⟨upv v 127 (.slice ya f.length yb), g, (by simp only [putAll, Act.put, List.setIfInBounds_toArray, List.set_cons_zero, List.set_cons_succ, upv_at, Nat.reduceBEq, cond_false, cond_true, c9]), { C0 := hR.C0, C2 := hR.C2, C3 := hR.C3, C6 := hR.C6, C7 := hR.C7, C8 := hR.C8, C9 := hR.C9, C10 := fun _ => rfl, C12 := hR.C12, C13 := hR.C13, C14 := hR.C14, C15 := hR.C15, C16 := hR.C16, C18 := hR.C18, C19 := hR.C19, G := hR.G, F1 := hR.F1, F4 := hR.F4, F5 := hR.F5, F11 := hR.F11, F17 := hR.F17, F20 := hR.F20, F21 := hR.F21, F22 := hR.F22, F23 := hR.F23, F24 := hR.F24, D5 := hR.D5, D6 := hR.D6 }⟩
    refine StepsFrom.cons (i := 11) (j := 12) rfl ?_ ?_
    · intro bt v g W hR hb hd hcl K hK
      have e17 := not_up hcl 17 11 (by kernel_rfl) hb
      have e20 := not_up hcl 20 11 (by kernel_rfl) hb
      have e21 := not_up hcl 21 11 (by kernel_rfl) hb
      have e22 := not_up hcl 22 11 (by kernel_rfl) hb
      have so : Only [] W (W.alloc (Obj.cells #[] 5)) := (Only.refl [] W).alloc _
      simp only [putAll, Act.put, List.setIfInBounds_toArray, List.set_cons_zero, List.set_cons_succ]
      go_simp
      exact hK.out _ _ ⟨upv v 128 (.slice (some ⟨W.heap.size, 0, none⟩) 0 0), { g with r := .slice (some ⟨W.heap.size, 0, none⟩) 0 0 }, (by simp only [putAll, Act.put, List.setIfInBounds_toArray, List.set_cons_zero, List.set_cons_succ, upv_at, Nat.reduceBEq, cond_false, cond_true]), { C0 := hR.C0, C2 := hR.C2, C3 := hR.C3, C6 := hR.C6, C7 := hR.C7, C8 := hR.C8, C9 := hR.C9, C10 := hR.C10, C12 := hR.C12, C13 := hR.C13, C14 := hR.C14, C15 := hR.C15, C16 := hR.C16, C18 := hR.C18, C19 := hR.C19, G := (hR.G.kept so).new rfl, F1 := fun h k => ⟨(hR.F1 h k).1, (hR.F1 h k).2.1.only so (by simp), (hR.F1 h k).2.2.only so (by simp)⟩, F4 := fun h k => ⟨(hR.F4 h k).1, (hR.F4 h k).2.1.only so (by simp), (hR.F4 h k).2.2.only so (by simp)⟩, F5 := fun h => ⟨(hR.F5 h).1, (hR.F5 h).2.kept0 so⟩, F11 := fun _ _ => ⟨rfl, rw_built⟩, F17 := fun h => no_up h e17, F20 := fun h => no_up h e20, F21 := fun h => no_up h e21, F22 := fun h => no_up h e22, F23 := hR.F23, F24 := hR.F24, D5 := hR.D5, D6 := hR.D6 }⟩
    refine StepsFrom.cons (i := 12) (j := 13) rfl ?_ ?_
    · intro bt v g W hR hb hd hcl K hK
      have e24 := not_up hcl 24 12 (by kernel_rfl) hb
      have d6 := hR.D6 e24
      simp only [putAll, Act.put, List.setIfInBounds_toArray, List.set_cons_zero, List.set_cons_succ, d6]
      go_simp
      exact hK.out _ _ ⟨upv v 129 (.pointer (some ⟨y, 0, none⟩)), g, (by simp only [putAll, Act.put, List.setIfInBounds_toArray, List.set_cons_zero, List.set_cons_succ, upv_at, Nat.reduceBEq, cond_false, cond_true, d6]), { C0 := hR.C0, C2 := hR.C2, C3 := hR.C3, C6 := hR.C6, C7 := hR.C7, C8 := hR.C8, C9 := hR.C9, C10 := hR.C10, C12 := fun _ => rfl, C13 := hR.C13, C14 := hR.C14, C15 := hR.C15, C16 := hR.C16, C18 := hR.C18, C19 := hR.C19, G := hR.G, F1 := hR.F1, F4 := hR.F4, F5 := hR.F5, F11 := hR.F11, F17 := hR.F17, F20 := hR.F20, F21 := hR.F21, F22 := hR.F22, F23 := hR.F23, F24 := hR.F24, D5 := hR.D5, D6 := hR.D6 }⟩
    refine StepsFrom.cons (i := 13) (j := 14) rfl ?_ ?_
    · intro bt v g W hR hb hd hcl K hK
      have c12 := hR.C12 (hd 12 (by kernel_rfl))
      simp only [putAll, Act.put, List.setIfInBounds_toArray, List.set_cons_zero, List.set_cons_succ, c12]
      go_simp
      exact hK.out _ _ ⟨upv v 130 (.pointer (some ⟨y, 0, none⟩)), g, (by simp only [putAll, Act.put, List.setIfInBounds_toArray, List.set_cons_zero, List.set_cons_succ, upv_at, Nat.reduceBEq, cond_false, cond_true, c12]), { C0 := hR.C0, C2 := hR.C2, C3 := hR.C3, C6 := hR.C6, C7 := hR.C7, C8 := hR.C8, C9 := hR.C9, C10 := hR.C10, C12 := hR.C12, C13 := fun _ => rfl, C14 := hR.C14, C15 := hR.C15, C16 := hR.C16, C18 := hR.C18, C19 := hR.C19, G := hR.G, F1 := hR.F1, F4 := hR.F4, F5 := hR.F5, F11 := hR.F11, F17 := hR.F17, F20 := hR.F20, F21 := hR.F21, F22 := hR.F22, F23 := hR.F23, F24 := hR.F24, D5 := hR.D5, D6 := hR.D6 }⟩
    refine StepsFrom.cons (i := 14) (j := 15) rfl ?_ ?_
    · intro bt v g W hR hb hd hcl K hK
      have c13 := hR.C13 (hd 13 (by kernel_rfl))
      simp only [putAll, Act.put, List.setIfInBounds_toArray, List.set_cons_zero, List.set_cons_succ, c13]
      go_simp
      exact hK.out _ _ ⟨upv v 131 (.pointer (some ⟨y, 0, none⟩)), g, (by simp only [putAll, Act.put, List.setIfInBounds_toArray, List.set_cons_zero, List.set_cons_succ, upv_at, Nat.reduceBEq, cond_false, cond_true, c13]), { C0 := hR.C0, C2 := hR.C2, C3 := hR.C3, C6 := hR.C6, C7 := hR.C7, C8 := hR.C8, C9 := hR.C9, C10 := hR.C10, C12 := hR.C12, C13 := hR.C13, C14 := fun _ => rfl, C15 := hR.C15, C16 := hR.C16, C18 := hR.C18, C19 := hR.C19, G := hR.G, F1 := hR.F1, F4 := hR.F4, F5 := hR.F5, F11 := hR.F11, F17 := hR.F17, F20 := hR.F20, F21 := hR.F21, F22 := hR.F22, F23 := hR.F23, F24 := hR.F24, D5 := hR.D5, D6 := hR.D6 }⟩
    refine StepsFrom.cons (i := 15) (j := 16) rfl ?_ ?_
    · intro bt v g W hR hb hd hcl K hK
      have c14 := hR.C14 (hd 14 (by kernel_rfl))
      simp only [putAll, Act.put, List.setIfInBounds_toArray, List.set_cons_zero, List.set_cons_succ, c14]
      go_simp
      exact hK.out _ _ ⟨upv v 132 (.pointer (some ⟨y, 1, none⟩)), g, (by simp only [putAll, Act.put, List.setIfInBounds_toArray, List.set_cons_zero, List.set_cons_succ, upv_at, Nat.reduceBEq, cond_false, cond_true, c14]), { C0 := hR.C0, C2 := hR.C2, C3 := hR.C3, C6 := hR.C6, C7 := hR.C7, C8 := hR.C8, C9 := hR.C9, C10 := hR.C10, C12 := hR.C12, C13 := hR.C13, C14 := hR.C14, C15 := fun _ => rfl, C16 := hR.C16, C18 := hR.C18, C19 := hR.C19, G := hR.G, F1 := hR.F1, F4 := hR.F4, F5 := hR.F5, F11 := hR.F11, F17 := hR.F17, F20 := hR.F20, F21 := hR.F21, F22 := hR.F22, F23 := hR.F23, F24 := hR.F24, D5 := hR.D5, D6 := hR.D6 }⟩
    refine StepsFrom.cons (i := 16) (j := 17) rfl ?_ ?_
    · intro bt v g W hR hb hd hcl K hK
      have c15 := hR.C15 (hd 15 (by kernel_rfl))
      simp only [putAll, Act.put, List.setIfInBounds_toArray, List.set_cons_zero, List.set_cons_succ, c15]
      have cc := hR.G.o.cell y1 (by simp)
      go_simp
      exact hK.out _ _ ⟨upv v 133 (.slice yc l.length yd), g, (by simp only [putAll, Act.put, List.setIfInBounds_toArray, List.set_cons_zero, List.set_cons_succ, upv_at, Nat.reduceBEq, cond_false, cond_true, c15]), { C0 := hR.C0, C2 := hR.C2, C3 := hR.C3, C6 := hR.C6, C7 := hR.C7, C8 := hR.C8, C9 := hR.C9, C10 := hR.C10, C12 := hR.C12, C13 := hR.C13, C14 := hR.C14, C15 := hR.C15, C16 := fun _ => rfl, C18 := hR.C18, C19 := hR.C19, G := hR.G, F1 := hR.F1, F4 := hR.F4, F5 := hR.F5, F11 := hR.F11, F17 := hR.F17, F20 := hR.F20, F21 := hR.F21, F22 := hR.F22, F23 := hR.F23, F24 := hR.F24, D5 := hR.D5, D6 := hR.D6 }⟩
    refine StepsFrom.cons (i := 17) (j := 18) rfl ?_ ?_
    · intro bt v g W hR hb hd hcl K hK
      have c16 := hR.C16 (hd 16 (by kernel_rfl))
      have e20 := not_up hcl 20 17 (by kernel_rfl) hb
      have e21 := not_up hcl 21 17 (by kernel_rfl) hb
      have e22 := not_up hcl 22 17 (by kernel_rfl) hb
      have f11 := hR.F11 (hd 11 (by kernel_rfl)) hb
      have f111 := f11.1
      simp only [putAll, Act.put, List.setIfInBounds_toArray, List.set_cons_zero, List.set_cons_succ, f111, c16]
      rw [if_pos (by rfl)]
      refine wp_app0 _ _ 22 (by rfl) wA.heap.size 5 1 1 el_u8 (by rfl) f11.2 (by rfl) (yB2.kept0 hR.G.o) (bytes_one l) (by omega) (by omega) hR.G.o.size ?_
      intro vr W' own app
      rw [Nat.zero_add, List.nil_append] at own
      simp only [Act.put, List.setIfInBounds_toArray, List.set_cons_zero, List.set_cons_succ]
      exact hK.out _ _ ⟨upv v 134 (vr), { g with r := vr }, (by simp only [putAll, Act.put, List.setIfInBounds_toArray, List.set_cons_zero, List.set_cons_succ, upv_at, Nat.reduceBEq, cond_false, cond_true, f111, c16]), { C0 := hR.C0, C2 := hR.C2, C3 := hR.C3, C6 := hR.C6, C7 := hR.C7, C8 := hR.C8, C9 := hR.C9, C10 := hR.C10, C12 := hR.C12, C13 := hR.C13, C14 := hR.C14, C15 := hR.C15, C16 := hR.C16, C18 := hR.C18, C19 := hR.C19, G := hR.G.app app own.lt, F1 := fun h k => ⟨(hR.F1 h k).1, (hR.F1 h k).2.1.only (hR.G.ds app).1 (hR.G.ds app).2, (hR.F1 h k).2.2.only (hR.G.ds app).1 (hR.G.ds app).2⟩, F4 := fun h k => ⟨(hR.F4 h k).1, (hR.F4 h k).2.1.only (hR.G.ds app).1 (hR.G.ds app).2, (hR.F4 h k).2.2.only (hR.G.ds app).1 (hR.G.ds app).2⟩, F5 := fun h => ⟨(hR.F5 h).1, (hR.F5 h).2.only (hR.G.ds app).1 (hR.G.ds app).2⟩, F11 := fun _ h => no_up rfl h, F17 := fun _ _ => ⟨rfl, own⟩, F20 := fun h => no_up h e20, F21 := fun h => no_up h e21, F22 := fun h => no_up h e22, F23 := hR.F23, F24 := hR.F24, D5 := hR.D5, D6 := hR.D6 }⟩
    refine StepsFrom.cons (i := 18) (j := 19) rfl ?_ ?_
    · intro bt v g W hR hb hd hcl K hK
      simp only [putAll, Act.put, List.setIfInBounds_toArray, List.set_cons_zero, List.set_cons_succ]
      go_simp
      exact hK.out _ _ ⟨upv v 135 (.pointer (some ⟨p8, 3, none⟩)), g, (by simp only [putAll, Act.put, List.setIfInBounds_toArray, List.set_cons_zero, List.set_cons_succ, upv_at, Nat.reduceBEq, cond_false, cond_true]), { C0 := hR.C0, C2 := hR.C2, C3 := hR.C3, C6 := hR.C6, C7 := hR.C7, C8 := hR.C8, C9 := hR.C9, C10 := hR.C10, C12 := hR.C12, C13 := hR.C13, C14 := hR.C14, C15 := hR.C15, C16 := hR.C16, C18 := fun _ => rfl, C19 := hR.C19, G := hR.G, F1 := hR.F1, F4 := hR.F4, F5 := hR.F5, F11 := hR.F11, F17 := hR.F17, F20 := hR.F20, F21 := hR.F21, F22 := hR.F22, F23 := hR.F23, F24 := hR.F24, D5 := hR.D5, D6 := hR.D6 }⟩
    refine StepsFrom.cons (i := 19) (j := 20) rfl ?_ ?_
    · intro bt v g W hR hb hd hcl K hK
      have c18 := hR.C18 (hd 18 (by kernel_rfl))
      simp only [putAll, Act.put, List.setIfInBounds_toArray, List.set_cons_zero, List.set_cons_succ, c18]
      have cc := hR.G.o.cell q3 (by simp)
      go_simp
      exact hK.out _ _ ⟨upv v 136 (.slice ba b.length bc), g, (by simp only [putAll, Act.put, List.setIfInBounds_toArray, List.set_cons_zero, List.set_cons_succ, upv_at, Nat.reduceBEq, cond_false, cond_true, c18]), { C0 := hR.C0, C2 := hR.C2, C3 := hR.C3, C6 := hR.C6, C7 := hR.C7, C8 := hR.C8, C9 := hR.C9, C10 := hR.C10, C12 := hR.C12, C13 := hR.C13, C14 := hR.C14, C15 := hR.C15, C16 := hR.C16, C18 := hR.C18, C19 := fun _ => rfl, G := hR.G, F1 := hR.F1, F4 := hR.F4, F5 := hR.F5, F11 := hR.F11, F17 := hR.F17, F20 := hR.F20, F21 := hR.F21, F22 := hR.F22, F23 := hR.F23, F24 := hR.F24, D5 := hR.D5, D6 := hR.D6 }⟩
    refine StepsFrom.cons (i := 20) (j := 21) rfl ?_ ?_
    · intro bt v g W hR hb hd hcl K hK
      have c19 := hR.C19 (hd 19 (by kernel_rfl))
      have e21 := not_up hcl 21 20 (by kernel_rfl) hb
      have e22 := not_up hcl 22 20 (by kernel_rfl) hb
      have u17 := hd 17 (by kernel_rfl)
      have f17 := hR.F17 u17 hb
      have f171 := f17.1
      simp only [putAll, Act.put, List.setIfInBounds_toArray, List.set_cons_zero, List.set_cons_succ, f171, c19]
      rw [if_pos (by rfl)]
      refine wp_app0 _ _ 22 (by rfl) wA.heap.size 5 1 1 el_u8 (by rfl) f17.2 (by rfl) (hbA.kept0 hR.G.o) (bytes_one b) (by omega) (by omega) hR.G.o.size ?_
      intro vr W' own app
      simp only [Act.put, List.setIfInBounds_toArray, List.set_cons_zero, List.set_cons_succ]
      exact hK.out _ _ ⟨upv v 137 (vr), { g with r := vr }, (by simp only [putAll, Act.put, List.setIfInBounds_toArray, List.set_cons_zero, List.set_cons_succ, upv_at, Nat.reduceBEq, cond_false, cond_true, f171, c19]), { C0 := hR.C0, C2 := hR.C2, C3 := hR.C3, C6 := hR.C6, C7 := hR.C7, C8 := hR.C8, C9 := hR.C9, C10 := hR.C10, C12 := hR.C12, C13 := hR.C13, C14 := hR.C14, C15 := hR.C15, C16 := hR.C16, C18 := hR.C18, C19 := hR.C19, G := hR.G.app app own.lt, F1 := fun h k => ⟨(hR.F1 h k).1, (hR.F1 h k).2.1.only (hR.G.ds app).1 (hR.G.ds app).2, (hR.F1 h k).2.2.only (hR.G.ds app).1 (hR.G.ds app).2⟩, F4 := fun h k => ⟨(hR.F4 h k).1, (hR.F4 h k).2.1.only (hR.G.ds app).1 (hR.G.ds app).2, (hR.F4 h k).2.2.only (hR.G.ds app).1 (hR.G.ds app).2⟩, F5 := fun h => ⟨(hR.F5 h).1, (hR.F5 h).2.only (hR.G.ds app).1 (hR.G.ds app).2⟩, F11 := fun _ h => no_up u17 h, F17 := fun _ h => no_up rfl h, F20 := fun _ => ⟨rfl, own⟩, F21 := fun h => no_up h e21, F22 := fun h => no_up h e22, F23 := hR.F23, F24 := hR.F24, D5 := hR.D5, D6 := hR.D6 }⟩
    refine StepsFrom.cons (i := 21) (j := 22) rfl ?_ ?_
    · intro bt v g W hR hb hd hcl K hK
      have c10 := hR.C10 (hd 10 (by kernel_rfl))
      have f20 := hR.F20 (hd 20 (by kernel_rfl))
      have f201 := f20.1
      obtain ⟨xa, xn, xc, hform⟩ : ∃ xa xn xc, g.r = .slice xa xn xc := by obtain ⟨xa, xc, h9⟩ := f20.2.form; exact ⟨xa, _, xc, h9⟩
      have f202 := f201.trans hform
      simp only [putAll, Act.put, List.setIfInBounds_toArray, List.set_cons_zero, List.set_cons_succ, f202, c10]
      go_simp
      exact hK.out _ _ ⟨upv v 138 (.agg #[.slice ya f.length yb, .slice xa xn xc]), g, (by simp only [putAll, Act.put, List.setIfInBounds_toArray, List.set_cons_zero, List.set_cons_succ, upv_at, Nat.reduceBEq, cond_false, cond_true, f202, c10]), { C0 := hR.C0, C2 := hR.C2, C3 := hR.C3, C6 := hR.C6, C7 := hR.C7, C8 := hR.C8, C9 := hR.C9, C10 := hR.C10, C12 := hR.C12, C13 := hR.C13, C14 := hR.C14, C15 := hR.C15, C16 := hR.C16, C18 := hR.C18, C19 := hR.C19, G := hR.G, F1 := hR.F1, F4 := hR.F4, F5 := hR.F5, F11 := hR.F11, F17 := hR.F17, F20 := hR.F20, F21 := fun _ => by rw [hform]; rfl, F22 := hR.F22, F23 := hR.F23, F24 := hR.F24, D5 := hR.D5, D6 := hR.D6 }⟩
    refine StepsFrom.cons (i := 22) (j := 23) rfl ?_ ?_
    · intro bt v g W hR hb hd hcl K hK
      have e24 := not_up hcl 24 22 (by kernel_rfl) hb
      have f20 := hR.F20 (hd 20 (by kernel_rfl))
      have f21 := hR.F21 (hd 21 (by kernel_rfl))
      have f5 := hR.F5 (hd 5 (by kernel_rfl))
      have f51 := f5.1
      have f201 := f20.1
      simp only [putAll, Act.put, List.setIfInBounds_toArray, List.set_cons_zero, List.set_cons_succ, f21, f51, f201]
      go_simp
      refine (rop.out _ _ hR.G.o (f20.2.bs (by simp) (by simp) (by rw [List.length_append]; omega))).mono ?_
      rintro e W' ⟨y1', rfl, hRR, s5⟩
      go_wp2_with fail
      exact hK.out _ _ ⟨upv v 139 (.pointer (some ⟨y1', 0, none⟩)), { g with y' := y1' }, (by simp only [putAll, Act.put, List.setIfInBounds_toArray, List.set_cons_zero, List.set_cons_succ, upv_at, Nat.reduceBEq, cond_false, cond_true, f21, f51, f201]), { C0 := hR.C0, C2 := hR.C2, C3 := hR.C3, C6 := hR.C6, C7 := hR.C7, C8 := hR.C8, C9 := hR.C9, C10 := hR.C10, C12 := hR.C12, C13 := hR.C13, C14 := hR.C14, C15 := hR.C15, C16 := hR.C16, C18 := hR.C18, C19 := hR.C19, G := hR.G.kept s5, F1 := fun h k => ⟨(hR.F1 h k).1, (hR.F1 h k).2.1.only s5 (by simp), (hR.F1 h k).2.2.only s5 (by simp)⟩, F4 := fun h k => ⟨(hR.F4 h k).1, (hR.F4 h k).2.1.only s5 (by simp), (hR.F4 h k).2.2.only s5 (by simp)⟩, F5 := fun h => ⟨(hR.F5 h).1, (hR.F5 h).2.kept0 s5⟩, F11 := fun h k => ⟨(hR.F11 h k).1, (hR.F11 h k).2.only0 s5⟩, F17 := fun h k => ⟨(hR.F17 h k).1, (hR.F17 h k).2.only0 s5⟩, F20 := fun h => ⟨(hR.F20 h).1, (hR.F20 h).2.only0 s5⟩, F21 := hR.F21, F22 := fun _ => ⟨rfl, Half.two (v := g.r) ⟨g.bs, f5.2, hR.G.blk, fun k hk => (hR.G.row k hk).2⟩ TA.o hR.G.o s5 hRR⟩, F23 := hR.F23, F24 := fun h => no_up h e24, D5 := hR.D5, D6 := hR.D6 }⟩
    refine StepsFrom.cons (i := 23) (j := 24) rfl ?_ ?_
    · intro bt v g W hR hb hd hcl K hK
      have f5 := (hR.F5 (hd 5 (by kernel_rfl))).1
      simp only [putAll, Act.put, List.setIfInBounds_toArray, List.set_cons_zero, List.set_cons_succ, f5]
      go_simp
      exact hK.out _ _ ⟨upv v 5 (.pointer (some ⟨g.x', 0, none⟩)), g, (by simp only [putAll, Act.put, List.setIfInBounds_toArray, List.set_cons_zero, List.set_cons_succ, upv_at, Nat.reduceBEq, cond_false, cond_true, f5]), { C0 := hR.C0, C2 := hR.C2, C3 := hR.C3, C6 := hR.C6, C7 := hR.C7, C8 := hR.C8, C9 := hR.C9, C10 := hR.C10, C12 := hR.C12, C13 := hR.C13, C14 := hR.C14, C15 := hR.C15, C16 := hR.C16, C18 := hR.C18, C19 := hR.C19, G := hR.G, F1 := hR.F1, F4 := hR.F4, F5 := hR.F5, F11 := hR.F11, F17 := hR.F17, F20 := hR.F20, F21 := hR.F21, F22 := hR.F22, F23 := fun _ => rfl, F24 := hR.F24, D5 := fun h => no_up rfl h, D6 := hR.D6 }⟩
    refine StepsFrom.cons (i := 24) (j := 25) rfl ?_ ?_
    · intro bt v g W hR hb hd hcl K hK
      have f22 := (hR.F22 (hd 22 (by kernel_rfl))).1
      simp only [putAll, Act.put, List.setIfInBounds_toArray, List.set_cons_zero, List.set_cons_succ, f22]
      go_simp
      exact hK.out _ _ ⟨upv v 6 (.pointer (some ⟨g.y', 0, none⟩)), g, (by simp only [putAll, Act.put, List.setIfInBounds_toArray, List.set_cons_zero, List.set_cons_succ, upv_at, Nat.reduceBEq, cond_false, cond_true, f22]), { C0 := hR.C0, C2 := hR.C2, C3 := hR.C3, C6 := hR.C6, C7 := hR.C7, C8 := hR.C8, C9 := hR.C9, C10 := hR.C10, C12 := hR.C12, C13 := hR.C13, C14 := hR.C14, C15 := hR.C15, C16 := hR.C16, C18 := hR.C18, C19 := hR.C19, G := hR.G, F1 := hR.F1, F4 := hR.F4, F5 := hR.F5, F11 := hR.F11, F17 := hR.F17, F20 := hR.F20, F21 := hR.F21, F22 := hR.F22, F23 := hR.F23, F24 := fun _ => rfl, D5 := hR.D5, D6 := fun h => no_up rfl h }⟩
    exact StepsFrom.nil
  case fin =>
    intro bt v g W hR hall
    have c0 := hR.C0 (hall 0 rfl)
    have c2 := hR.C2 (hall 2 rfl)
    have c3 := hR.C3 (hall 3 rfl)
    have c6 := hR.C6 (hall 6 rfl)
    have c7 := hR.C7 (hall 7 rfl)
    have c8 := hR.C8 (hall 8 rfl)
    have c9 := hR.C9 (hall 9 rfl)
    have c10 := hR.C10 (hall 10 rfl)
    have c12 := hR.C12 (hall 12 rfl)
    have c13 := hR.C13 (hall 13 rfl)
    have c14 := hR.C14 (hall 14 rfl)
    have c15 := hR.C15 (hall 15 rfl)
    have c16 := hR.C16 (hall 16 rfl)
    have c18 := hR.C18 (hall 18 rfl)
    have c19 := hR.C19 (hall 19 rfl)
    have f5 := (hR.F5 (hall 5 rfl)).1
    have f22 := hR.F22 (hall 22 rfl)
    have f221 := f22.1
    have f23 := hR.F23 (hall 23 rfl)
    have f24 := hR.F24 (hall 24 rfl)
    simp only [putAll, Act.put, List.setIfInBounds_toArray, List.set_cons_zero, List.set_cons_succ, f5, f221, f23, f24, c0, c2, c3, c6, c7, c8, c9, c10, c12, c13, c14, c15, c16, c18, c19]
    exact hfin.out g.x' g.y' _ _ _ _ _ _ W f22.2
end Go.Proofs.Ytlcfmocojakhpaa.Sh
