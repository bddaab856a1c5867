/- Texts of this proof, merged: KrC, KrD, KrE. -/
import Derived.Test.YtnlmeaijnfjakaaZ5
import Derived.Test.YtnlmeaijnfjakaaRegInv
import Derived.Great.BuildSlice
/- The document's keeper of a share: the region that puts it behind the others, which draws its order. (Printed by gen_krc.py.) -/
namespace Go.Proofs.Ytnlmeaijnfjakaa.Sh
set_option linter.unusedSimpArgs false
set_option linter.unusedVariables false
open Go Go.RowKit

theorem build_got : ∀ (d : List UInt8), d.length = 32 → ∀ (a : Option Addr) (n c : Nat) (w : World), (Instr.build 127 #[(0, .agg (bytes d).toArray), (1, .slice a n c)]).run Try.prog w = .ok (.agg (bytes d ++ [Value.slice a n c]).toArray) w := fun d hd => match d, hd with
  | [x0, x1, x2, x3, x4, x5, x6, x7, x8, x9, y0, y1, y2, y3, y4, y5, y6, y7, y8, y9, z0, z1, z2, z3, z4, z5, z6, z7, z8, z9, u0, u1], _ => fun a n c w => by kernel_rfl
theorem el_got : El Try.prog 67 127 33 56 := by
  obtain ⟨i, z, h1, h2, h3, h4, h5⟩ : ∃ i z, Try.prog.info? 127 = some i ∧ i.zero = some z ∧ i.size = 33 ∧ i.bytes = 56 ∧ z.cells.size = 33 := by
    have h : (Try.prog.info? 127).map (fun i => (i.size, i.bytes, i.zero.map (·.cells.size))) = some (33, 56, some 33) := by kernel_rfl
    obtain ⟨i, hi, he⟩ := Option.map_eq_some_iff.1 h
    simp only [Prod.mk.injEq] at he
    obtain ⟨z, hz, hzs⟩ := Option.map_eq_some_iff.1 he.2.2
    exact ⟨i, z, hi, hz, he.1, he.2.1, hzs⟩
  exact ⟨Try.underlying67, ⟨i, z, h1, h2, h3, h4, h5⟩, by omega⟩
theorem wp_load_dig {o : Oper} {a : Act} {K : Act → World → Prop} {Q : Exit → Act → World → Prop} {w : World} (x : Operand) (ho : o.op = .load 35 x) (g : Nat) (d : List UInt8) (hd : d.length = 32) (hx : a.eval x = .pointer (some ⟨g, 0, none⟩)) (hr : w.rangeAt g 0 (bytes d))
    (h : K (a.put o.dst (.agg (bytes d).toArray)) w) : Oper.wp Try.prog o a w K Q := by
  have hl := run_loadVar_mid (P := Try.prog) w g 0 35 (bytes d) _ hr Try.underlying35 rfl (by rw [dig_info]; simp [bytes, hd])
  unfold Oper.wp execOp
  simp only [ho, hx, Instr.loadAt, Instr.sureAddr, Sem.run_bind, Sem.run_pure, Result.andThen_ok, hl]
  exact h
theorem wp_build_got {o : Oper} {a : Act} {K : Act → World → Prop} {Q : Exit → Act → World → Prop} {w : World} (x y : Operand) (ho : o.op = .build 127 #[(0, x), (1, y)]) (d : List UInt8) (hd : d.length = 32) (b : Option Addr) (n c : Nat) (hx : a.eval x = .agg (bytes d).toArray) (hy : a.eval y = .slice b n c)
    (h : K (a.put o.dst (.agg (bytes d ++ [Value.slice b n c]).toArray)) w) : Oper.wp Try.prog o a w K Q := by
  have hr := build_got d hd b n c w
  unfold Oper.wp execOp
  simp only [ho, hx, hy, hr, List.map_toArray, List.map_cons, List.map_nil, Sem.run_bind, Sem.run_pure, Result.andThen_ok]
  exact h
theorem wp_slice_got {o : Oper} {a : Act} {K : Act → World → Prop} {Q : Exit → Act → World → Prop} {w : World} (x : Operand) (ho : o.op = .buildSlice 67 1 #[(0, x)]) (cs : List Value) (hl : cs.length = 33) (hx : a.eval x = .agg cs.toArray)
    (h : K (a.put o.dst (.slice (some ⟨w.heap.size, 0, none⟩) 1 1)) (w.alloc (.cells cs.toArray 127))) : Oper.wp Try.prog o a w K Q := by
  obtain ⟨hu, ⟨i, z, h1, h2, h3, h4, h5⟩, _⟩ := el_got
  have hr := run_buildSlice (P := Try.prog) w 67 127 1 #[(0, .agg cs.toArray)] cs.toArray i z hu h1 h2 (by rw [h3]; omega) (by rw [h3]; omega) (by
    rw [h3]
    have := Go.Great.fill_whole (s := 33) (by omega) [.agg cs.toArray] ((Array.range (1 * 33)).map (z.cells[· % z.cells.size]!)) (fun v hv => by
      obtain rfl : v = .agg cs.toArray := by simpa using hv
      simp [Value.cells, hl]) (by simp)
    simpa [Value.cells] using this)
  unfold Oper.wp execOp
  simp only [ho, hx, hr, List.map_toArray, List.map_cons, List.map_nil, Sem.run_bind, Sem.run_pure, Result.andThen_ok]
  exact h
theorem Rw.other {w w' : World} {base e size : Nat} {u v v' : Value} {n : Nat} {xs : List Value} (h : Rw w base e size u n xs) (ha : App0 w w' v v') (hne : ∀ k, RB u = some k → RB v ≠ some k) : Rw w' base e size u n xs := by
  have ho : Only (RB v).toList w w' := (Only.refl _ w).app0 ha (fun k hk => .inl (by simp [hk]))
  exact h.only ho (fun k hk hm => hne k hk (by simpa using hm))
theorem rw_ne {w : World} {B B' e e' size size' : Nat} {u v : Value} {n n' : Nat} {xs ys : List Value} (h : Rw w B e size u n xs) (k : Rw w B' e' size' v n' ys) (hne : e ≠ e') : ∀ j, RB u = some j → RB v ≠ some j := by
  intro j hj hv
  rcases h with ⟨_, _, a, rfl⟩ | ⟨g, cap, rfl, h⟩
  · cases a <;> simp [RB] at hj
  · rcases k with ⟨_, _, a, rfl⟩ | ⟨g', cap', rfl, k⟩
    · cases a <;> simp [RB] at hv
    · have := own_ne h k hne
      simp [Value.ownBlock] at this
      simp [RB] at hj hv
      omega

noncomputable def keep10 : Code := (Try.f47.body.bind (findReg 10)).getD .skip
structure K10G where
  r1 : Value
  r2 : Value
  r3 : Value
  g1 : Nat
  g2 : Nat
  g3 : Nat
structure K10 (w2 : World) (y gd n : Nat) (la : Option Addr) (lc : Nat) (sa : Option Addr) (sc : Nat) (d s : List UInt8) (G : List Value) (bt : Nat → Bool) (v : Nat → Value) (g : K10G) (W : World) : Prop where
  C0 : bt 0 = true → v 41 = .pointer (some ⟨y, 0, none⟩)
  C2 : bt 2 = true → v 43 = .pointer (some ⟨y, 0, none⟩)
  C3 : bt 3 = true → v 44 = .pointer (some ⟨y, 0, none⟩)
  C4 : bt 4 = true → v 45 = .pointer (some ⟨y, 0, none⟩)
  C5 : bt 5 = true → v 46 = .slice la n lc
  C7 : bt 7 = true → v 48 = .agg (bytes d).toArray
  C9 : bt 9 = true → v 50 = .slice sa s.length sc
  C14 : bt 14 = true → v 55 = .pointer (some ⟨y, 0, none⟩)
  C15 : bt 15 = true → v 56 = .pointer (some ⟨y, 0, none⟩)
  O : Only [y] w2 W
  Y : bt 16 = false → W.cell? ⟨y, 0, none⟩ = some (.slice la n lc) ∧ W.frozen? ⟨y, 0, none⟩ = false
  YC : ∀ i, i ≠ 0 → W.cell? ⟨y, i, none⟩ = w2.cell? ⟨y, i, none⟩ ∧ W.frozen? ⟨y, i, none⟩ = w2.frozen? ⟨y, i, none⟩
  F1 : bt 1 = true → v 42 = .slice (some ⟨g.g1, 0, none⟩) 0 0
  F6 : bt 6 = true → bt 13 = false → v 47 = g.r1 ∧ Rw W w2.heap.size 127 33 g.r1 n G
  F8 : bt 8 = true → v 49 = .slice (some ⟨g.g2, 0, none⟩) 0 0
  F10 : bt 10 = true → v 51 = g.r2 ∧ Rw W w2.heap.size 5 1 g.r2 s.length (bytes s)
  F11 : bt 11 = true → v 52 = .agg (bytes d ++ [g.r2]).toArray
  F12 : bt 12 = true → bt 13 = false → v 53 = .slice (some ⟨g.g3, 0, none⟩) 1 1 ∧ W.rangeAt g.g3 0 (bytes d ++ [g.r2])
  F13 : bt 13 = true → v 54 = g.r3 ∧ Rw W w2.heap.size 127 33 g.r3 (n + 1) (G ++ (bytes d ++ [g.r2]))
  F16 : bt 16 = true → W.cell? ⟨y, 0, none⟩ = some g.r3 ∧ W.frozen? ⟨y, 0, none⟩ = false

set_option maxRecDepth 100000 in
set_option maxHeartbeats 6400000 in
theorem keep10_ok (Q : Exit → Act → World → Prop) (w2 : World) (y gd n : Nat) (la : Option Addr) (lc : Nat) (sa : Option Addr) (sc : Nat) (d s : List UInt8) (G : List Value) (u1 u3 u5 u6 u7 u8 u9 u10 u11 u12 u13 u14 u15 u16 u17 u18 u19 u20 u21 u22 u23 u24 u25 u26 u27 u28 u29 u30 u31 u32 u33 u34 u35 u36 u37 u38 u39 u40 u41 u42 u43 u44 u45 u46 u47 u48 u49 u50 u51 u52 u53 u54 u55 u56 : Value)
    (c0 : w2.cell? ⟨y, 0, none⟩ = some (.slice la n lc) ∧ w2.frozen? ⟨y, 0, none⟩ = false) (hL : Cs 33 w2 (.slice la n lc) n G) (hLy : ∀ b, (Value.slice la n lc).ownBlock = some b → b ≠ y) (hG : ∀ u ∈ G, u.oneCell' = true) (hn : n ≤ 1000) (hd32 : d.length = 32) (hr : w2.rangeAt gd 0 (bytes d)) (hgy : gd ≠ y) (hs : Bs w2 (.slice sa s.length sc) s) (hsy : ∀ b, (Value.slice sa s.length sc).ownBlock = some b → b ≠ y) (hsl : s.length ≤ 1000) (hy : y < w2.heap.size)
    (hfin : ∀ (r2 r3 : Value) (v42 v47 v49 v51 v52 v53 v54 : Value) (W : World), Only [y] w2 W → (∀ i, i ≠ 0 → W.cell? ⟨y, i, none⟩ = w2.cell? ⟨y, i, none⟩ ∧ W.frozen? ⟨y, i, none⟩ = w2.frozen? ⟨y, i, none⟩) → W.cell? ⟨y, 0, none⟩ = some r3 ∧ W.frozen? ⟨y, 0, none⟩ = false → Rw W w2.heap.size 127 33 r3 (n + 1) (G ++ (bytes d ++ [r2])) → Rw W w2.heap.size 5 1 r2 s.length (bytes s) →
      Q .normal ⟨#[.pointer (some ⟨y, 0, none⟩), u1, .slice sa s.length sc, u3, .pointer (some ⟨gd, 0, none⟩), u5, u6, u7, u8, u9, u10, u11, u12, u13, u14, u15, u16, u17, u18, u19, u20, u21, u22, u23, u24, u25, u26, u27, u28, u29, u30, u31, u32, u33, u34, u35, u36, u37, u38, u39, u40, .pointer (some ⟨y, 0, none⟩), v42, .pointer (some ⟨y, 0, none⟩), .pointer (some ⟨y, 0, none⟩), .pointer (some ⟨y, 0, none⟩), .slice la n lc, v47, .agg (bytes d).toArray, v49, .slice sa s.length sc, v51, v52, v53, v54, .pointer (some ⟨y, 0, none⟩), .pointer (some ⟨y, 0, none⟩)], []⟩ W) :
    keep10.wp Try.prog Q ⟨#[.pointer (some ⟨y, 0, none⟩), u1, .slice sa s.length sc, u3, .pointer (some ⟨gd, 0, none⟩), u5, u6, u7, u8, u9, u10, u11, u12, u13, u14, u15, u16, u17, u18, u19, u20, u21, u22, u23, u24, u25, u26, u27, u28, u29, u30, u31, u32, u33, u34, u35, u36, u37, u38, u39, u40, u41, u42, u43, u44, u45, u46, u47, u48, u49, u50, u51, u52, u53, u54, u55, u56], []⟩ w2 := by
  replace hfin := hid hfin
  conv => arg 2; whnf
  refine wp_region_inv [41, 42, 43, 44, 45, 46, 47, 48, 49, 50, 51, 52, 53, 54, 55, 56] (K10 w2 y gd n la lc sa sc d s G) (by kernel_rfl) (by kernel_rfl) ⟨undef, undef, undef, 0, 0, 0⟩ ?start ?fin ?steps
  case start =>
    exact { C0 := fun h => no_up h rfl, C2 := fun h => no_up h rfl, C3 := fun h => no_up h rfl, C4 := fun h => no_up h rfl, C5 := fun h => no_up h rfl, C7 := fun h => no_up h rfl, C9 := fun h => no_up h rfl, C14 := fun h => no_up h rfl, C15 := fun h => no_up h rfl, O := (Only.refl [y] w2).drew, Y := fun _ => c0, YC := fun i _ => ⟨rfl, rfl⟩, F1 := fun h => no_up h rfl, F6 := fun h => no_up h rfl, F8 := fun h => no_up h rfl, F10 := fun h => no_up h rfl, F11 := fun h => no_up h rfl, F12 := fun h => no_up h rfl, F13 := fun h => no_up h rfl, F16 := fun h => no_up h rfl }
  case steps =>
    refine StepsFrom.cons (i := 0) (j := 1) rfl ?_ ?_
    · intro bt v g W hR hb hd hcl K hK
      simp only [putAll, Act.put, List.setIfInBounds_toArray, List.set_cons_zero, List.set_cons_succ]
      go_simp
      exact hK.out _ _ ⟨upv v 41 (.pointer (some ⟨y, 0, none⟩)), g, (by simp only [putAll, Act.put, List.setIfInBounds_toArray, List.set_cons_zero, List.set_cons_succ, upv_at, Nat.reduceBEq, cond_false, cond_true]), { C0 := fun _ => rfl, C2 := hR.C2, C3 := hR.C3, C4 := hR.C4, C5 := hR.C5, C7 := hR.C7, C9 := hR.C9, C14 := hR.C14, C15 := hR.C15, O := hR.O, Y := hR.Y, YC := hR.YC, F1 := hR.F1, F6 := hR.F6, F8 := hR.F8, F10 := hR.F10, F11 := hR.F11, F12 := hR.F12, F13 := hR.F13, F16 := hR.F16 }⟩
    refine StepsFrom.cons (i := 1) (j := 2) rfl ?_ ?_
    · intro bt v g W hR hb hd hcl K hK
      have e6 := not_up hcl 6 1 (by kernel_rfl) hb
      have e13 := not_up hcl 13 1 (by kernel_rfl) hb
      have e16 := not_up hcl 16 1 (by kernel_rfl) hb
      have so : Only [] W (W.alloc (Obj.cells #[] 127)) := (Only.refl [] W).alloc _
      simp only [putAll, Act.put, List.setIfInBounds_toArray, List.set_cons_zero, List.set_cons_succ]
      go_simp
      exact hK.out _ _ ⟨upv v 42 (.slice (some ⟨W.heap.size, 0, none⟩) 0 0), { g with g1 := W.heap.size }, (by simp only [putAll, Act.put, List.setIfInBounds_toArray, List.set_cons_zero, List.set_cons_succ, upv_at, Nat.reduceBEq, cond_false, cond_true]), { C0 := hR.C0, C2 := hR.C2, C3 := hR.C3, C4 := hR.C4, C5 := hR.C5, C7 := hR.C7, C9 := hR.C9, C14 := hR.C14, C15 := hR.C15, O := hR.O.trans so (ds := [y]) (by simp) (by simp), Y := fun h => cell_kept so (by simp) (hR.Y h), YC := fun i hi => ⟨(Only.cell' so (p := ⟨y, i, none⟩) (Nat.lt_of_lt_of_le hy hR.O.size) (by simp)).trans (hR.YC i hi).1, (Only.frozen' so (p := ⟨y, i, none⟩) (Nat.lt_of_lt_of_le hy hR.O.size) (by simp)).trans (hR.YC i hi).2⟩, F1 := fun _ => rfl, F6 := fun h _ => no_up h e6, F8 := hR.F8, F10 := fun h => ⟨(hR.F10 h).1, (hR.F10 h).2.only0 so⟩, F11 := hR.F11, F12 := fun h k => ⟨(hR.F12 h k).1, fun j u hu => so.cell ((hR.F12 h k).2 j u hu) (by simp)⟩, F13 := fun h => no_up h e13, F16 := fun h => no_up h e16 }⟩
    refine StepsFrom.cons (i := 2) (j := 3) rfl ?_ ?_
    · intro bt v g W hR hb hd hcl K hK
      simp only [putAll, Act.put, List.setIfInBounds_toArray, List.set_cons_zero, List.set_cons_succ]
      go_simp
      exact hK.out _ _ ⟨upv v 43 (.pointer (some ⟨y, 0, none⟩)), g, (by simp only [putAll, Act.put, List.setIfInBounds_toArray, List.set_cons_zero, List.set_cons_succ, upv_at, Nat.reduceBEq, cond_false, cond_true]), { C0 := hR.C0, C2 := fun _ => rfl, C3 := hR.C3, C4 := hR.C4, C5 := hR.C5, C7 := hR.C7, C9 := hR.C9, C14 := hR.C14, C15 := hR.C15, O := hR.O, Y := hR.Y, YC := hR.YC, F1 := hR.F1, F6 := hR.F6, F8 := hR.F8, F10 := hR.F10, F11 := hR.F11, F12 := hR.F12, F13 := hR.F13, F16 := hR.F16 }⟩
    refine StepsFrom.cons (i := 3) (j := 4) rfl ?_ ?_
    · intro bt v g W hR hb hd hcl K hK
      have c2 := hR.C2 (hd 2 (by kernel_rfl))
      simp only [putAll, Act.put, List.setIfInBounds_toArray, List.set_cons_zero, List.set_cons_succ, c2]
      go_simp
      exact hK.out _ _ ⟨upv v 44 (.pointer (some ⟨y, 0, none⟩)), g, (by simp only [putAll, Act.put, List.setIfInBounds_toArray, List.set_cons_zero, List.set_cons_succ, upv_at, Nat.reduceBEq, cond_false, cond_true, c2]), { C0 := hR.C0, C2 := hR.C2, C3 := fun _ => rfl, C4 := hR.C4, C5 := hR.C5, C7 := hR.C7, C9 := hR.C9, C14 := hR.C14, C15 := hR.C15, O := hR.O, Y := hR.Y, YC := hR.YC, F1 := hR.F1, F6 := hR.F6, F8 := hR.F8, F10 := hR.F10, F11 := hR.F11, F12 := hR.F12, F13 := hR.F13, F16 := hR.F16 }⟩
    refine StepsFrom.cons (i := 4) (j := 5) rfl ?_ ?_
    · intro bt v g W hR hb hd hcl K hK
      have c3 := hR.C3 (hd 3 (by kernel_rfl))
      simp only [putAll, Act.put, List.setIfInBounds_toArray, List.set_cons_zero, List.set_cons_succ, c3]
      go_simp
      exact hK.out _ _ ⟨upv v 45 (.pointer (some ⟨y, 0, none⟩)), g, (by simp only [putAll, Act.put, List.setIfInBounds_toArray, List.set_cons_zero, List.set_cons_succ, upv_at, Nat.reduceBEq, cond_false, cond_true, c3]), { C0 := hR.C0, C2 := hR.C2, C3 := hR.C3, C4 := fun _ => rfl, C5 := hR.C5, C7 := hR.C7, C9 := hR.C9, C14 := hR.C14, C15 := hR.C15, O := hR.O, Y := hR.Y, YC := hR.YC, F1 := hR.F1, F6 := hR.F6, F8 := hR.F8, F10 := hR.F10, F11 := hR.F11, F12 := hR.F12, F13 := hR.F13, F16 := hR.F16 }⟩
    refine StepsFrom.cons (i := 5) (j := 6) rfl ?_ ?_
    · intro bt v g W hR hb hd hcl K hK
      have c4 := hR.C4 (hd 4 (by kernel_rfl))
      have e16 := not_up hcl 16 5 (by kernel_rfl) hb
      simp only [putAll, Act.put, List.setIfInBounds_toArray, List.set_cons_zero, List.set_cons_succ, c4]
      have cc := (hR.Y e16).1
      go_simp
      exact hK.out _ _ ⟨upv v 46 (.slice la n lc), g, (by simp only [putAll, Act.put, List.setIfInBounds_toArray, List.set_cons_zero, List.set_cons_succ, upv_at, Nat.reduceBEq, cond_false, cond_true, c4]), { C0 := hR.C0, C2 := hR.C2, C3 := hR.C3, C4 := hR.C4, C5 := fun _ => rfl, C7 := hR.C7, C9 := hR.C9, C14 := hR.C14, C15 := hR.C15, O := hR.O, Y := hR.Y, YC := hR.YC, F1 := hR.F1, F6 := hR.F6, F8 := hR.F8, F10 := hR.F10, F11 := hR.F11, F12 := hR.F12, F13 := hR.F13, F16 := hR.F16 }⟩
    refine StepsFrom.cons (i := 6) (j := 7) rfl ?_ ?_
    · intro bt v g W hR hb hd hcl K hK
      have c5 := hR.C5 (hd 5 (by kernel_rfl))
      have e13 := not_up hcl 13 6 (by kernel_rfl) hb
      have e16 := not_up hcl 16 6 (by kernel_rfl) hb
      have f0 := hR.F1 (hd 1 (by kernel_rfl))
      simp only [putAll, Act.put, List.setIfInBounds_toArray, List.set_cons_zero, List.set_cons_succ, f0, c5]
      refine wp_app0 _ _ 67 (by rfl) w2.heap.size 127 33 56 el_got (by rfl) rw_built (by rfl) (hL.kept hR.O (fun b hb => by simpa using hLy b hb)) hG (by omega) (by omega) hR.O.size ?_
      intro vr W' own app
      rw [Nat.zero_add, List.nil_append] at own
      simp only [Act.put, List.setIfInBounds_toArray, List.set_cons_zero, List.set_cons_succ]
      have so := app.fresh
      exact hK.out _ _ ⟨upv v 47 (vr), { g with r1 := vr }, (by simp only [putAll, Act.put, List.setIfInBounds_toArray, List.set_cons_zero, List.set_cons_succ, upv_at, Nat.reduceBEq, cond_false, cond_true, f0, c5]), { C0 := hR.C0, C2 := hR.C2, C3 := hR.C3, C4 := hR.C4, C5 := hR.C5, C7 := hR.C7, C9 := hR.C9, C14 := hR.C14, C15 := hR.C15, O := hR.O.trans so (ds := [y]) (by simp) (by simp), Y := fun h => cell_kept so (by simp) (hR.Y h), YC := fun i hi => ⟨(Only.cell' so (p := ⟨y, i, none⟩) (Nat.lt_of_lt_of_le hy hR.O.size) (by simp)).trans (hR.YC i hi).1, (Only.frozen' so (p := ⟨y, i, none⟩) (Nat.lt_of_lt_of_le hy hR.O.size) (by simp)).trans (hR.YC i hi).2⟩, F1 := hR.F1, F6 := fun _ _ => ⟨rfl, own⟩, F8 := hR.F8, F10 := fun h => ⟨(hR.F10 h).1, (hR.F10 h).2.only0 so⟩, F11 := hR.F11, F12 := fun h k => ⟨(hR.F12 h k).1, fun j u hu => so.cell ((hR.F12 h k).2 j u hu) (by simp)⟩, F13 := fun h => no_up h e13, F16 := fun h => no_up h e16 }⟩
    refine StepsFrom.cons (i := 7) (j := 8) rfl ?_ ?_
    · intro bt v g W hR hb hd hcl K hK
      simp only [putAll, Act.put, List.setIfInBounds_toArray, List.set_cons_zero, List.set_cons_succ]
      refine wp_load_dig _ (by rfl) gd d hd32 (by rfl) (fun j u hu => hR.O.cell (hr j u hu) (by simpa using hgy)) ?_
      simp only [Act.put, List.setIfInBounds_toArray, List.set_cons_zero, List.set_cons_succ]
      exact hK.out _ _ ⟨upv v 48 (.agg (bytes d).toArray), g, (by simp only [putAll, Act.put, List.setIfInBounds_toArray, List.set_cons_zero, List.set_cons_succ, upv_at, Nat.reduceBEq, cond_false, cond_true]), { C0 := hR.C0, C2 := hR.C2, C3 := hR.C3, C4 := hR.C4, C5 := hR.C5, C7 := fun _ => rfl, C9 := hR.C9, C14 := hR.C14, C15 := hR.C15, O := hR.O, Y := hR.Y, YC := hR.YC, F1 := hR.F1, F6 := hR.F6, F8 := hR.F8, F10 := hR.F10, F11 := hR.F11, F12 := hR.F12, F13 := hR.F13, F16 := hR.F16 }⟩
    refine StepsFrom.cons (i := 8) (j := 9) rfl ?_ ?_
    · intro bt v g W hR hb hd hcl K hK
      have e10 := not_up hcl 10 8 (by kernel_rfl) hb
      have e11 := not_up hcl 11 8 (by kernel_rfl) hb
      have e12 := not_up hcl 12 8 (by kernel_rfl) hb
      have e13 := not_up hcl 13 8 (by kernel_rfl) hb
      have e16 := not_up hcl 16 8 (by kernel_rfl) hb
      have so : Only [] W (W.alloc (Obj.cells #[] 5)) := (Only.refl [] W).alloc _
      simp only [putAll, Act.put, List.setIfInBounds_toArray, List.set_cons_zero, List.set_cons_succ]
      go_simp
      exact hK.out _ _ ⟨upv v 49 (.slice (some ⟨W.heap.size, 0, none⟩) 0 0), { g with g2 := W.heap.size }, (by simp only [putAll, Act.put, List.setIfInBounds_toArray, List.set_cons_zero, List.set_cons_succ, upv_at, Nat.reduceBEq, cond_false, cond_true]), { C0 := hR.C0, C2 := hR.C2, C3 := hR.C3, C4 := hR.C4, C5 := hR.C5, C7 := hR.C7, C9 := hR.C9, C14 := hR.C14, C15 := hR.C15, O := hR.O.trans so (ds := [y]) (by simp) (by simp), Y := fun h => cell_kept so (by simp) (hR.Y h), YC := fun i hi => ⟨(Only.cell' so (p := ⟨y, i, none⟩) (Nat.lt_of_lt_of_le hy hR.O.size) (by simp)).trans (hR.YC i hi).1, (Only.frozen' so (p := ⟨y, i, none⟩) (Nat.lt_of_lt_of_le hy hR.O.size) (by simp)).trans (hR.YC i hi).2⟩, F1 := hR.F1, F6 := fun h k => ⟨(hR.F6 h k).1, (hR.F6 h k).2.only0 so⟩, F8 := fun _ => rfl, F10 := fun h => no_up h e10, F11 := fun h => no_up h e11, F12 := fun h _ => no_up h e12, F13 := fun h => no_up h e13, F16 := fun h => no_up h e16 }⟩
    refine StepsFrom.cons (i := 9) (j := 10) rfl ?_ ?_
    · intro bt v g W hR hb hd hcl K hK
      simp only [putAll, Act.put, List.setIfInBounds_toArray, List.set_cons_zero, List.set_cons_succ]
      go_simp
      exact hK.out _ _ ⟨upv v 50 (.slice sa s.length sc), g, (by simp only [putAll, Act.put, List.setIfInBounds_toArray, List.set_cons_zero, List.set_cons_succ, upv_at, Nat.reduceBEq, cond_false, cond_true]), { C0 := hR.C0, C2 := hR.C2, C3 := hR.C3, C4 := hR.C4, C5 := hR.C5, C7 := hR.C7, C9 := fun _ => rfl, C14 := hR.C14, C15 := hR.C15, O := hR.O, Y := hR.Y, YC := hR.YC, F1 := hR.F1, F6 := hR.F6, F8 := hR.F8, F10 := hR.F10, F11 := hR.F11, F12 := hR.F12, F13 := hR.F13, F16 := hR.F16 }⟩
    refine StepsFrom.cons (i := 10) (j := 11) rfl ?_ ?_
    · intro bt v g W hR hb hd hcl K hK
      have c9 := hR.C9 (hd 9 (by kernel_rfl))
      have e11 := not_up hcl 11 10 (by kernel_rfl) hb
      have e12 := not_up hcl 12 10 (by kernel_rfl) hb
      have e13 := not_up hcl 13 10 (by kernel_rfl) hb
      have e16 := not_up hcl 16 10 (by kernel_rfl) hb
      have f0 := hR.F8 (hd 8 (by kernel_rfl))
      simp only [putAll, Act.put, List.setIfInBounds_toArray, List.set_cons_zero, List.set_cons_succ, f0, c9]
      refine wp_app0 _ _ 27 (by rfl) w2.heap.size 5 1 1 el_u8 (by rfl) rw_built (by rfl) (hs.kept hR.O (fun b hb => by simpa using hsy b hb)) (bytes_one s) (by omega) (by omega) hR.O.size ?_
      intro vr W' own app
      rw [Nat.zero_add, List.nil_append] at own
      simp only [Act.put, List.setIfInBounds_toArray, List.set_cons_zero, List.set_cons_succ]
      have so := app.fresh
      exact hK.out _ _ ⟨upv v 51 (vr), { g with r2 := vr }, (by simp only [putAll, Act.put, List.setIfInBounds_toArray, List.set_cons_zero, List.set_cons_succ, upv_at, Nat.reduceBEq, cond_false, cond_true, f0, c9]), { C0 := hR.C0, C2 := hR.C2, C3 := hR.C3, C4 := hR.C4, C5 := hR.C5, C7 := hR.C7, C9 := hR.C9, C14 := hR.C14, C15 := hR.C15, O := hR.O.trans so (ds := [y]) (by simp) (by simp), Y := fun h => cell_kept so (by simp) (hR.Y h), YC := fun i hi => ⟨(Only.cell' so (p := ⟨y, i, none⟩) (Nat.lt_of_lt_of_le hy hR.O.size) (by simp)).trans (hR.YC i hi).1, (Only.frozen' so (p := ⟨y, i, none⟩) (Nat.lt_of_lt_of_le hy hR.O.size) (by simp)).trans (hR.YC i hi).2⟩, F1 := hR.F1, F6 := fun h k => ⟨(hR.F6 h k).1, (hR.F6 h k).2.only0 so⟩, F8 := hR.F8, F10 := fun _ => ⟨rfl, own⟩, F11 := fun h => no_up h e11, F12 := fun h _ => no_up h e12, F13 := fun h => no_up h e13, F16 := fun h => no_up h e16 }⟩
    refine StepsFrom.cons (i := 11) (j := 12) rfl ?_ ?_
    · intro bt v g W hR hb hd hcl K hK
      have c7 := hR.C7 (hd 7 (by kernel_rfl))
      have f10 := hR.F10 (hd 10 (by kernel_rfl))
      have hform := f10.2.form'
      have f101 := f10.1.trans hform
      have HF := hid hform
      clear f10 hform
      simp only [putAll, Act.put, List.setIfInBounds_toArray, List.set_cons_zero, List.set_cons_succ, f101, c7]
      refine wp_build_got _ _ (by rfl) d hd32 _ _ _ (by rfl) (by rfl) ?_
      simp only [Act.put, List.setIfInBounds_toArray, List.set_cons_zero, List.set_cons_succ]
      exact hK.out _ _ ⟨upv v 52 (.agg (bytes d ++ [Value.slice (ra g.r2) s.length (rc g.r2)]).toArray), g, (by simp only [putAll, Act.put, List.setIfInBounds_toArray, List.set_cons_zero, List.set_cons_succ, upv_at, Nat.reduceBEq, cond_false, cond_true, f101, c7]), { C0 := hR.C0, C2 := hR.C2, C3 := hR.C3, C4 := hR.C4, C5 := hR.C5, C7 := hR.C7, C9 := hR.C9, C14 := hR.C14, C15 := hR.C15, O := hR.O, Y := hR.Y, YC := hR.YC, F1 := hR.F1, F6 := hR.F6, F8 := hR.F8, F10 := hR.F10, F11 := fun _ => by rw [← HF.out]; rfl, F12 := hR.F12, F13 := hR.F13, F16 := hR.F16 }⟩
    refine StepsFrom.cons (i := 12) (j := 13) rfl ?_ ?_
    · intro bt v g W hR hb hd hcl K hK
      have e13 := not_up hcl 13 12 (by kernel_rfl) hb
      have e16 := not_up hcl 16 12 (by kernel_rfl) hb
      have f11 := hR.F11 (hd 11 (by kernel_rfl))
      have so : Only [] W (W.alloc (Obj.cells (bytes d ++ [g.r2]).toArray 127)) := (Only.refl [] W).alloc _
      simp only [putAll, Act.put, List.setIfInBounds_toArray, List.set_cons_zero, List.set_cons_succ, f11]
      refine wp_slice_got _ (by rfl) (bytes d ++ [g.r2]) (by simp [bytes, hd32]) (by rfl) ?_
      simp only [Act.put, List.setIfInBounds_toArray, List.set_cons_zero, List.set_cons_succ]
      exact hK.out _ _ ⟨upv v 53 (.slice (some ⟨W.heap.size, 0, none⟩) 1 1), { g with g3 := W.heap.size }, (by simp only [putAll, Act.put, List.setIfInBounds_toArray, List.set_cons_zero, List.set_cons_succ, upv_at, Nat.reduceBEq, cond_false, cond_true, f11]), { C0 := hR.C0, C2 := hR.C2, C3 := hR.C3, C4 := hR.C4, C5 := hR.C5, C7 := hR.C7, C9 := hR.C9, C14 := hR.C14, C15 := hR.C15, O := hR.O.trans so (ds := [y]) (by simp) (by simp), Y := fun h => cell_kept so (by simp) (hR.Y h), YC := fun i hi => ⟨(Only.cell' so (p := ⟨y, i, none⟩) (Nat.lt_of_lt_of_le hy hR.O.size) (by simp)).trans (hR.YC i hi).1, (Only.frozen' so (p := ⟨y, i, none⟩) (Nat.lt_of_lt_of_le hy hR.O.size) (by simp)).trans (hR.YC i hi).2⟩, F1 := hR.F1, F6 := fun h k => ⟨(hR.F6 h k).1, (hR.F6 h k).2.only0 so⟩, F8 := hR.F8, F10 := fun h => ⟨(hR.F10 h).1, (hR.F10 h).2.only0 so⟩, F11 := hR.F11, F12 := fun _ _ => ⟨rfl, fun j u hu => by rw [Nat.zero_add, World.cell?_alloc_new]; simpa using hu⟩, F13 := fun h => no_up h e13, F16 := fun h => no_up h e16 }⟩
    refine StepsFrom.cons (i := 13) (j := 14) rfl ?_ ?_
    · intro bt v g W hR hb hd hcl K hK
      have e16 := not_up hcl 16 13 (by kernel_rfl) hb
      have f6 := hR.F6 (hd 6 (by kernel_rfl)) hb
      have f12 := hR.F12 (hd 12 (by kernel_rfl)) hb
      have f10 := hR.F10 (hd 10 (by kernel_rfl))
      have f61 := f6.1
      have f121 := f12.1
      have F6r := hid f6.2
      have F12r := hid f12.2
      have F10r := hid f10.2
      have hone : ∀ u ∈ bytes d ++ [g.r2], u.oneCell' = true := by
        intro u hu
        rcases List.mem_append.1 hu with hu | hu
        · exact bytes_one d u hu
        · obtain rfl : u = g.r2 := by simpa using hu
          rw [f10.2.form']; rfl
      have hone2 := hid hone
      clear f6 f12 f10 hone
      simp only [putAll, Act.put, List.setIfInBounds_toArray, List.set_cons_zero, List.set_cons_succ, f61, f121]
      refine wp_app0 (m := 1) (news := bytes d ++ [g.r2]) _ _ 67 (by rfl) w2.heap.size 127 33 56 el_got (by rfl) F6r.out (by rfl) ⟨by simp [bytes, hd32], some ⟨g.g3, 0, none⟩, 1, rfl, by omega, by unfold maxLen; omega, by omega, .inr ⟨g.g3, 0, rfl, F12r.out⟩⟩ hone2.out (by omega) (by omega) hR.O.size ?_
      intro vr W' own app
      simp only [Act.put, List.setIfInBounds_toArray, List.set_cons_zero, List.set_cons_succ]
      have so : Only [y] w2 W' := hR.O.app0 app (fun k hk => .inr (F6r.out.lt k hk).1)
      have sy : Only (RB g.r1).toList W W' := (Only.refl _ W).app0 app (fun k hk => .inl (by simp [hk]))
      have hny : y ∉ (RB g.r1).toList := fun hm => by have := (F6r.out.lt y (by simpa using hm)).1; omega
      exact hK.out _ _ ⟨upv v 54 (vr), { g with r3 := vr }, (by simp only [putAll, Act.put, List.setIfInBounds_toArray, List.set_cons_zero, List.set_cons_succ, upv_at, Nat.reduceBEq, cond_false, cond_true, f61, f121]), { C0 := hR.C0, C2 := hR.C2, C3 := hR.C3, C4 := hR.C4, C5 := hR.C5, C7 := hR.C7, C9 := hR.C9, C14 := hR.C14, C15 := hR.C15, O := so, Y := fun h => cell_kept sy hny (hR.Y h), YC := fun i hi => ⟨(Only.cell' sy (p := ⟨y, i, none⟩) (Nat.lt_of_lt_of_le hy hR.O.size) hny).trans (hR.YC i hi).1, (Only.frozen' sy (p := ⟨y, i, none⟩) (Nat.lt_of_lt_of_le hy hR.O.size) hny).trans (hR.YC i hi).2⟩, F1 := hR.F1, F6 := fun _ h => no_up rfl h, F8 := hR.F8, F10 := fun h => ⟨(hR.F10 h).1, (hR.F10 h).2.other app (rw_ne (hR.F10 h).2 F6r.out (by decide))⟩, F11 := hR.F11, F12 := fun _ h => no_up rfl h, F13 := fun _ => ⟨rfl, own⟩, F16 := fun h => no_up h e16 }⟩
    refine StepsFrom.cons (i := 14) (j := 15) rfl ?_ ?_
    · intro bt v g W hR hb hd hcl K hK
      have c0 := hR.C0 (hd 0 (by kernel_rfl))
      simp only [putAll, Act.put, List.setIfInBounds_toArray, List.set_cons_zero, List.set_cons_succ, c0]
      go_simp
      exact hK.out _ _ ⟨upv v 55 (.pointer (some ⟨y, 0, none⟩)), g, (by simp only [putAll, Act.put, List.setIfInBounds_toArray, List.set_cons_zero, List.set_cons_succ, upv_at, Nat.reduceBEq, cond_false, cond_true, c0]), { C0 := hR.C0, C2 := hR.C2, C3 := hR.C3, C4 := hR.C4, C5 := hR.C5, C7 := hR.C7, C9 := hR.C9, C14 := fun _ => rfl, C15 := hR.C15, O := hR.O, Y := hR.Y, YC := hR.YC, F1 := hR.F1, F6 := hR.F6, F8 := hR.F8, F10 := hR.F10, F11 := hR.F11, F12 := hR.F12, F13 := hR.F13, F16 := hR.F16 }⟩
    refine StepsFrom.cons (i := 15) (j := 16) rfl ?_ ?_
    · intro bt v g W hR hb hd hcl K hK
      have c14 := hR.C14 (hd 14 (by kernel_rfl))
      simp only [putAll, Act.put, List.setIfInBounds_toArray, List.set_cons_zero, List.set_cons_succ, c14]
      go_simp
      exact hK.out _ _ ⟨upv v 56 (.pointer (some ⟨y, 0, none⟩)), g, (by simp only [putAll, Act.put, List.setIfInBounds_toArray, List.set_cons_zero, List.set_cons_succ, upv_at, Nat.reduceBEq, cond_false, cond_true, c14]), { C0 := hR.C0, C2 := hR.C2, C3 := hR.C3, C4 := hR.C4, C5 := hR.C5, C7 := hR.C7, C9 := hR.C9, C14 := hR.C14, C15 := fun _ => rfl, O := hR.O, Y := hR.Y, YC := hR.YC, F1 := hR.F1, F6 := hR.F6, F8 := hR.F8, F10 := hR.F10, F11 := hR.F11, F12 := hR.F12, F13 := hR.F13, F16 := hR.F16 }⟩
    refine StepsFrom.cons (i := 16) (j := 17) rfl ?_ ?_
    · intro bt v g W hR hb hd hcl K hK
      have c15 := hR.C15 (hd 15 (by kernel_rfl))
      have f13 := hR.F13 (hd 13 (by kernel_rfl))
      have hform := f13.2.form'
      have f131 := f13.1.trans hform
      have HF := hid hform
      have z0 := (hR.Y hb).1
      have z1 := (hR.Y hb).2
      clear f13 hform
      simp only [putAll, Act.put, List.setIfInBounds_toArray, List.set_cons_zero, List.set_cons_succ, f131, c15]
      go_simp
      have so : Only [y] W (W.setCell ⟨y, 0, none⟩ (.slice (ra g.r3) (n + 1) (rc g.r3))) := (Only.refl _ W).setCell (.inl (by simp)) _
      have hky : ∀ {e size : Nat} {v : Value} {m : Nat} {xs : List Value}, Rw W w2.heap.size e size v m xs → ∀ k, RB v = some k → k ∉ [y] := fun h k hk hm => by have := (h.lt k hk).1; rw [List.mem_singleton] at hm; omega
      exact hK.out _ _ ⟨v, g, (by simp only [putAll, Act.put, List.setIfInBounds_toArray, List.set_cons_zero, List.set_cons_succ, upv_at, Nat.reduceBEq, cond_false, cond_true, f131, c15]), { C0 := hR.C0, C2 := hR.C2, C3 := hR.C3, C4 := hR.C4, C5 := hR.C5, C7 := hR.C7, C9 := hR.C9, C14 := hR.C14, C15 := hR.C15, O := hR.O.setCell (.inl (by simp)) _, Y := fun h => no_up rfl h, YC := fun i hi => ⟨(World.cell?_setCell_other _ _ _ _ (by intro e; exact hi (by simpa using congrArg Addr.off e.symm))).trans (hR.YC i hi).1, (show (W.setCell ⟨y, 0, none⟩ (.slice (ra g.r3) (n + 1) (rc g.r3))).frozen? ⟨y, i, none⟩ = W.frozen? ⟨y, i, none⟩ by simp [go_sem]).trans (hR.YC i hi).2⟩, F1 := hR.F1, F6 := fun h k => ⟨(hR.F6 h k).1, (hR.F6 h k).2.only so (hky (hR.F6 h k).2)⟩, F8 := hR.F8, F10 := fun h => ⟨(hR.F10 h).1, (hR.F10 h).2.only so (hky (hR.F10 h).2)⟩, F11 := hR.F11, F12 := fun h k => no_up (hd 13 (by kernel_rfl)) k, F13 := fun h => ⟨(hR.F13 h).1, (hR.F13 h).2.only so (hky (hR.F13 h).2)⟩, F16 := fun _ => ⟨(show (W.setCell ⟨y, 0, none⟩ (.slice (ra g.r3) (n + 1) (rc g.r3))).cell? ⟨y, 0, none⟩ = some (.slice (ra g.r3) (n + 1) (rc g.r3)) by simp [go_sem, z0]).trans (congrArg some HF.out.symm), by simp [go_sem, z1]⟩ }⟩
    exact StepsFrom.nil
  case fin =>
    intro bt v g W hR hall
    have c0 := hR.C0 (hall 0 rfl)
    have c2 := hR.C2 (hall 2 rfl)
    have c3 := hR.C3 (hall 3 rfl)
    have c4 := hR.C4 (hall 4 rfl)
    have c5 := hR.C5 (hall 5 rfl)
    have c7 := hR.C7 (hall 7 rfl)
    have c9 := hR.C9 (hall 9 rfl)
    have c14 := hR.C14 (hall 14 rfl)
    have c15 := hR.C15 (hall 15 rfl)
    have f13 := hR.F13 (hall 13 rfl)
    have f10 := hR.F10 (hall 10 rfl)
    have f16 := hR.F16 (hall 16 rfl)
    simp only [putAll, Act.put, List.setIfInBounds_toArray, List.set_cons_zero, List.set_cons_succ, c0, c2, c3, c4, c5, c7, c9, c14, c15]
    exact hfin.out g.r2 g.r3 _ _ _ _ _ _ _ W hR.O hR.YC f16 f13.2 f10.2
end Go.Proofs.Ytnlmeaijnfjakaa.Sh
/- The document's keeper of a share: walked. (Printed by gen_krd.py.) -/
namespace Go.Proofs.Ytnlmeaijnfjakaa.Sh
set_option linter.unusedSimpArgs false
set_option linter.unusedVariables false
open Go Go.RowKit

theorem findI_some : ∀ (sh : List (List UInt8 × List UInt8)) (d t : List UInt8), getS sh d = some t → ∃ (k : Nat) (hk : k < sh.length), findI sh d = (k : Int) ∧ sh[k].2 = t
  | [], d, t, h => by simp [getS] at h
  | p :: sh, d, t, h => by
    unfold getS at h
    rw [List.find?_cons] at h
    by_cases hp : p.1 = d
    · rw [beq_iff_eq.2 hp] at h
      refine ⟨0, by simp, ?_, ?_⟩
      · unfold findI
        rw [if_pos hp]
        rfl
      · simpa using h
    · rw [beq_eq_false_iff_ne.2 hp] at h
      obtain ⟨k, hk, h1, h2⟩ := findI_some sh d t h
      refine ⟨k + 1, by simpa using hk, ?_, by simpa using h2⟩
      unfold findI
      rw [if_neg hp, h1, if_neg (by omega)]
      omega
theorem findI_no (sh : List (List UInt8 × List UInt8)) (d : List UInt8) (h : getS sh d = none) : findI sh d = -1 := by
  refine findI_none sh d (fun j hj e => ?_)
  exact getS_none.1 h (List.mem_map.2 ⟨sh[j], List.getElem_mem hj, e⟩)
theorem gotC_one {w : World} : ∀ (H : List ((List UInt8 × List UInt8) × Value)), (∀ p ∈ H, Bs w p.2 p.1.2) → ∀ u ∈ gotC H, u.oneCell' = true := by
  intro H h u hu
  unfold gotC at hu
  obtain ⟨p, hp, hu⟩ := List.mem_flatMap.1 hu
  rcases List.mem_append.1 hu with hu | hu
  · exact bytes_one p.1.1 u hu
  · obtain rfl : u = p.2 := by simpa using hu
    obtain ⟨a, c, e⟩ := bs_form (h p hp)
    rw [e]
    rfl

theorem RKp.more {w : World} {y x : Nat} {ls bs ts : List Nat} {m : Km} {f : List UInt8} {rs : List (List UInt8)} (h : RKp w y x ls bs m f rs) (hs : ∀ i ∈ bs, i ∈ ts) (ht : ∀ i ∈ ts, i ∉ ls ∧ i ≠ y) : RKp w y x ls ts m f rs := by
  obtain ⟨lv, l1, l2⟩ := h.c0
  obtain ⟨iv, i1, i2, i3⟩ := h.c2
  exact ⟨⟨lv, l1, l2.mono hs⟩, h.c1, ⟨iv, i1, i2, fun i hi => hs i (i3 i hi)⟩, h.c3, h.c4, h.log, ⟨h.ny.1, fun hm => (ht y hm).2 rfl⟩, fun i hi => (ht i hi).1⟩
theorem RKp.lt {w : World} {y x : Nat} {ls bs : List Nat} {m : Km} {f : List UInt8} {rs : List (List UInt8)} (h : RKp w y x ls bs m f rs) : y < w.heap.size := World.block_lt_of_cell? w _ h.c4
/-- A keyper with more blocks, of which the new ones are new. -/
theorem RKp.wide {w w' V : World} {y x : Nat} {ls bs ts : List Nat} {m : Km} {f : List UInt8} {rs : List (List UInt8)} (h : RKp V y x ls bs m f rs) (hy : y < w.heap.size) (hl : ∀ i ∈ ls, i < w.heap.size) (hb : ∀ i ∈ bs, i ∈ ts ++ newBs w w') (ht : ∀ i ∈ ts, i ∉ ls ∧ i ≠ y) : RKp V y x ls (ts ++ newBs w w') m f rs := by
  refine h.more hb (fun i hi => ?_)
  rcases List.mem_append.1 hi with hi | hi
  · exact ht i hi
  · have := (mem_newBs.1 hi).1
    exact ⟨fun hm => by have := hl i hm; omega, by omega⟩
/-- The shares went on. -/
theorem RKp.setL {w w' : World} {y x : Nat} {ls bs ts : List Nat} {m : Km} {f : List UInt8} {rs : List (List UInt8)} {lv : Value} {sh : List (List UInt8 × List UInt8)} (h : RKp w y x ls bs m f rs) (ho : Only [y] w w') (hc : w'.cell? ⟨y, 0, none⟩ = some lv ∧ w'.frozen? ⟨y, 0, none⟩ = false) (hs : Gots w' ts lv sh) (hbt : ∀ i ∈ bs, i ∈ ts) (ht : ∀ i ∈ ts, i ∉ ls ∧ i ≠ y)
    (hc' : ∀ i, i ≠ 0 → w'.cell? ⟨y, i, none⟩ = w.cell? ⟨y, i, none⟩ ∧ w'.frozen? ⟨y, i, none⟩ = w.frozen? ⟨y, i, none⟩) : RKp w' y x ls ts { m with sh := sh } f rs := by
  obtain ⟨iv, i1, i2, i3⟩ := h.c2
  refine ⟨⟨lv, hc, hs⟩, by rw [(hc' 1 (by simp)).1, (hc' 1 (by simp)).2]; exact h.c1, ⟨iv, by rw [(hc' 2 (by simp)).1, (hc' 2 (by simp)).2]; exact i1, i2.kept ho (fun b hb hm => h.ny.2 (by rw [← List.mem_singleton.1 hm]; exact i3 b hb)), fun i hi => hbt i (i3 i hi)⟩, by rw [(hc' 3 (by simp)).1, (hc' 3 (by simp)).2]; exact h.c3, by rw [(hc' 4 (by simp)).1]; exact h.c4, h.log.only ho (fun i hi => by rw [List.mem_singleton.1 hi]; exact h.ny.1), ⟨h.ny.1, fun hm => (ht y hm).2 rfl⟩, fun i hi => (ht i hi).1⟩

theorem Rw.own_lt {w : World} {base e size : Nat} {v : Value} {n : Nat} {xs : List Value} (h : Rw w base e size v n xs) (hn : 0 < n) : ∀ i, v.ownBlock = some i → base ≤ i ∧ i < w.heap.size := by
  intro i hi
  rcases h with ⟨h0, _⟩ | ⟨g, cap, rfl, h⟩
  · omega
  · exact h.lt i hi
theorem gotC_snoc (H : List ((List UInt8 × List UInt8) × Value)) (p : (List UInt8 × List UInt8) × Value) : gotC (H ++ [p]) = gotC H ++ (bytes p.1.1 ++ [p.2]) := by
  unfold gotC
  rw [List.flatMap_append]
  simp

def RKeepPost (w : World) (y x : Nat) (ls bs : List Nat) (f : List UInt8) (rs : List (List UInt8)) (r : Nat × Km) (e : Ending) (w' : World) : Prop :=
  e = .returned (.int .i64 (r.1 : Int)) ∧ RKp w' y x ls (bs ++ newBs w w') r.2 f rs ∧ Only [y] w w'

set_option maxRecDepth 20000 in
set_option maxHeartbeats 3200000 in
theorem rkeep_any (w : World) (y x : Nat) (ls bs : List Nat) (m : Km) (f : List UInt8) (rs : List (List UInt8)) (h : RKp w y x ls bs m f rs) (hl : ∀ i ∈ ls, i < w.heap.size) (hi : KInv m) (d : List UInt8) (hd : d.length = 32) (sv : Value) (s : List UInt8) (hs : Bs w sv s) (hsy0 : ∀ b, sv.ownBlock = some b → s = [] ∨ b ≠ y) (hsl : s.length ≤ 1000) :
    Calls Try.prog 47 #[.pointer (some ⟨y, 0, none⟩), vD d, sv] w (RKeepPost w y x ls bs f rs (keepK m d s)) := by
  obtain ⟨sa, sc, rfl⟩ := bs_form hs
  have hylt := h.lt
  have hb := dig_boxed w d hd 35
  obtain ⟨w1, hw1⟩ : ∃ w1, w1 = w.alloc (Obj.cells (bytes d).toArray 35) := ⟨_, rfl⟩
  have o1 : Only [] w w1 := by rw [hw1]; exact (Only.refl [] w).alloc _
  have s1 : w.heap.size < w1.heap.size := by rw [hw1]; simp
  rw [← hw1] at hb
  obtain ⟨gd, hg⟩ : ∃ gd, gd = w.heap.size := ⟨_, rfl⟩
  rw [← hg] at hb
  have hgy : gd ≠ y := by omega
  have hD := Dv.boxed w d hd 35
  rw [← hw1, ← hg] at hD
  have hts : ∀ i ∈ bs, i ∉ ls ∧ i ≠ y := fun i hi => ⟨h.dis i hi, fun e => h.ny.2 (by rw [← e]; exact hi)⟩
  have same : Hid (∀ W, Only [] w W → RKp W y x ls (bs ++ newBs w W) m f rs ∧ Only [y] w W) := fun W hW => ⟨(h.kept0 hW).wide hylt hl (fun i hi => List.mem_append_left _ hi) hts, hW.mono (by simp)⟩
  unfold keepK
  by_cases hbad : s.length < 1 ∨ 32 < s.length
  · rw [if_pos hbad]
    have hpost := hid (show RKeepPost w y x ls bs f rs (1, m) (.returned (.int .i64 1)) w1 from ⟨rfl, same.out w1 o1⟩)
    rw [show vD d = .agg (bytes d).toArray from rfl]
    clear h hd hi same
    by_cases h01 : s.length < 1
    all_goals
      first
        | (have hq : s.length < 1 := h01
           clear hbad)
        | (have hq : 32 < s.length := by omega
           clear hbad)
      go_enter Try.func47, Try.ntmps47
      go_wp2_with fail
      rw [← hw1]
      go_ret
      exact hpost.out
  · rw [if_neg hbad]
    have hs1 : 1 ≤ s.length := by omega
    have hs32 : s.length ≤ 32 := by omega
    have hsy : ∀ b, (Value.slice sa s.length sc).ownBlock = some b → b ≠ y := fun b hb => (hsy0 b hb).resolve_left (fun e => by rw [e] at hs1; simp at hs1)
    clear hbad
    have fd := find_any w1 y x ls bs m f rs (h.kept0 o1) d hd
    have hu := Try.underlying35
    have hin : (Try.prog.info? 35).map (·.size) = some (bytes d).length := by rw [dig_info]; simp [bytes, hd]
    have HD := hid hd
    rw [show vD d = .agg (bytes d).toArray from rfl] at fd
    rw [show vD d = .agg (bytes d).toArray from rfl]
    cases hgs : getS m.sh d with
    | some t =>
      obtain ⟨k, hk, hf1, hf2⟩ := findI_some _ _ _ hgs
      rw [hf1] at fd
      replace fd := hid fd
      simp only
      clear hi hgs hd
      obtain ⟨lv, ⟨l0, _⟩, l2⟩ := (h.kept0 o1).c0
      obtain ⟨la, lc, rfl, f1, f2, f3⟩ := l2.form
      obtain ⟨b, o, u, rfl, _, _, hc, hu2, _⟩ := l2.at k hk
      rw [hf2] at hu2
      obtain ⟨ua, uc, rfl⟩ := bs_form hu2
      have hsm := fun W (hW : Only [] w1 W) => same_any _ _ t s W (hu2.kept0 hW) ((hs.kept0 o1).kept0 hW)
      obtain ⟨n, hn⟩ : ∃ n, n = m.sh.length := ⟨_, rfl⟩
      rw [← hn] at l0 f1 f3 hk
      obtain ⟨tl, htl⟩ : ∃ tl, tl = t.length := ⟨_, rfl⟩
      rw [← htl] at hsm hc
      clear h l2 hn hu2 htl
      by_cases hts : t = s
      · rw [if_pos hts]
        simp only [hts, decide_true] at hsm
        replace hsm := hid hsm
        clear hts hf2
        go_enter Try.func47, Try.ntmps47
        go_wp2_with (first | (rw [← hw1, ← hg]; refine wpList_load_dig (by rfl) _ (by rfl) gd d (by rfl) hD ?_) | (refine wpList_load_dig (by rfl) _ (by rfl) gd d (by rfl) hD ?_))
        try rw [← hw1]
        try rw [← hg]
        clear hw1 hg
        refine fd.out.mono ?_
        rintro e w2 ⟨rfl, o2⟩
        have l3 := o2.cell l0 (by simp)
        have hc3 := o2.cell hc (by simp)
        go_wp2_with fail
        refine (hsm.out _ o2).mono ?_
        rintro e w3 ⟨rfl, o3⟩
        have hfin := hid (same.out w3 ((o1.trans0 o2).trans0 o3))
        go_wp2
        go_ret
        exact ⟨rfl, hfin.out⟩
      · rw [if_neg hts]
        simp only [hts, decide_false] at hsm
        replace hsm := hid hsm
        clear hts hf2
        go_enter Try.func47, Try.ntmps47
        go_wp2_with (first | (rw [← hw1, ← hg]; refine wpList_load_dig (by rfl) _ (by rfl) gd d (by rfl) hD ?_) | (refine wpList_load_dig (by rfl) _ (by rfl) gd d (by rfl) hD ?_))
        try rw [← hw1]
        try rw [← hg]
        clear hw1 hg
        refine fd.out.mono ?_
        rintro e w2 ⟨rfl, o2⟩
        have l3 := o2.cell l0 (by simp)
        have hc3 := o2.cell hc (by simp)
        go_wp2_with fail
        refine (hsm.out _ o2).mono ?_
        rintro e w3 ⟨rfl, o3⟩
        have hfin := hid (same.out w3 ((o1.trans0 o2).trans0 o3))
        go_wp2
        go_ret
        exact ⟨rfl, hfin.out⟩
    | none =>
      have hf1 := findI_no _ _ hgs
      rw [hf1] at fd
      replace fd := hid fd
      simp only
      obtain ⟨lv, ⟨l0, z0⟩, l2⟩ := (h.kept0 o1).c0
      obtain ⟨la, lc, rfl, f1, f2, f3⟩ := l2.form
      have hfew := hi.few
      obtain ⟨n, hn⟩ : ∃ n, n = m.sh.length := ⟨_, rfl⟩
      rw [← hn] at l0 f1 f3 hfew
      rw [← hn]
      have HN := hid hn
      by_cases hfull : 32 ≤ n
      · rw [if_pos hfull]
        clear h hi l2 hn hgs
        go_enter Try.func47, Try.ntmps47
        go_wp2_with (first | (rw [← hw1, ← hg]; refine wpList_load_dig (by rfl) _ (by rfl) gd d (by rfl) hD ?_) | (refine wpList_load_dig (by rfl) _ (by rfl) gd d (by rfl) hD ?_))
        try rw [← hw1]
        try rw [← hg]
        clear hw1 hg
        refine fd.out.mono ?_
        rintro e w2 ⟨rfl, o2⟩
        have l3 := o2.cell l0 (by simp)
        have hfin := hid (same.out w2 (o1.trans0 o2))
        go_wp2
        go_ret
        exact ⟨rfl, hfin.out⟩
      · rw [if_neg hfull]
        have h32 : n < 32 := by omega
        have HL2 := hid l2
        have HH := hid h
        clear hi hn hgs l2 h
        go_enter Try.func47, Try.ntmps47
        go_wp2_with (first | (rw [← hw1, ← hg]; refine wpList_load_dig (by rfl) _ (by rfl) gd d (by rfl) hD ?_) | (refine wpList_load_dig (by rfl) _ (by rfl) gd d (by rfl) hD ?_))
        try rw [← hw1]
        try rw [← hg]
        clear hw1 hg
        refine fd.out.mono ?_
        rintro e w2 ⟨rfl, o2⟩
        have o12 := o1.trans0 o2
        have s2 := o12.size
        have l3 := o2.cell l0 (by simp)
        go_wp2_with fail
        obtain ⟨H, hH1, hH2, hH3, hH4⟩ := HL2.out
        have hHl : (H.map (·.1)).length = n := by rw [hH1, HN.out]
        have o2y : Only [] w1 w2 := o2
        have hLy : ∀ b, (Value.slice la n lc).ownBlock = some b → b ≠ y := fun b hb e => HH.out.ny.2 (by rw [← e]; exact hH3 b (by rw [← HN.out]; exact hb))
        have hCs : Cs 33 w2 (.slice la n lc) n (gotC H) := by
          have := hH2.kept0 o2
          rwa [← HN.out] at this
        have z3 : w2.frozen? ⟨y, 0, none⟩ = false := by rw [o2.frozen' (by show y < _; omega) (by simp)]; exact z0
        refine keep10_ok _ w2 y gd n la lc sa sc d s (gotC H) _ _ _ _ _ _ _ _ _ _ _ _ _ _ _ _ _ _ _ _ _ _ _ _ _ _ _ _ _ _ _ _ _ _ _ _ _ _ _ _ _ _ _ _ _ _ _ _ _ _ _ _ _ _ ⟨l3, z3⟩ hCs hLy (gotC_one (w := w1) H (fun p hp => (hH4 p hp).2.1)) (by omega) HD.out (hD.kept0 o2).range hgy (hs.kept0 o12) hsy hsl (by omega) ?_
        intro r2 r3 v42 v47 v49 v51 v52 v53 v54 W oW hW4 hW0 hr3 hr2
        have hRK := (HH.out.kept0 o12)
        have hnb : ∀ i, w.heap.size ≤ i → i < W.heap.size → i ∈ newBs w W := fun i h1 h2 => mem_newBs.2 ⟨h1, h2⟩
        have hfin : RKeepPost w y x ls bs f rs (0, { m with sh := m.sh ++ [(d, s)] }) (.returned (.int .i64 0)) W := by
          refine ⟨rfl, hRK.setL oW hW0 ?_ (fun i hi => List.mem_append_left _ hi) ?_ hW4, o12.trans oW (ds := [y]) (by simp) (by simp)⟩
          · refine ⟨H ++ [((d, s), r2)], by rw [List.map_append, hH1]; rfl, ?_, ?_, ?_⟩
            · rw [gotC_snoc, List.length_append, ← HN.out]
              exact hr3.cs (by omega)
            · intro i hi
              have := hr3.own_lt (by omega) i hi
              exact List.mem_append_right _ (hnb i (by omega) this.2)
            · intro p hp
              rcases List.mem_append.1 hp with hp | hp
              · refine ⟨(hH4 p hp).1, ((hH4 p hp).2.1.kept0 o2).kept oW (fun b hb hm => ?_), fun i hi => List.mem_append_left _ ((hH4 p hp).2.2 i hi)⟩
                rw [List.mem_singleton] at hm
                exact HH.out.ny.2 (by rw [← hm]; exact (hH4 p hp).2.2 b hb)
              · obtain rfl : p = ((d, s), r2) := by simpa using hp
                refine ⟨HD.out, hr2.bs rfl rfl (show s.length ≤ 9223372036854775807 by omega), fun i hi => ?_⟩
                have := hr2.own_lt (by omega) i hi
                exact List.mem_append_right _ (hnb i (by omega) this.2)
          · intro i hi
            rcases List.mem_append.1 hi with hi | hi
            · exact hts i hi
            · have := (mem_newBs.1 hi).1
              exact ⟨fun hm => by have := hl i hm; omega, by omega⟩
        replace hfin := hid hfin
        clear hRK hnb hr3 hr2 hW0 hW4 hCs HL2 HH hH2 hH4 hD fd same
        go_wp2
        go_ret
        exact hfin.out
end Go.Proofs.Ytnlmeaijnfjakaa.Sh
/- The document's keyper: shares forgotten: walked. (Printed by gen_kre.py.) -/
namespace Go.Proofs.Ytnlmeaijnfjakaa.Sh
set_option linter.unusedSimpArgs false
set_option linter.unusedVariables false
open Go Go.RowKit

/-- What is cut out at a place. -/
theorem dropS_at : ∀ (sh : List (List UInt8 × List UInt8)) (d : List UInt8) (k : Nat) (hk : k < sh.length), (sh.map (·.1)).Nodup → sh[k].1 = d → dropS sh d = sh.take k ++ sh.drop (k + 1)
  | [], d, k, hk, _, _ => by simp at hk
  | p :: sh, d, 0, _, hn, he => by
    simp only [List.map_cons, List.nodup_cons] at hn
    simp only [List.getElem_cons_zero] at he
    subst he
    simp only [dropS, List.filter_cons, bne_self_eq_false, Bool.false_eq_true, if_false, List.take_zero, List.nil_append, List.drop_succ_cons, List.drop_zero]
    refine List.filter_eq_self.2 (fun q hq => ?_)
    rw [bne_iff_ne]
    intro e
    exact hn.1 (List.mem_map.2 ⟨q, hq, e⟩)
  | p :: sh, d, k + 1, hk, hn, he => by
    simp only [List.map_cons, List.nodup_cons] at hn
    have ih := dropS_at sh d k (by simpa using hk) hn.2 (by simpa using he)
    have hpd : (p.1 != d) = true := by
      rw [bne_iff_ne]
      intro e
      refine hn.1 ?_
      rw [e, ← he]
      exact List.mem_map.2 ⟨sh[k]'(by simpa using hk), List.getElem_mem _, by simp⟩
    unfold dropS at ih ⊢
    rw [List.filter_cons, if_pos hpd, ih]
    simp
theorem dropS_no (sh : List (List UInt8 × List UInt8)) (d : List UInt8) (h : getS sh d = none) : dropS sh d = sh := by
  refine List.filter_eq_self.2 (fun q hq => ?_)
  rw [bne_iff_ne]
  intro e
  exact getS_none.1 h (List.mem_map.2 ⟨q, hq, e⟩)
theorem findI_key : ∀ (sh : List (List UInt8 × List UInt8)) (d t : List UInt8), getS sh d = some t → ∃ (k : Nat) (hk : k < sh.length), findI sh d = (k : Int) ∧ sh[k].1 = d
  | [], d, t, h => by simp [getS] at h
  | p :: sh, d, t, h => by
    unfold getS at h
    rw [List.find?_cons] at h
    by_cases hp : p.1 = d
    · exact ⟨0, by simp, by unfold findI; rw [if_pos hp]; rfl, by simpa using hp⟩
    · rw [beq_eq_false_iff_ne.2 hp] at h
      obtain ⟨k, hk, h1, h2⟩ := findI_key sh d t h
      refine ⟨k + 1, by simpa using hk, ?_, by simpa using h2⟩
      unfold findI
      rw [if_neg hp, h1, if_neg (by omega)]
      omega
theorem gotC_take : ∀ (H : List ((List UInt8 × List UInt8) × Value)) (k : Nat), (∀ p ∈ H, p.1.1.length = 32) → gotC (H.take k) = (gotC H).take (k * 33)
  | [], k, _ => by simp [gotC]
  | p :: H, 0, _ => by simp [gotC]
  | p :: H, k + 1, hd => by
    have hp := hd p (by simp)
    have ih := gotC_take H k (fun q hq => hd q (by simp [hq]))
    have hl : (bytes p.1.1 ++ [p.2]).length = 33 := by simp [bytes, hp]
    unfold gotC at ih ⊢
    rw [List.take_succ_cons, List.flatMap_cons, List.flatMap_cons, ih, List.take_append, hl, show (k + 1) * 33 - 33 = k * 33 by omega, List.take_of_length_le (l := bytes p.1.1 ++ [p.2]) (by rw [hl]; omega)]
theorem gotC_drop : ∀ (H : List ((List UInt8 × List UInt8) × Value)) (k : Nat), (∀ p ∈ H, p.1.1.length = 32) → gotC (H.drop k) = (gotC H).drop (k * 33)
  | [], k, _ => by simp [gotC]
  | p :: H, 0, _ => by simp [gotC]
  | p :: H, k + 1, hd => by
    have hp := hd p (by simp)
    have ih := gotC_drop H k (fun q hq => hd q (by simp [hq]))
    have hl : (bytes p.1.1 ++ [p.2]).length = 33 := by simp [bytes, hp]
    unfold gotC at ih ⊢
    rw [List.drop_succ_cons, List.flatMap_cons, ih, List.drop_append, hl, show (k + 1) * 33 - 33 = k * 33 by omega, List.drop_of_length_le (l := bytes p.1.1 ++ [p.2]) (by rw [hl]; omega), List.nil_append]

theorem Cs.pre {z : Nat} {w : World} {a : Option Addr} {n cap : Nat} {cs : List Value} (h : Cs z w (.slice a n cap) n cs) (k : Nat) (hk : k ≤ n) : Cs z w (.slice a k cap) k (cs.take (k * z)) := by
  obtain ⟨hl, a', cap', he, h1, h2, h3, h4⟩ := h
  simp only [Value.slice.injEq] at he
  obtain ⟨rfl, _, rfl⟩ := he
  have hkz : k * z ≤ n * z := Nat.mul_le_mul_right z hk
  refine ⟨by rw [List.length_take]; omega, a, cap, rfl, by omega, h2, by omega, ?_⟩
  rcases h4 with h4 | ⟨b, o, rfl, h4⟩
  · left; simp [h4]
  · right
    refine ⟨b, o, rfl, fun j u hj => h4 j u ?_⟩
    rw [List.getElem?_take] at hj
    split at hj
    · exact hj
    · cases hj
theorem Cs.suf {z : Nat} {w : World} {b o : Nat} {n cap : Nat} {cs : List Value} (h : Cs z w (.slice (some ⟨b, o, none⟩) n cap) n cs) (k : Nat) (hk : k ≤ n) : Cs z w (.slice (some ⟨b, o + k * z, none⟩) (n - k) (cap - k)) (n - k) (cs.drop (k * z)) := by
  obtain ⟨hl, a', cap', he, h1, h2, h3, h4⟩ := h
  simp only [Value.slice.injEq] at he
  obtain ⟨rfl, _, rfl⟩ := he
  refine ⟨by rw [List.length_drop, hl, Nat.sub_mul], some ⟨b, o + k * z, none⟩, cap - k, rfl, by omega, by omega, by omega, ?_⟩
  rcases h4 with h4 | ⟨b', o', he, h4⟩
  · left; simp [h4]
  · simp only [Option.some.injEq, Addr.mk.injEq] at he
    obtain ⟨rfl, rfl, _⟩ := he
    right
    refine ⟨b, o + k * z, rfl, fun j u hj => ?_⟩
    rw [List.getElem?_drop] at hj
    rw [Nat.add_assoc]
    exact h4 _ u hj
theorem Cs.none {z : Nat} {w : World} {a : Option Addr} : Cs z w (.slice a 0 0) 0 [] := ⟨by simp, a, 0, rfl, by omega, by unfold maxLen; omega, by omega, .inl rfl⟩

def RForgetPost (w : World) (y x : Nat) (ls bs : List Nat) (f : List UInt8) (rs : List (List UInt8)) (r : Nat × Km) (e : Ending) (w' : World) : Prop :=
  e = .returned (.int .i64 (r.1 : Int)) ∧ RKp w' y x ls (bs ++ newBs w w') r.2 f rs ∧ Only [y] w w'

set_option maxRecDepth 20000 in
set_option maxHeartbeats 3200000 in
theorem rforget_any (w : World) (y x : Nat) (ls bs : List Nat) (m : Km) (f : List UInt8) (rs : List (List UInt8)) (h : RKp w y x ls bs m f rs) (hl : ∀ i ∈ ls, i < w.heap.size) (hbl : ∀ i ∈ bs, i < w.heap.size) (hi : KInv m) (v : Value) (ids : List (List UInt8)) (hv : Dgs w v ids) (hvy : ∀ b, v.ownBlock = some b → b ≠ y) (hil : ids.length ≤ 1000) :
    Calls Try.prog 51 #[.pointer (some ⟨y, 0, none⟩), v] w (RForgetPost w y x ls bs f rs (forgetK m ids)) := by
  obtain ⟨a, cap, rfl, h1, h2, h3⟩ := hv.form
  have hylt := h.lt
  have hts : ∀ i ∈ bs, i ∉ ls ∧ i ≠ y := fun i hi => ⟨h.dis i hi, fun e => h.ny.2 (by rw [← e]; exact hi)⟩
  have hu := Try.underlying35
  have hfew := hi.few
  have hk0 := h.wide (V := w) (w' := w) hylt hl (fun i hi => List.mem_append_left _ hi) hts
  have HI := hid hi
  clear h hi
  go_enter Try.func51, Try.ntmps51
  go_wp2_with fail
  go_loopw [5, 11] (fun nv i wr => ∃ (k c : Nat) (sh : List (List UInt8 × List UInt8)), k ≤ ids.length ∧ i = .int .i64 k ∧ nv = .int .i64 (c : Int) ∧ Hid (sh = forgetS m.sh (ids.take k)) ∧ Hid (c + sh.length = m.sh.length) ∧ RKp wr y x ls (bs ++ newBs w wr) { m with sh := sh } f rs ∧ Only [y] w wr) (fun _ i _ => ids.length - (intOf i).toNat)
  case atStart => exact ⟨0, 0, m.sh, Nat.zero_le _, rfl, rfl, hid rfl, hid (by omega), hk0, Only.refl _ _⟩
  case round =>
    obtain ⟨k, c, sh, hk, rfl, rfl, hsh, hcl, hK, ho⟩ := hrel
    have sr := ho.size
    by_cases hlt : k < ids.length
    · obtain ⟨b, o, rfl, hr⟩ := (hv.kept ho (fun b hb hm => hvy b hb (by rw [← List.mem_singleton.1 hm]))).at k hlt
      have hl32 := hv.2 ids[k] (List.getElem_mem hlt)
      have hnext := hid (show forgetS m.sh (ids.take (k + 1)) = dropS sh ids[k] by
        rw [hsh.out, List.take_succ_eq_append_getElem hlt]
        unfold forgetS
        rw [List.foldl_append]
        rfl)
      have hnd : (sh.map (·.1)).Nodup := by
        have := (forgetS_sub (ids.take k) m.sh).map (·.1)
        rw [← hsh.out] at this
        exact this.nodup HI.out.keys
      have hfw : sh.length ≤ 32 := by have := hcl.out; omega
      have hcf : c ≤ 32 := by have := hcl.out; omega
      obtain ⟨d, hd⟩ : ∃ d, d = ids[k] := ⟨_, rfl⟩
      rw [← hd] at hr hl32 hnext
      have hin : (Try.prog.info? 35).map (·.size) = some (bytes d).length := by rw [dig_info]; simp [bytes, hl32]
      have fd := find_any wr y x ls _ _ f rs hK d hl32
      simp only at fd
      rw [show vD d = .agg (bytes d).toArray from rfl] at fd
      have HK := hid hK
      have HD32 := hid hl32
      cases hg : getS sh d with
      | none =>
        rw [findI_no _ _ hg] at fd
        replace fd := hid fd
        have hnx := hid (hnext.out.trans (dropS_no sh d hg))
        clear hg hd hnd hnext hl32 hK
        go_wp2_with (refine wpList_load_mid (by rfl) 35 _ (by rfl) b (o + k * 32) (by rfl) _ _ hr hu rfl hin ?_)
        refine fd.out.mono ?_
        rintro e w2 ⟨rfl, o2⟩
        have s2 := o2.size
        have hK2 : RKp w2 y x ls (bs ++ newBs w w2) { m with sh := sh } f rs := (HK.out.kept0 o2).wide hylt hl (fun i hi => by
          rcases List.mem_append.1 hi with hi | hi
          · exact List.mem_append_left _ hi
          · have := mem_newBs.1 hi
            exact List.mem_append_right _ (mem_newBs.2 ⟨this.1, by omega⟩)) hts
        clear HK fd
        go_wp2
        go_roundw
        case rel => exact ⟨k + 1, c, sh, by omega, by go_num, rfl, hid hnx.out.symm, hcl, hK2, ho.trans o2 (ds := [y]) (by simp) (by simp)⟩
        case measure => simp [intOf]; omega
      | some t =>
        obtain ⟨q, hq, hf1, hf2⟩ := findI_key _ _ _ hg
        rw [hf1] at fd
        replace fd := hid fd
        have hcut := dropS_at sh d q hq hnd hf2
        have hnx := hid (hnext.out.trans hcut)
        clear hg hd hnd hnext hl32 hcut hf1 hf2
        obtain ⟨lv, ⟨l0, z0⟩, l2⟩ := hK.c0
        obtain ⟨la, lc, rfl, f1, f2, f3⟩ := l2.form
        obtain ⟨b2, o2', _, rfl, _⟩ := l2.at q hq
        have HL2 := hid l2
        obtain ⟨n, hn⟩ : ∃ n, n = sh.length := ⟨_, rfl⟩
        simp only at l0 f1 f3
        rw [← hn] at l0 f1 f3 hq hfw
        have HN := hid hn
        clear hK l2 hn
        have hq64 : (q : Int) + 1 ≤ (n : Int) := by omega
        by_cases hend : lc - (q + 1) = 0
        all_goals
          go_wp2_with (refine wpList_load_mid (by rfl) 35 _ (by rfl) b (o + k * 32) (by rfl) _ _ hr hu rfl hin ?_)
          refine fd.out.mono ?_
          rintro e w2 ⟨rfl, o2⟩
          have l3 := o2.cell l0 (by simp)
          have s2 := o2.size
          obtain ⟨H, hH1, hH2, hH3, hH4⟩ := HL2.out
          have hH1n : H.length = n := by rw [HN.out, ← hH1]; simp
          have h32 : ∀ p ∈ H, p.1.1.length = 32 := fun p hp => (hH4 p hp).1
          have hC2 : Cs 33 w2 (.slice (some ⟨b2, o2', none⟩) n lc) n (gotC H) := by
            have := hH2.kept0 o2
            rwa [← HN.out] at this
          have hCt := hC2.pre q (by omega)
          rw [← gotC_take H q h32] at hCt
          have hCd : Cs 33 w2 (.slice (some ⟨b2, o2' + (q + 1) * 33, none⟩) (n - (q + 1)) (lc - (q + 1))) (n - (q + 1)) (gotC (H.drop (q + 1))) := by
            rw [gotC_drop H (q + 1) h32]
            exact hC2.suf (q + 1) (by omega)
          have hone := gotC_one (w := wr) H (fun p hp => (hH4 p hp).2.1)
          have hon1 : ∀ u ∈ gotC (H.take q), u.oneCell' = true := fun u hu => by
            rw [gotC_take H q h32] at hu
            exact hone u (List.mem_of_mem_take hu)
          have hon2 : ∀ u ∈ gotC (H.drop (q + 1)), u.oneCell' = true := fun u hu => by
            rw [gotC_drop H (q + 1) h32] at hu
            exact hone u (List.mem_of_mem_drop hu)
          have hyb2 : b2 ≠ y := fun e => HK.out.ny.2 (by rw [← e]; exact hH3 b2 rfl)
          obtain ⟨C1, hC1⟩ : ∃ C1, C1 = gotC (H.take q) := ⟨_, rfl⟩
          obtain ⟨C2, hC2e⟩ : ∃ C2, C2 = gotC (H.drop (q + 1)) := ⟨_, rfl⟩
          rw [← hC1] at hCt hon1
          rw [← hC2e] at hCd hon2
          have z3 : w2.frozen? ⟨y, 0, none⟩ = false := by rw [o2.frozen' (by show y < _; omega) (by simp)]; exact z0
          replace hC1 := hid hC1
          replace hC2e := hid hC2e
          replace hH1n := hid hH1n
          have hCe : lc - (q + 1) = 0 → Cs 33 w2 (.slice (some ⟨b2, o2', none⟩) (n - (q + 1)) 0) (n - (q + 1)) C2 := fun h0 => by
            have hn0 : n - (q + 1) = 0 := by omega
            have hc0 : C2 = [] := by
              rw [hC2e.out, List.drop_of_length_le (by have := hH1n.out; omega)]
              rfl
            rw [hn0, hc0]
            exact Cs.none
          clear hC2 hone
          go_wp2_with (first
            | (at_builtin; refine wpList_app (by rfl) _ _ 67 (by rfl) w2.heap.size 127 33 56 el_got (by rfl) own3 (by rfl) (hCd.kept0 o3) hon2 (by omega) (by omega) (by omega) ?_; intro v4 w4 own4 app4; obtain ⟨ra4, rc4, rfl⟩ := own_form own4; have o4 : Only [] w2 w4 := o3.app app4 (fun i hi => .inr (own3.lt i hi).1); have l5 := o4.cell l3 (by simp); have z5 : w4.frozen? ⟨y, 0, none⟩ = false := by rw [o4.frozen' (by show y < _; omega) (by simp)]; exact z3)
            | (at_builtin; refine wpList_app (by rfl) _ _ 67 (by rfl) w2.heap.size 127 33 56 el_got (by rfl) own3 (by rfl) ((hCe hend).kept0 o3) hon2 (by omega) (by omega) (by omega) ?_; intro v4 w4 own4 app4; obtain ⟨ra4, rc4, rfl⟩ := own_form own4; have o4 : Only [] w2 w4 := o3.app app4 (fun i hi => .inr (own3.lt i hi).1); have l5 := o4.cell l3 (by simp); have z5 : w4.frozen? ⟨y, 0, none⟩ = false := by rw [o4.frozen' (by show y < _; omega) (by simp)]; exact z3)
            | (at_builtin; refine wpList_app (by rfl) _ _ 67 (by rfl) w2.heap.size 127 33 56 el_got (by rfl) (World.ownsRow_nil _ _ _ _) (by rfl) hCt hon1 (by omega) (by omega) (by omega) ?_; intro v3 w3 own3 app3; rw [Nat.zero_add, List.nil_append] at own3; obtain ⟨ra3, rc3, rfl⟩ := own_form own3; have o3 : Only [] w2 w3 := (Only.refl [] w2).app app3 (fun i hi => by simp [Value.ownBlock] at hi); have l4 := o3.cell l3 (by simp); have s3 := o3.size))
          obtain ⟨W, hW⟩ : ∃ W, W = w4.setCell ⟨y, 0, none⟩ (.slice ra4 (q + (n - (q + 1))) rc4) := ⟨_, rfl⟩
          have o5 : Only [y] w4 W := by rw [hW]; exact (Only.refl _ w4).setCell (.inl (by simp)) _
          have s5 : W.heap.size = w4.heap.size := by rw [hW]; simp
          have s4 := o4.size
          have hcell : W.cell? ⟨y, 0, none⟩ = some (.slice ra4 (q + (n - (q + 1))) rc4) ∧ W.frozen? ⟨y, 0, none⟩ = false := by
            rw [hW]
            exact ⟨World.cell?_setCell_same _ _ _ l5, by simpa [go_sem] using z5⟩
          have hrest : ∀ i, i ≠ 0 → W.cell? ⟨y, i, none⟩ = w4.cell? ⟨y, i, none⟩ ∧ W.frozen? ⟨y, i, none⟩ = w4.frozen? ⟨y, i, none⟩ := fun i hi => by
            rw [hW]
            exact ⟨World.cell?_setCell_other _ _ _ _ (by intro e; exact hi (by simpa using congrArg Addr.off e.symm)), by simp [go_sem]⟩
          have hRK := (HK.out.kept0 o2).kept0 o4
          have hin2 : ∀ i ∈ bs ++ newBs w wr, i ∈ bs ++ newBs w W := fun i hi => by
            rcases List.mem_append.1 hi with hi | hi
            · exact List.mem_append_left _ hi
            · have := mem_newBs.1 hi
              exact List.mem_append_right _ (mem_newBs.2 ⟨this.1, by omega⟩)
          have hgo : Gots W (bs ++ newBs w W) (.slice ra4 (q + (n - (q + 1))) rc4) (sh.take q ++ sh.drop (q + 1)) := by
            refine ⟨H.take q ++ H.drop (q + 1), by rw [List.map_append, List.map_take, List.map_drop, hH1], ?_, ?_, ?_⟩
            · have hl2 : (sh.take q ++ sh.drop (q + 1)).length = q + (n - (q + 1)) := by simp; have := HN.out; omega
              have hg2 : gotC (H.take q ++ H.drop (q + 1)) = C1 ++ C2 := by rw [hC1.out, hC2e.out]; unfold gotC; rw [List.flatMap_append]
              rw [hl2, hg2]
              exact Cs.of_own (own_only own4 o5 (fun i hi hm => by have := (own4.lt i hi).1; rw [List.mem_singleton] at hm; omega)) (by omega)
            · intro i hi
              have := own4.lt i hi
              exact List.mem_append_right _ (mem_newBs.2 ⟨by omega, by omega⟩)
            · intro p hp
              have hpH : p ∈ H := by
                rcases List.mem_append.1 hp with hp | hp
                · exact List.mem_of_mem_take hp
                · exact List.mem_of_mem_drop hp
              obtain ⟨g1, g2, g3⟩ := hH4 p hpH
              refine ⟨g1, ((g2.kept0 o2).kept0 o4).kept o5 (fun b hb hm => ?_), fun i hi => hin2 i (g3 i hi)⟩
              rw [List.mem_singleton] at hm
              exact HK.out.ny.2 (by rw [← hm]; exact g3 b hb)
          have hfin : RKp W y x ls (bs ++ newBs w W) { m with sh := sh.take q ++ sh.drop (q + 1) } f rs := hRK.setL o5 hcell hgo hin2 (fun i hi => by
            rcases List.mem_append.1 hi with hi | hi
            · exact hts i hi
            · have := (mem_newBs.1 hi).1
              exact ⟨fun hm => by have := hl i hm; omega, by omega⟩) hrest
          have hof : Only [y] w W := ((ho.trans o2 (ds := [y]) (by simp) (by simp)).trans o4 (ds := [y]) (by simp) (by simp)).trans o5 (ds := [y]) (by simp) (by simp)
          have hcnt : Hid (c + 1 + (sh.take q ++ sh.drop (q + 1)).length = m.sh.length) := by
            show _ = _
            have h7 := hcl.out
            have h8 := HN.out
            simp only [List.length_append, List.length_take, List.length_drop]
            omega
          clear hgo hRK hcell hrest hCt hCd hCe HL2 hH4 HK own3 own4 hon1 hon2 fd o5
          go_wp2
          rw [← hW]
          clear hW
          go_roundw
          case rel => exact ⟨k + 1, c + 1, sh.take q ++ sh.drop (q + 1), by omega, by go_num, by go_num, hid hnx.out.symm, hcnt, hfin, hof⟩
          case measure => simp [intOf]; omega
    · obtain rfl : k = ids.length := by omega
      rw [List.take_length] at hsh
      have hres : Hid (RForgetPost w y x ls bs f rs (forgetK m ids) (.returned (.int .i64 (c : Int))) wr) := by
        have he : forgetK m ids = (c, { m with sh := sh }) := by
          unfold forgetK
          rw [← hsh.out]
          have := hcl.out
          congr 1
          omega
        rw [he]
        exact ⟨rfl, hK, ho⟩
      clear hK hsh hcl
      go_wp2
      go_ret
      exact hres.out
end Go.Proofs.Ytnlmeaijnfjakaa.Sh
