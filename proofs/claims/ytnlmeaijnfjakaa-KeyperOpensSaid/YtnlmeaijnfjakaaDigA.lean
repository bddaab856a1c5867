/- Digests: arrays of 32 bytes: laws; the law's own digest walked. -/
import Derived.Test.YtnlmeaijnfjakaaCrcC
import Derived.Laws.CopyOwn
import Derived.Stop.BytesEq
import Derived.Deep.RegionHeld3
namespace Go.Proofs.Ytnlmeaijnfjakaa.Sh
set_option linter.unusedSimpArgs false
set_option linter.unusedVariables false
open Go Go.RowKit

/-- A digest's value. -/
def vD (d : List UInt8) : Value := .agg (bytes d).toArray
/-- Bytes, as far as 32 places go. -/
def padL (s : List UInt8) : List UInt8 := s.take 32 ++ List.replicate (32 - s.length) 0
theorem padL_length (s : List UInt8) : (padL s).length = 32 := by simp [padL]; omega

theorem padL_take (s : List UInt8) (k : Nat) (h1 : k ≤ s.length) (h2 : k ≤ 32) : padL (s.take k) = s.take k ++ List.replicate (32 - k) 0 := by
  unfold padL
  rw [List.take_of_length_le (by simp; omega), List.length_take, Nat.min_eq_left h1]
theorem padL_step (s : List UInt8) (k : Nat) (h1 : k < s.length) (h2 : k < 32) : (padL (s.take k)).set k s[k] = padL (s.take (k + 1)) := by
  rw [padL_take s k (by omega) (by omega), padL_take s (k + 1) (by omega) (by omega), List.set_append_right _ _ (by simp; omega), List.length_take, Nat.min_eq_left (by omega), Nat.sub_self,
    show 32 - k = (32 - (k + 1)) + 1 by omega, List.replicate_succ, List.set_cons_zero, List.take_succ_eq_append_getElem h1, List.append_assoc]
  rfl
theorem padL_full (s : List UInt8) (k : Nat) (h1 : k ≤ s.length) (h2 : k ≤ 32) (h : ¬ (k < s.length ∧ k < 32)) : padL (s.take k) = padL s := by
  by_cases hk : k = s.length
  · rw [hk, List.take_length]
  · obtain rfl : k = 32 := by omega
    rw [padL_take s 32 h1 h2]
    unfold padL
    rw [show 32 - s.length = 0 by omega]

/-- A variable of 32 bytes. -/
structure Dv (w : World) (g : Nat) (d : List UInt8) : Prop where
  range : w.rangeAt g 0 (bytes d)
  there : w.there g 0 32
  len : d.length = 32

theorem only_setCells (bs : List Nat) (w : World) (g : Nat) (hg : g ∈ bs ∨ w.heap.size ≤ g) : ∀ (vs : List Value) (o : Nat) (w' : World), Only bs w w' → Only bs w (w'.setCells g o vs)
  | [], _, _, h => h
  | v :: r, o, w', h => only_setCells bs w g hg r (o + 1) _ (h.setCell (p := ⟨g, o, none⟩) hg v)

theorem Dv.kept {w w' : World} {g : Nat} {d : List UInt8} (h : Dv w g d) {bs : List Nat} (ho : Only bs w w') (hn : g ∉ bs) : Dv w' g d := by
  have hb : g < w.heap.size := World.block_lt_of_cell? w _ (h.range 0 (vU8 (d[0]'(by have := h.len; omega))) (by have := h.len; simp [bytes, List.getElem?_eq_getElem (show 0 < d.length by omega)]))
  refine ⟨fun j u hu => ho.cell (h.range j u hu) hn, fun j hj => ?_, h.len⟩
  obtain ⟨h1, h2⟩ := h.there j hj
  exact ⟨by rw [ho.cell' hb hn]; exact h1, by rw [ho.frozen' hb hn]; exact h2⟩

theorem Dv.store {w : World} {g : Nat} (ht : w.there g 0 32) (d : List UInt8) (hd : d.length = 32) : Dv (w.setCells g 0 (bytes d)) g d :=
  ⟨World.rangeAt_setCells_same w g 0 _ (by simpa [bytes, hd] using ht), World.there_setCells ht _ _ _, hd⟩

theorem Dv.set {w : World} {g : Nat} {d : List UInt8} (h : Dv w g d) (i : Nat) (hi : i < 32) (x : UInt8) : Dv (w.setCell ⟨g, i, none⟩ (vU8 x)) g (d.set i x) := by
  obtain ⟨hr, ht, hl⟩ := h
  refine ⟨fun j u hu => ?_, fun j hj => ?_, by simpa using hl⟩
  · by_cases hj : j = i
    · subst hj
      obtain ⟨hs, _⟩ := ht j hi
      obtain ⟨y, hy⟩ := Option.isSome_iff_exists.1 hs
      simp only [Nat.zero_add] at hy ⊢
      rw [World.cell?_setCell_same w _ _ hy, ← hu]
      simp [bytes, hl, hi]
    · rw [World.cell?_setCell_other w _ _ _ (by simp)]
      refine hr j u ?_
      rw [← hu]
      simp [bytes, List.getElem?_set, Ne.symm hj]
  · obtain ⟨h1, h2⟩ := ht j hj
    constructor
    · by_cases hj' : j = i
      · subst hj'
        obtain ⟨y, hy⟩ := Option.isSome_iff_exists.1 h1
        simp only [Nat.zero_add] at hy ⊢
        rw [World.cell?_setCell_same w _ _ hy]
        rfl
      · rw [World.cell?_setCell_other w _ _ _ (by simp)]
        exact h1
    · simpa [go_sem] using h2

theorem dig_info : (Try.prog.info? 35).map (·.size) = some 32 := by kernel_rfl

/-- 32 cells of zero, shut. -/
def Z32 : Array Value := (bytes (List.replicate 32 0)).toArray
theorem alloc_dig (w : World) : (Instr.alloc 35 true (.tuple #[])).run Try.prog w = .ok (.pointer (some ⟨w.heap.size, 0, none⟩)) (w.alloc (.cells Z32 35)) := by kernel_rfl

theorem Z32_list : Z32.toList = bytes (List.replicate 32 0) := rfl
theorem Dv.fresh (w : World) (t : TypeId) : Dv (w.alloc (.cells Z32 t)) w.heap.size (List.replicate 32 0) := by
  refine ⟨fun j u hu => ?_, fun j hj => ?_, by simp⟩
  · rw [World.cell?_alloc_new]
    simpa [Z32] using hu
  · rw [Nat.zero_add, World.cell?_alloc_new]
    constructor
    · simp [Z32, bytes, hj]
    · simp [go_sem]

theorem wpList_alloc_run {P : Program} {ops : Array Oper} {rest : List Oper} {o : Oper} {a : Act} {Q : Exit → Act → World → Prop} {w : World} (hgd : o.guard = none) (t : TypeId) (ho : o.op = .alloc t) {v : Value} {w' : World}
    (hr : (Instr.alloc t true (.tuple #[])).run P w = .ok v w') (h : wpList P ops Q rest (a.put o.dst v) w') : wpList P ops Q (o :: rest) a w := by
  refine wpList_plain hgd fun K hK => ?_
  unfold Oper.wp execOp
  simp only [ho, hr, Sem.run_bind, Sem.run_pure, Result.andThen_ok]
  exact hK _ _ h

theorem build_dig (w : World) : (Instr.build 35 #[]).run Try.prog w = .ok (.agg Z32) w := by kernel_rfl
theorem wpList_build_run {P : Program} {ops : Array Oper} {rest : List Oper} {o : Oper} {a : Act} {Q : Exit → Act → World → Prop} {w : World} (hgd : o.guard = none) (t : TypeId) (ho : o.op = .build t #[]) {v : Value}
    (hr : (Instr.build t #[]).run P w = .ok v w) (h : wpList P ops Q rest (a.put o.dst v) w) : wpList P ops Q (o :: rest) a w := by
  refine wpList_plain hgd fun K hK => ?_
  unfold Oper.wp execOp
  simp only [ho, hr, List.map_toArray, List.map_nil, Sem.run_bind, Sem.run_pure, Result.andThen_ok]
  exact hK _ _ h

theorem wpList_store_dig {ops : Array Oper} {rest : List Oper} {op : Oper} {a : Act} {w : World} {Q : Exit → Act → World → Prop} (hgd : op.guard = none) (x y : Operand) (ho : op.op = .store 35 x y)
    (g : Nat) (d : List UInt8) (cells : Array Value) (hx : a.eval x = .pointer (some ⟨g, 0, none⟩)) (hy : a.eval y = .agg cells) (hcells : cells = (bytes d).toArray) (hd : d.length = 32) (ht : w.there g 0 32)
    (h : ∀ w', Dv w' g d → Only [g] w w' → wpList Try.prog ops Q rest (a.put op.dst undef) w') : wpList Try.prog ops Q (op :: rest) a w := by
  subst hcells
  refine wpList_store_mid hgd 35 x y ho g 0 _ hx hy (by simpa [bytes, hd] using ht) (by rw [dig_info]; simp [bytes, hd]) (all_oneCell_toArray (bytes_one d)) ?_
  exact h _ (Dv.store ht d hd) (only_setCells [g] w g (.inl (by simp)) _ _ _ (Only.refl _ _))

theorem wpList_load_dig {ops : Array Oper} {rest : List Oper} {op : Oper} {a : Act} {w : World} {Q : Exit → Act → World → Prop} (hgd : op.guard = none) (x : Operand) (ho : op.op = .load 35 x)
    (g : Nat) (d : List UInt8) (hx : a.eval x = .pointer (some ⟨g, 0, none⟩)) (hd : Dv w g d)
    (h : wpList Try.prog ops Q rest (a.put op.dst (vD d)) w) : wpList Try.prog ops Q (op :: rest) a w :=
  wpList_load_mid hgd 35 x ho g 0 hx _ _ hd.range Try.underlying35 rfl (by rw [dig_info]; simp [bytes, hd.len]) h

theorem results_dig {fn : Func} {n : Nat} (h : fn.results = #[.cell n 35]) {w : World} (tmps : Array Value) (g : Nat) {d : List UInt8} (ht : tmps.getD n undef = .pointer (some ⟨g, 0, none⟩)) (hd : Dv w g d) :
    (results fn tmps).run Try.prog w = .ok (vD d) w := by
  have hl := run_loadVar_mid (P := Try.prog) w g 0 35 (bytes d) _ hd.range Try.underlying35 rfl (by rw [dig_info]; simp [bytes, hd.len])
  have ht' : tmps[n]?.getD undef = .pointer (some ⟨g, 0, none⟩) := by simpa using ht
  simp [results, h, ht', hl, vD, asAddr]

end Go.Proofs.Ytnlmeaijnfjakaa.Sh
