/- Digests: arrays of 32 bytes: laws; the law's own digest walked. -/
import Derived.Test.YtcceiejfphokbaaCrcD
import Derived.Laws.CopyOwn
import Derived.Stop.BytesEq
import Derived.Deep.RegionHeld3
namespace Go.Proofs.Ytcceiejfphokbaa.Sh
open Go Go.RowKit

/-- A digest's value. -/
def vD (d : List UInt8) : Value := .agg (bytes d).toArray
/-- Bytes, as far as 32 places go. -/
def padL (s : List UInt8) : List UInt8 := s.take 32 ++ List.replicate (32 - s.length) 0
theorem padL_length (s : List UInt8) : (padL s).length = 32 := by simp [padL]; omega

theorem padL_take (s : List UInt8) (k : Nat) (h1 : k ≤ s.length) (h2 : k ≤ 32) : padL (s.take k) = s.take k ++ List.replicate (32 - k) 0 := by
  unfold padL
  rw [List.take_of_length_le (by simp; omega), List.length_take, Nat.min_eq_left h1]
theorem padL_step (s : List UInt8) (k : Nat) (h1 : k < s.length) (h2 : k < 32) : (padL (s.take k)).set k s[k] = padL (s.take (k + 1)) := by
  rw [padL_take s k (by omega) (by omega), padL_take s (k + 1) (by omega) (by omega), List.set_append_right _ _ (by simp; omega), List.length_take, Nat.min_eq_left (by omega), Nat.sub_self,
    show 32 - k = (32 - (k + 1)) + 1 by omega, List.replicate_succ, List.set_cons_zero, List.take_succ_eq_append_getElem h1, List.append_assoc]
  rfl
theorem padL_full (s : List UInt8) (k : Nat) (h1 : k ≤ s.length) (h2 : k ≤ 32) (h : ¬ (k < s.length ∧ k < 32)) : padL (s.take k) = padL s := by
  by_cases hk : k = s.length
  · rw [hk, List.take_length]
  · obtain rfl : k = 32 := by omega
    rw [padL_take s 32 h1 h2]
    unfold padL
    rw [show 32 - s.length = 0 by omega]

/-- A variable of 32 bytes. -/
structure Dv (w : World) (g : Nat) (d : List UInt8) : Prop where
  range : w.rangeAt g 0 (bytes d)
  there : w.there g 0 32
  len : d.length = 32

theorem only_setCells (bs : List Nat) (w : World) (g : Nat) (hg : g ∈ bs ∨ w.heap.size ≤ g) : ∀ (vs : List Value) (o : Nat) (w' : World), Only bs w w' → Only bs w (w'.setCells g o vs)
  | [], _, _, h => h
  | v :: r, o, w', h => only_setCells bs w g hg r (o + 1) _ (h.setCell (p := ⟨g, o, none⟩) hg v)

theorem Dv.kept {w w' : World} {g : Nat} {d : List UInt8} (h : Dv w g d) {bs : List Nat} (ho : Only bs w w') (hn : g ∉ bs) : Dv w' g d := by
  have hb : g < w.heap.size := World.block_lt_of_cell? w _ (h.range 0 (vU8 (d[0]'(by have := h.len; omega))) (by have := h.len; simp [bytes, List.getElem?_eq_getElem (show 0 < d.length by omega)]))
  refine ⟨fun j u hu => ho.cell (h.range j u hu) hn, fun j hj => ?_, h.len⟩
  obtain ⟨h1, h2⟩ := h.there j hj
  exact ⟨by rw [ho.cell' hb hn]; exact h1, by rw [ho.frozen' hb hn]; exact h2⟩

theorem Dv.store {w : World} {g : Nat} (ht : w.there g 0 32) (d : List UInt8) (hd : d.length = 32) : Dv (w.setCells g 0 (bytes d)) g d :=
  ⟨World.rangeAt_setCells_same w g 0 _ (by simpa [bytes, hd] using ht), World.there_setCells ht _ _ _, hd⟩

theorem Dv.set {w : World} {g : Nat} {d : List UInt8} (h : Dv w g d) (i : Nat) (hi : i < 32) (x : UInt8) : Dv (w.setCell ⟨g, i, none⟩ (vU8 x)) g (d.set i x) := by
  obtain ⟨hr, ht, hl⟩ := h
  refine ⟨fun j u hu => ?_, fun j hj => ?_, by simpa using hl⟩
  · by_cases hj : j = i
    · subst hj
      obtain ⟨hs, _⟩ := ht j hi
      obtain ⟨y, hy⟩ := Option.isSome_iff_exists.1 hs
      simp only [Nat.zero_add] at hy ⊢
      rw [World.cell?_setCell_same w _ _ hy, ← hu]
      simp [bytes, hl, hi]
    · rw [World.cell?_setCell_other w _ _ _ (by simp)]
      refine hr j u ?_
      rw [← hu]
      simp [bytes, List.getElem?_set, Ne.symm hj]
  · obtain ⟨h1, h2⟩ := ht j hj
    constructor
    · by_cases hj' : j = i
      · subst hj'
        obtain ⟨y, hy⟩ := Option.isSome_iff_exists.1 h1
        simp only [Nat.zero_add] at hy ⊢
        rw [World.cell?_setCell_same w _ _ hy]
        rfl
      · rw [World.cell?_setCell_other w _ _ _ (by simp)]
        exact h1
    · simpa [go_sem] using h2

theorem dig_info : (Try.prog.info? 62).map (·.size) = some 32 := by kernel_rfl

/-- 32 cells of zero, shut. -/
def Z32 : Array Value := (bytes (List.replicate 32 0)).toArray
theorem alloc_dig (w : World) : (Instr.alloc 62 true (.tuple #[])).run Try.prog w = .ok (.pointer (some ⟨w.heap.size, 0, none⟩)) (w.alloc (.cells Z32 62)) := by kernel_rfl

theorem Z32_list : Z32.toList = bytes (List.replicate 32 0) := rfl
theorem Dv.fresh (w : World) (t : TypeId) : Dv (w.alloc (.cells Z32 t)) w.heap.size (List.replicate 32 0) := by
  refine ⟨fun j u hu => ?_, fun j hj => ?_, by simp⟩
  · rw [World.cell?_alloc_new]
    simpa [Z32] using hu
  · rw [Nat.zero_add, World.cell?_alloc_new]
    constructor
    · simp [Z32, bytes, hj]
    · simp [go_sem]

theorem wpList_alloc_run {P : Program} {ops : Array Oper} {rest : List Oper} {o : Oper} {a : Act} {Q : Exit → Act → World → Prop} {w : World} (hgd : o.guard = none) (t : TypeId) (ho : o.op = .alloc t) {v : Value} {w' : World}
    (hr : (Instr.alloc t true (.tuple #[])).run P w = .ok v w') (h : wpList P ops Q rest (a.put o.dst v) w') : wpList P ops Q (o :: rest) a w := by
  refine wpList_plain hgd fun K hK => ?_
  unfold Oper.wp execOp
  simp only [ho, hr, Sem.run_bind, Sem.run_pure, Result.andThen_ok]
  exact hK _ _ h

theorem build_dig (w : World) : (Instr.build 62 #[]).run Try.prog w = .ok (.agg Z32) w := by kernel_rfl
theorem wpList_build_run {P : Program} {ops : Array Oper} {rest : List Oper} {o : Oper} {a : Act} {Q : Exit → Act → World → Prop} {w : World} (hgd : o.guard = none) (t : TypeId) (ho : o.op = .build t #[]) {v : Value}
    (hr : (Instr.build t #[]).run P w = .ok v w) (h : wpList P ops Q rest (a.put o.dst v) w) : wpList P ops Q (o :: rest) a w := by
  refine wpList_plain hgd fun K hK => ?_
  unfold Oper.wp execOp
  simp only [ho, hr, List.map_toArray, List.map_nil, Sem.run_bind, Sem.run_pure, Result.andThen_ok]
  exact hK _ _ h

theorem wpList_store_dig {ops : Array Oper} {rest : List Oper} {op : Oper} {a : Act} {w : World} {Q : Exit → Act → World → Prop} (hgd : op.guard = none) (x y : Operand) (ho : op.op = .store 62 x y)
    (g : Nat) (d : List UInt8) (cells : Array Value) (hx : a.eval x = .pointer (some ⟨g, 0, none⟩)) (hy : a.eval y = .agg cells) (hcells : cells = (bytes d).toArray) (hd : d.length = 32) (ht : w.there g 0 32)
    (h : ∀ w', Dv w' g d → Only [g] w w' → wpList Try.prog ops Q rest (a.put op.dst undef) w') : wpList Try.prog ops Q (op :: rest) a w := by
  subst hcells
  refine wpList_store_mid hgd 62 x y ho g 0 _ hx hy (by simpa [bytes, hd] using ht) (by rw [dig_info]; simp [bytes, hd]) (all_oneCell_toArray (bytes_one d)) ?_
  exact h _ (Dv.store ht d hd) (only_setCells [g] w g (.inl (by simp)) _ _ _ (Only.refl _ _))

theorem wpList_load_dig {ops : Array Oper} {rest : List Oper} {op : Oper} {a : Act} {w : World} {Q : Exit → Act → World → Prop} (hgd : op.guard = none) (x : Operand) (ho : op.op = .load 62 x)
    (g : Nat) (d : List UInt8) (hx : a.eval x = .pointer (some ⟨g, 0, none⟩)) (hd : Dv w g d)
    (h : wpList Try.prog ops Q rest (a.put op.dst (vD d)) w) : wpList Try.prog ops Q (op :: rest) a w :=
  wpList_load_mid hgd 62 x ho g 0 hx _ _ hd.range Try.underlying62 rfl (by rw [dig_info]; simp [bytes, hd.len]) h

theorem results_dig {fn : Func} {n : Nat} (h : fn.results = #[.cell n 62]) {w : World} (tmps : Array Value) (g : Nat) {d : List UInt8} (ht : tmps.getD n undef = .pointer (some ⟨g, 0, none⟩)) (hd : Dv w g d) :
    (results fn tmps).run Try.prog w = .ok (vD d) w := by
  have hl := run_loadVar_mid (P := Try.prog) w g 0 62 (bytes d) _ hd.range Try.underlying62 rfl (by rw [dig_info]; simp [bytes, hd.len])
  have ht' : tmps[n]?.getD undef = .pointer (some ⟨g, 0, none⟩) := by simpa using ht
  simp [results, h, ht', hl, vD, asAddr]

set_option maxRecDepth 20000 in
set_option maxHeartbeats 400000 in
theorem digest_any (v : Value) (s : List UInt8) (w : World) (hB : Bs w v s) (hl : s.length ≤ 1000000) :
    Calls Try.prog 38 #[v] w fun e w' => e = .returned (vD (padL s)) ∧ Only [] w w' := by
  obtain ⟨_, a, cap, rfl, h1, h2, h3, _⟩ := id hB
  go_enter Try.func38, Try.ntmps38
  go_wp2_with (first
    | (refine wpList_alloc_run (by rfl) 62 (by rfl) (alloc_dig _) ?_)
    | (refine wpList_build_run (by rfl) 62 (by rfl) (build_dig _) ?_)
    | (refine wpList_store_dig (by rfl) _ _ (by rfl) (w.alloc (.cells Z32 62)).heap.size (List.replicate 32 0) Z32 (by rfl) (by rfl) rfl (by simp) (Dv.fresh (w.alloc (.cells Z32 62)) 62).there ?_; intro w2 hD2 hp2; rw [World.size_alloc] at hD2 hp2))
  have hres0 : w2.there w.heap.size 0 32 := by
    have h0 := (Dv.fresh w 62).kept ((Only.refl [] (w.alloc (.cells Z32 62))).alloc (.cells Z32 62)) (by simp)
    exact (h0.kept hp2 (by simp)).there
  have ho2 : Only [] w w2 := (((Only.refl [] w).alloc _).alloc _).trans hp2 (by simp) (by simp)
  obtain ⟨g, hg⟩ : ∃ g, g = w.heap.size + 1 := ⟨_, rfl⟩
  rw [← hg] at hD2 ⊢
  have HG := hid hg
  clear hp2 hg
  go_loopw [4] (fun i wr => ∃ (k : Nat) (d : List UInt8), k ≤ s.length ∧ k ≤ 32 ∧ i = .int .i64 k ∧ Dv wr g d ∧ Hid (d = padL (s.take k)) ∧ wr.there w.heap.size 0 32 ∧ Only [] w wr) (fun i _ => 32 - (intOf i).toNat)
  case atStart => exact ⟨0, _, Nat.zero_le _, by omega, rfl, hD2, by simp [Hid, padL], hres0, ho2⟩
  case round =>
    obtain ⟨k, d, hks, hk32, rfl, hD, hd, hres, ho⟩ := hrel
    have hgs : g < wr.heap.size := by
      obtain ⟨y, hy⟩ := Option.isSome_iff_exists.1 (hD.there 0 (by omega)).1
      exact World.block_lt_of_cell? wr _ hy
    have hgw : w.heap.size < g := by have := HG.out; omega
    by_cases hlt : k < s.length ∧ k < 32
    · obtain ⟨h1k, h2k⟩ := hlt
      obtain ⟨vb, vo, rfl, hld⟩ := (hB.kept0 ho).at k h1k
      obtain ⟨hsome, hfz⟩ := hD.there k h2k
      obtain ⟨y, hc⟩ := Option.isSome_iff_exists.1 hsome
      rw [Nat.zero_add] at hc hfz
      obtain ⟨x, hx⟩ : ∃ x, x = s[k] := ⟨_, rfl⟩
      rw [← hx] at hld
      have hstep : Hid (d.set k x = padL (s.take (k + 1))) := by
        show d.set k x = _
        rw [hd.out, hx]
        exact padL_step s k h1k h2k
      clear hx hsome hd
      go_wp2
      go_roundw
      case rel => exact ⟨k + 1, d.set k x, by omega, by omega, by go_num, hD.set k h2k x, hstep, (fun j hj => by
        have ho' : Only [g] wr (wr.setCell ⟨g, k, none⟩ (vU8 x)) := (Only.refl [g] wr).setCell (p := ⟨g, k, none⟩) (.inl (by simp)) _
        obtain ⟨q1, q2⟩ := hres j hj
        exact ⟨by rw [ho'.cell' (by simp only; omega) (by simp; omega)]; exact q1, by rw [ho'.frozen' (by simp only; omega) (by simp; omega)]; exact q2⟩), ho.setCell (p := ⟨g, k, none⟩) (.inr (by simp only; omega)) _⟩
      case measure => simp [intOf]; omega
    · have hend : Hid (d = padL s) := by
        show d = padL s
        rw [hd.out]
        exact padL_full s k hks hk32 hlt
      by_cases hks' : k < s.length
      all_goals
        have hk32' : k < s.length → ¬ k < 32 := by omega
        try have hk32'' := hk32' hks'
        clear hlt hk32'
        go_wp2_with (first
          | (refine wpList_load_dig (by rfl) _ (by rfl) g d (by rfl) hD ?_)
          | (refine wpList_store_dig (by rfl) _ _ (by rfl) w.heap.size d (bytes d).toArray (by rfl) (by rfl) rfl hD.len hres ?_; intro w3 hD3 hp3))
        refine bodyPost_ret (results_dig rfl _ _ rfl hD3) rfl ?_
        exact ⟨by rw [hend.out], ho.trans hp3 (by simp) (by simp)⟩
end Go.Proofs.Ytcceiejfphokbaa.Sh
