/- TopRates: a polynomial's value: a range over slices.Backward. -/
import Derived.Test.YtejilfhoeljhkaaTrF
import Derived.RangeFuncNested
import Derived.RangeFuncBound
import Derived.RangeFuncCalls
import Derived.RangeFuncLeaves
import Derived.OwnWalkIn
import Derived.TacticsInMore
import Derived.LoopNIn
import Derived.LoopIn
import Derived.Shelf.Abstract
import Derived.WalkKit
import Derived.Below
namespace Go.Proofs.Ytejilfhoeljhkaa.Sh
open Go Go.RowKit

attribute [local go_sem] Oper.semAt_some

/-- All blocks below n but d are as they were. -/
structure Kx (n d : Nat) (W W' : World) : Prop where
  size : W.heap.size ≤ W'.heap.size
  block : ∀ k, k < n → k ≠ d → W'.heap[k]? = W.heap[k]?

theorem Kx.refl (n d : Nat) (W : World) : Kx n d W W := ⟨Nat.le_refl _, fun _ _ _ => rfl⟩
theorem Kx.trans {n d : Nat} {A B C : World} (h : Kx n d A B) (k : Kx n d B C) : Kx n d A C := ⟨Nat.le_trans h.size k.size, fun i hi hn => (k.block i hi hn).trans (h.block i hi hn)⟩
theorem Kx.putObj {n d : Nat} (W : World) (l : Nat) (o : Obj) (h : n ≤ l) : Kx n d W (W.putObj l o) := ⟨by simp, fun k hk _ => World.putObj_heap_other (by omega)⟩
theorem Kx.cell {n d : Nat} {W W' : World} (h : Kx n d W W') {p : Addr} {v : Value} (hc : W.cell? p = some v) (hp : p.block < n) (hd : p.block ≠ d) : W'.cell? p = some v := (World.cell?_of_block (h.block p.block hp hd)).trans hc
theorem Kx.only {n d : Nat} {W W' : World} (h : Only [] W W') (hn : n ≤ W.heap.size) : Kx n d W W' := ⟨h.size, fun k hk _ => h.block k (by omega) (by simp)⟩
theorem Kx.setCell {n d : Nat} (W : World) (o : Nat) (v : Value) : Kx n d W (W.setCell ⟨d, o, none⟩ v) := ⟨by simp [World.setCell], fun k _ hd => Below.heap_setCell _ _ _ _ hd⟩
theorem ownFrom_kx {β : Type} {n d B : Nat} {w₀ : World} (hn : n ≤ w₀.heap.size) (hB : n ≤ B) : OwnFrom B (fun (_ : β) W => Kx n d w₀ W) :=
  fun _ W W' row hs hg hr => ⟨Nat.le_trans hs.size hg.size, fun k hk hd => (hg.block k (by have := hs.size; omega) (fun e => by have := (hr k e.symm).1; omega)).trans (hs.block k hk hd)⟩

set_option maxRecDepth 100000 in
set_option maxHeartbeats 2000000 in
/-- slices.Backward's closure, for every loop body. -/
theorem back1_in (n : Nat) (hn : 1 ≤ n) (l Bs n₀ d b off len cap : Nat) (zs : List UInt8) (hlen : len ≤ 4096) (hb : b < n₀) (hbd : b ≠ d) (hB : Bs < n₀) (hBd : Bs ≠ d) (J Jx : List (Int × UInt8) → World → Prop)
    (hY : ∀ pre x W, J pre W → pre.length < len → YieldAt Fence.wide (n - 1) Try.prog l #[.int .i64 x.1, vU8 x.2] W fun e W' =>
      (e = .returned (.bool true) ∧ J (pre ++ [x]) W' ∧ Kx n₀ d W W') ∨ (e = .returned (.bool false) ∧ Jx (pre ++ [x]) W'))
    (W : World) (hBs : W.cell? ⟨Bs, 0, none⟩ = some (.slice (some ⟨b, off, none⟩) len cap)) (hc : ∀ j, j < len → W.cell? ⟨b, off + j, none⟩ = some (vU8 (zs[j]?.getD 0))) (h0 : J [] W) :
    CallsIn Fence.wide n Try.prog 28 #[.func (.yield l) #[] #[], .pointer (some ⟨Bs, 0, none⟩)] W fun e W' => (∃ v, e = .returned v) ∧
      ((∃ ys, True ∧ J ys W') ∨ (∃ pre, True ∧ Jx pre W')) := by
  refine callsIn_of_wp Try.func28 rfl trivial ?_ rfl
  simp only [Try.ntmps28, List.size_toArray, List.length_cons, List.length_nil, Nat.reduceAdd, Nat.reduceSub, Array.replicate_succ, Array.replicate_zero, List.push_toArray, List.append_toArray, List.nil_append, List.cons_append]
  gi_wp2
  gi_loopw [3] (fun i wr => ∃ (m : Nat) (pre : List (Int × UInt8)), m + pre.length = len ∧ i = .int .i64 ((m : Int) - 1) ∧ J pre wr ∧ Kx n₀ d W wr)
    (fun i _ => (intOf i + 1).toNat)
  case atStart => exact ⟨len, [], by simp, rfl, h0, Kx.refl _ _ _⟩
  case round =>
    obtain ⟨m, pre, hm, rfl, hJs, hk⟩ := hrel
    have hBw := hk.cell hBs hB hBd
    cases m with
    | zero =>
      have e0 : (((0 : Nat) : Int) - 1) = -1 := by omega
      rw [e0]
      gi_wp2
      go_end0
      exact ⟨⟨_, rfl⟩, .inl ⟨pre, trivial, hJs⟩⟩
    | succ m =>
      have e1 : (((m + 1 : Nat) : Int) - 1) = (m : Int) := by omega
      rw [e1]
      have hcx := hk.cell (hc m (by omega)) hb hbd
      have hml : m < len := by omega
      obtain ⟨fn, tmps, assign, body, hy, hR⟩ := hY pre ((m : Int), zs[m]?.getD 0) wr hJs (by omega)
      dsimp only at hy
      gi_wp2
      refine hR.mono ?_
      rintro e W3 (⟨rfl, hJ3, hk3⟩ | ⟨rfl, hJx3⟩)
      · gi_wp2
        go_roundw
        case rel => exact ⟨m, _, by simp; omega, rfl, hJ3, hk.trans hk3⟩
        case measure => simp [intOf]
      · gi_wp2
        refine bodyPost_ret (results_none rfl _ _ _) rfl ?_
        exact ⟨⟨_, rfl⟩, .inr ⟨_, trivial, hJx3⟩⟩

theorem keepsFrom_only {B : Nat} {W W' : World} (h : Only [] W W') : KeepsFrom B W W' := ⟨h.size, fun k _ _ hk _ => (h.block k (Array.getElem?_eq_some_iff.1 hk).1 (by simp)).trans hk⟩

theorem backward_any (w : World) (a : Option Addr) (len cap : Nat) :
    Calls Try.prog 24 #[.slice a len cap] w fun e w' => e = .returned (.func (.func 28) #[] #[.pointer (some ⟨w.heap.size, 0, none⟩)]) ∧ w' = w.alloc (.cells #[.slice a len cap] 36) := by
  go_enter Try.func24, Try.ntmps24
  go_wp2
  go_ret
  exact ⟨rfl, rfl⟩

theorem Fld.lt {w : World} {b : Nat} (h : Fld w b) : b < w.heap.size := by
  obtain ⟨E, L, t1, _⟩ := h
  exact lt_cell (t1 0 (by omega)).1

set_option maxRecDepth 100000 in
set_option maxHeartbeats 4000000 in
theorem eval_any (w : World) (fb : Nat) (x : UInt8) (b off len cap : Nat) (zs : List UInt8) (hf : Fld w fb) (hlen : len ≤ 4096) (hc : ∀ j, j < len → w.cell? ⟨b, off + j, none⟩ = some (vU8 (zs[j]?.getD 0))) (hb : b < w.heap.size) :
    Calls Try.prog 19 #[.pointer (some ⟨fb, 0, none⟩), .slice (some ⟨b, off, none⟩) len cap, vU8 x] w fun e w' => (∃ z : UInt8, e = .returned (vU8 z)) ∧ Only [] w w' := by
  have hfb := hf.lt
  refine (callsIn_wide (n := 6)).1 ?_
  refine callsIn_of_wp_marks Try.func19 rfl trivial ?_ rfl
  simp only [Try.ntmps19, List.size_toArray, List.length_cons, List.length_nil, Nat.reduceAdd, Nat.reduceSub, Array.replicate_succ, Array.replicate_zero, List.push_toArray, List.append_toArray, List.nil_append, List.cons_append]
  gi_wp2_with fail
  refine ⟨trivial, ?_⟩
  obtain ⟨W3, hW3⟩ : ∃ W3, W3 = ((w.alloc (Obj.cells #[Value.pointer (some { block := fb, off := 0 })] 30)).alloc (Obj.cells #[vU8 x] 5)).alloc (Obj.cells #[Value.int IntKind.u8 0] 5) := ⟨_, rfl⟩
  rw [← hW3]
  have s3 : W3.heap.size = w.heap.size + 3 := by rw [hW3]; simp
  refine (callsIn_wide.2 (backward_any _ _ _ _)).mono ?_
  rintro e w' ⟨rfl, rfl⟩
  obtain ⟨W4, hW4⟩ : ∃ W4, W4 = W3.alloc (.cells #[.slice (some ⟨b, off, none⟩) len cap] 36) := ⟨_, rfl⟩
  rw [← hW4]
  have s4 : W4.heap.size = w.heap.size + 4 := by rw [hW4]; simp [s3]
  rw [s3]
  have o4 : Only [] w W4 := by rw [hW4, hW3]; exact ((((Only.refl [] w).alloc _).alloc _).alloc _).alloc _
  have k0 : W4.cell? ⟨w.heap.size, 0, none⟩ = some (.pointer (some ⟨fb, 0, none⟩)) := by rw [hW4, hW3]; simp [go_sem]
  have k1 : W4.cell? ⟨w.heap.size + 1, 0, none⟩ = some (vU8 x) := by rw [hW4, hW3]; simp [go_sem]
  have k2 : W4.cell? ⟨w.heap.size + 2, 0, none⟩ = some (vU8 0) ∧ W4.frozen? ⟨w.heap.size + 2, 0, none⟩ = false := by rw [hW4, hW3]; constructor <;> simp [go_sem] <;> rfl
  have k3 : W4.cell? ⟨w.heap.size + 3, 0, none⟩ = some (.slice (some ⟨b, off, none⟩) len cap) := by rw [hW4, ← s3]; simp [go_sem]
  have hc4 : ∀ j, j < len → W4.cell? ⟨b, off + j, none⟩ = some (vU8 (zs[j]?.getD 0)) := fun j hj => o4.cell (hc j hj) (by simp)
  have hB0 := o4.below
  clear hW4 hW3
  gi_wp2_with fail
  refine wpIn_rangeFunc_ownG (w := W4) (w0 := W4) (N := len) (S := fun _ => True) (Sp := fun _ => True) (Kp := Kx (w.heap.size + 4) (w.heap.size + 2)) (encs := fun x : Int × UInt8 => #[.int .i64 x.1, vU8 x.2]) rfl (by omega) (gf := 28) (lb := #[.pointer (some ⟨w.heap.size + 3, 0, none⟩)]) rfl trivial (enters_of Try.func28 (by kernel_rfl) rfl)
    (fun l J Jx W hW _ _ hY h0 => back1_in 5 (by omega) l (w.heap.size + 3) (w.heap.size + 4) (w.heap.size + 2) b off len cap zs hlen (by omega) (by omega) (by omega) (by omega) J Jx hY W (hW.cell (p := ⟨w.heap.size + 3, 0, none⟩) (by simp; omega) |>.trans k3) (fun j hj => (hW.cell (p := ⟨b, off + j, none⟩) (by simp; omega)).trans (hc4 j hj)) h0)
    (fun h k => h.trans k) (fun W l o o' hl _ _ _ => Kx.putObj W l o' (by omega)) (Below.refl _ _) (fun _ => rfl)
    (fun _ W => ((∃ z : UInt8, W.cell? ⟨w.heap.size + 2, 0, none⟩ = some (vU8 z) ∧ W.frozen? ⟨w.heap.size + 2, 0, none⟩ = false) ∧ Below w.heap.size w W) ∧ Kx (w.heap.size + 4) (w.heap.size + 2) W4 W)
    (fun _ _ _ => False)
    (OwnFrom.and (OwnFrom.and (Own.from (fun s A B row hs hg hr => by obtain ⟨z, z1, z2⟩ := hs; exact ⟨z, Go.cell_kept z1 hg hr, (Go.frozen_kept z1 hg hr).trans z2⟩) _) (ownFrom_below (Nat.le_refl _) (by omega))) (ownFrom_kx (by omega) (by omega)))
    (fun _ _ _ _ _ hs _ _ => hs)
    ⟨⟨⟨0, k2⟩, hB0⟩, Kx.refl _ _ _⟩
    (fun y => { tmps := #[.pointer (some ⟨fb, 0, none⟩), .slice (some ⟨b, off, none⟩) len cap, vU8 x, .pointer (some ⟨w.heap.size, 0, none⟩), undef, .pointer (some ⟨w.heap.size + 1, 0, none⟩), .int .u8 0, .pointer (some ⟨w.heap.size + 1 + 1, 0, none⟩), undef, vU8 y.2, .slice (some ⟨b, off, none⟩) len cap, .func (.func 28) #[] #[.pointer (some ⟨w.heap.size + 3, 0, none⟩)], .int .i64 y.1, vU8 y.2, undef, undef, undef, undef, undef, undef, undef], defers := [] }) ?assign ?body ?done ?stop
  case assign =>
    intro l x W K hK
    gi_wp2
    exact hK
  case body =>
    rintro l pre y W ⟨⟨⟨z, z1, z2⟩, hB⟩, hk⟩ _
    have c0 := hk.cell k0 (by simp) (by simp)
    have c1 := hk.cell k1 (by simp) (by simp)
    have hoW := only_of_below hB
    have hfW := hid (hf.kept hoW)
    obtain ⟨y1, y2⟩ := y
    simp only
    clear hc hc4 k0 k1 k2 k3
    gi_wp2_with fail
    refine ⟨trivial, ?_⟩
    refine (CallsIn.inRound l (callsIn_wide.2 (mul_any _ _ _ _ hfW.out))).mono ?_
    rintro e w5 ⟨⟨u, rfl, _⟩, o5⟩
    have z5 := cell_kept o5 (by simp) (⟨z1, z2⟩ : W.cell? ⟨w.heap.size + 2, 0, none⟩ = some (vU8 z) ∧ W.frozen? ⟨w.heap.size + 2, 0, none⟩ = false)
    have z51 := z5.1
    have z52 := z5.2
    have s5 := hB.size
    gi_wp2_with fail
    refine ⟨trivial, ?_⟩
    refine (CallsIn.inRound l (callsIn_wide.2 (add_any _ u y2))).mono ?_
    rintro e w' ⟨⟨v, rfl⟩, rfl⟩
    gi_wp2
    have sk := hk.size
    refine ⟨(keepsFrom_only o5).trans ((KeepsOthers.setCell _ _ _).from _), (Kx.only o5 (by omega)).trans (Kx.setCell _ _ _), ⟨⟨v, ?_, ?_⟩, ?_⟩, (hk.trans (Kx.only o5 (by omega))).trans (Kx.setCell _ _ _)⟩
    · exact World.cell?_setCell_same' _ _ _ (by rw [z51]; rfl)
    · rw [World.frozen?_setCell]; exact z52
    · exact ((hoW.trans0 o5).setCell (p := ⟨w.heap.size + 2, 0, none⟩) (.inr (by simp)) _).below
  case done =>
    rintro D ys W hD _ ⟨⟨⟨z, z1, z2⟩, hB⟩, hk⟩ hK
    clear hc hc4 k0 k1 k2 k3
    gi_wp2
    refine ⟨by simp, .inl ⟨_, _, rfl, run_takeDeferred hK, ?_⟩⟩
    exact ⟨_, results_tmp rfl _ _ _, ⟨z, rfl⟩, only_of_below (hB.trans (belowK_b (w := w) (Nat.le_refl _) W D _ _ (by omega) hK rfl rfl))⟩
  case stop =>
    rintro D c pre W _ _ h _
    exact h.elim
end Go.Proofs.Ytejilfhoeljhkaa.Sh
