/- The program's ledger: what one has, what is held back altogether, the total: walked. -/
import Derived.Test.YtiinfiaemiaamaaLedD
import Derived.Maps.RangeWalk
namespace Go.Proofs.Ytiinfiaemiaamaa.Sh
open Go Go.RowKit

def balE (m : Lm) (who : Int) : Nat := if m.is who then m.b who.toNat else 0
def nonE (m : Lm) (who : Int) : Nat := if m.is who then m.n who.toNat else 0

theorem balance_any (w : World) (x ab mb T : Nat) (m : Lm) (h : Led w x ab mb m) (hi : LInv T m) (who : Int) :
    Calls Try.prog 18 #[.pointer (some ⟨x, 0, none⟩), .int .i64 who] w fun e w' => e = .returned (u64 (balE m who)) ∧ w' = w := by
  have hk := hi.few.2
  unfold balE
  by_cases hw : m.is who
  · obtain ⟨ha, hae⟩ := is_nat hw
    rw [if_pos hw]
    obtain ⟨a, haa⟩ : ∃ a, a = who.toNat := ⟨_, rfl⟩
    rw [← haa] at ha hae ⊢
    subst hae
    have hof := hid (of_in w x ab mb m h hk a ha)
    obtain ⟨b1, b2⟩ := h.cb a ha
    clear haa hw hi
    go_enter Try.func18, Try.ntmps18
    go_wp2_with fail
    refine hof.out.mono ?_
    rintro e w' ⟨rfl, rfl⟩
    go_wp2
    go_ret
    exact ⟨rfl, rfl⟩
  · rw [if_neg hw]
    have hof := hid (of_out w x ab mb m h hk who hw)
    clear hw hi
    go_enter Try.func18, Try.ntmps18
    go_wp2_with fail
    refine hof.out.mono ?_
    rintro e w' ⟨rfl, rfl⟩
    go_wp2
    go_ret
    exact ⟨rfl, rfl⟩
theorem nonce_any (w : World) (x ab mb T : Nat) (m : Lm) (h : Led w x ab mb m) (hi : LInv T m) (who : Int) :
    Calls Try.prog 26 #[.pointer (some ⟨x, 0, none⟩), .int .i64 who] w fun e w' => e = .returned (u64 (nonE m who)) ∧ w' = w := by
  have hk := hi.few.2
  unfold nonE
  by_cases hw : m.is who
  · obtain ⟨ha, hae⟩ := is_nat hw
    rw [if_pos hw]
    obtain ⟨a, haa⟩ : ∃ a, a = who.toNat := ⟨_, rfl⟩
    rw [← haa] at ha hae ⊢
    subst hae
    have hof := hid (of_in w x ab mb m h hk a ha)
    obtain ⟨b1, b2⟩ := h.cn a ha
    clear haa hw hi
    go_enter Try.func26, Try.ntmps26
    go_wp2_with fail
    refine hof.out.mono ?_
    rintro e w' ⟨rfl, rfl⟩
    go_wp2
    go_ret
    exact ⟨rfl, rfl⟩
  · rw [if_neg hw]
    have hof := hid (of_out w x ab mb m h hk who hw)
    clear hw hi
    go_enter Try.func26, Try.ntmps26
    go_wp2_with fail
    refine hof.out.mono ?_
    rintro e w' ⟨rfl, rfl⟩
    go_wp2
    go_ret
    exact ⟨rfl, rfl⟩

/-! the sum over the map -/
def cellN (cs : Array Value) (i : Nat) : Nat := match cs[i]? with | some (.int _ a) => a.toNat | _ => 0
def decH (p : Value × Value) : Nat × Nat × Nat := match p with
  | (.int _ i, .agg cs) => (i.toNat, cellN cs 0, cellN cs 1)
  | _ => (0, 0, 0)
theorem decH_encH (h : Nat × Nat × Nat) : decH (encH h) = h := by
  obtain ⟨a, b, c⟩ := h
  simp [decH, encH, cellN]
theorem sum_perm {l m : List Nat} (h : l.Perm m) : l.sum = m.sum := by
  induction h with
  | nil => rfl
  | cons x _ ih => simp [ih]
  | swap x y l => simp; omega
  | trans _ _ ih1 ih2 => exact ih1.trans ih2

def leftN (w : World) (r mb : Nat) : Nat := match w.heap[r]?, w.heap[mb]? with
  | some (.mapIter _ _ seen _), some (.map arr _) => (arr.toList.filter (fun e => !seen.contains e.born)).length
  | _, _ => 0
theorem Ranging.leftN {w : World} {r mb : Nat} {left : List (Value × Value)} (h : Ranging w r mb left) : leftN w r mb = left.length := by
  obtain ⟨since, seen, stepped, arr, clock, h1, _, h3, _, _, _, rfl⟩ := h
  simp [Sh.leftN, h1, h3]

set_option maxRecDepth 20000 in
set_option maxHeartbeats 1600000 in
theorem all_any (w : World) (x ab mb T : Nat) (m : Lm) (h : Led w x ab mb m) (hi : LInv T m) :
    Calls Try.prog 47 #[.pointer (some ⟨x, 0, none⟩)] w fun e w' => e = .returned (.agg #[u64 (sumTo m.k m.f), u64 (sumTo m.k m.d)]) ∧ Only [] w w' := by
  have hmp := h.mp
  obtain ⟨H, hM, hrel⟩ := h.held
  obtain ⟨hsf, hsd⟩ := hrel.sum
  have hsum := hi.sum
  have hcap := hi.cap
  have hlm := h.lt
  obtain ⟨SF, hSF⟩ : ∃ SF, SF = sumTo m.k m.f := ⟨_, rfl⟩
  obtain ⟨SD, hSD⟩ : ∃ SD, SD = sumTo m.k m.d := ⟨_, rfl⟩
  rw [← hSF] at hsf hsum ⊢
  rw [← hSD] at hsd hsum ⊢
  have HSF := hid hsf
  have HSD := hid hsd
  have hbF : SF ≤ 1152921504606846976 := by omega
  have hbD : SD ≤ 1152921504606846976 := by omega
  clear hsf hsd hSF hSD hi hsum hrel
  have hoa : Only [] w ((w.alloc (Obj.cells #[.int .u64 0, .int .u64 0] 82)).alloc (Obj.cells #[.int .u64 0, .int .u64 0] 82)) := ((Only.refl [] w).alloc _).alloc _
  have hMa := hM.kept0 hoa
  have hmpa := hoa.cell hmp (by simp)
  go_enter Try.func47, Try.ntmps47
  go_wp2_with (at_range; refine wpList_range rfl _ rfl Try.underlying73 rfl hMa ?_; intro w2 hrg ho2 hs2)
  go_frame
  have hs2' : w2.heap.size = w.heap.size + 3 := by rw [hs2]; simp
  have how2 := hoa.trans0 ho2
  have r0 : (w2.cell? ⟨w.heap.size, 0, none⟩ = some (.int .u64 0) ∧ w2.frozen? ⟨w.heap.size, 0, none⟩ = false) ∧ (w2.cell? ⟨w.heap.size, 1, none⟩ = some (.int .u64 0) ∧ w2.frozen? ⟨w.heap.size, 1, none⟩ = false) := ⟨cell_kept ho2 (by simp) (by constructor <;> simp [go_sem]), cell_kept ho2 (by simp) (by constructor <;> simp [go_sem])⟩
  have o0 : (w2.cell? ⟨w.heap.size + 1, 0, none⟩ = some (.int .u64 0) ∧ w2.frozen? ⟨w.heap.size + 1, 0, none⟩ = false) ∧ (w2.cell? ⟨w.heap.size + 1, 1, none⟩ = some (.int .u64 0) ∧ w2.frozen? ⟨w.heap.size + 1, 1, none⟩ = false) := ⟨cell_kept ho2 (by simp) (by constructor <;> simp [go_sem]), cell_kept ho2 (by simp) (by constructor <;> simp [go_sem])⟩
  have hmb := hlm.2
  obtain ⟨r, hr⟩ : ∃ r, r = w.heap.size := ⟨_, rfl⟩
  simp only [World.size_alloc, ← hr] at r0 o0 hs2' hrg hmb ⊢
  have HR := hid hr
  have hx : x ≠ r + 1 + 1 := by have := hlm.1; omega
  have hmne : mb ≠ r ∧ mb ≠ r + 1 ∧ mb ≠ r + 1 + 1 := by omega
  clear hr hoa hMa hmpa hs2 hM hmp ho2
  go_loopw [14] (fun _ wr => ∃ (left : List (Value × Value)) (F D : Nat), Ranging wr (r + 1 + 1) mb left ∧ Hid (∀ p ∈ left, encH (decH p) = p) ∧ Hid (F + (left.map (fun p => (decH p).2.1)).sum = SF) ∧ Hid (D + (left.map (fun p => (decH p).2.2)).sum = SD) ∧
      ((wr.cell? ⟨r + 1, 0, none⟩ = some (.int .u64 (F : Int)) ∧ wr.frozen? ⟨r + 1, 0, none⟩ = false) ∧ (wr.cell? ⟨r + 1, 1, none⟩ = some (.int .u64 (D : Int)) ∧ wr.frozen? ⟨r + 1, 1, none⟩ = false)) ∧
      ((wr.cell? ⟨r, 0, none⟩ = some (.int .u64 0) ∧ wr.frozen? ⟨r, 0, none⟩ = false) ∧ (wr.cell? ⟨r, 1, none⟩ = some (.int .u64 0) ∧ wr.frozen? ⟨r, 1, none⟩ = false)) ∧ Only [] w wr ∧ r + 3 ≤ wr.heap.size) (fun _ wr => leftN wr (r + 1 + 1) mb)
  case atStart =>
    refine ⟨_, 0, 0, hrg, hid ?_, hid ?_, hid ?_, o0, r0, how2, by omega⟩
    · intro p hp
      obtain ⟨h, _, rfl⟩ := List.mem_map.1 hp
      rw [decH_encH]
    · rw [← HSF.out, List.map_map, Nat.zero_add]
      congr 1
    · rw [← HSD.out, List.map_map, Nat.zero_add]
      congr 1
  case round =>
    obtain ⟨left, F, D, hrg, henc, hF, hD, ⟨⟨f0, f1⟩, ⟨g0, g1⟩⟩, hres, how, hsz⟩ := hrel
    have hln := hid hrg.leftN
    go_wp2_with (at_next; refine wpList_next rfl _ rfl rfl hrg ?_ ?_)
    · intro hl0
      subst hl0
      have e1 : F = SF := by simpa using hF.out
      have e2 : D = SD := by simpa using hD.out
      subst e1
      subst e2
      obtain ⟨⟨p0, p1⟩, ⟨p2, p3⟩⟩ := hres
      have hor : Only [] w ((wr.setCell ⟨r, 0, none⟩ (.int .u64 (F : Int))).setCell ⟨r, 1, none⟩ (.int .u64 (D : Int))) := (how.setCell (.inr (by simp only; have := HR.out; omega)) _).setCell (.inr (by simp only; have := HR.out; omega)) _
      go_wp2
      exact bodyPost_ret (v := .agg #[u64 F, u64 D]) (by simp [results, Try.results47, go_sem, p0, p1, p2, p3, f0, g0]) rfl ⟨rfl, hor⟩
    · intro y v left' w3 hperm hrg3 hp3 hs3 hen
      have hin : ∀ p ∈ (y, v) :: left', p ∈ left := fun p hp => hperm.mem_iff.2 hp
      have hyv := henc.out (y, v) (hin _ (by simp))
      obtain ⟨h1, hh1⟩ : ∃ h1, h1 = decH (y, v) := ⟨_, rfl⟩
      rw [← hh1] at hyv
      obtain ⟨i, fi, di⟩ := h1
      simp only [encH, Prod.mk.injEq] at hyv
      obtain ⟨rfl, rfl⟩ := hyv
      have hpF := sum_perm (hperm.map (fun p => (decH p).2.1))
      have hpD := sum_perm (hperm.map (fun p => (decH p).2.2))
      simp only [List.map_cons, List.sum_cons, ← hh1] at hpF hpD
      have hFn : Hid (F + fi + (left'.map (fun p => (decH p).2.1)).sum = SF) := by
        have := hF.out
        show _ = _
        omega
      have hDn : Hid (D + di + (left'.map (fun p => (decH p).2.2)).sum = SD) := by
        have := hD.out
        show _ = _
        omega
      have hbf : F + fi ≤ SF := by have := hFn.out; omega
      have hbd : D + di ≤ SD := by have := hDn.out; omega
      have henc' := hid (fun p (hp : p ∈ left') => henc.out p (hin p (by simp [hp])))
      have hlen := hid (show leftN w3 (r + 1 + 1) mb < leftN wr (r + 1 + 1) mb by
        rw [hrg3.leftN, hln.out]
        have := hperm.length_eq
        simp at this
        omega)
      have c0 := cell_kept hp3 (by simp) ⟨f0, f1⟩
      have c1 := cell_kept hp3 (by simp) ⟨g0, g1⟩
      obtain ⟨f0', f1'⟩ := c0
      obtain ⟨g0', g1'⟩ := c1
      have hres' := hid (show (w3.cell? ⟨r, 0, none⟩ = some (.int .u64 0) ∧ w3.frozen? ⟨r, 0, none⟩ = false) ∧ (w3.cell? ⟨r, 1, none⟩ = some (.int .u64 0) ∧ w3.frozen? ⟨r, 1, none⟩ = false) from ⟨cell_kept hp3 (by simp; omega) hres.1, cell_kept hp3 (by simp; omega) hres.2⟩)
      have how3 : Only [] w w3 := how.trans hp3 (by simp) (by simp; have := HR.out; omega)
      clear hperm hin hh1 hpF hpD hF hD henc hln hrg hres f0 f1 g0 g1
      have hs3' : r + 3 ≤ w3.heap.size := by omega
      have hne1 : r + 1 ≠ w3.heap.size := by omega
      clear hs3
      have hoa3 : Only [] w3 (w3.alloc (Obj.cells #[.int .u64 (fi : Int), .int .u64 (di : Int)] 82)) := (Only.refl [] w3).alloc _
      obtain ⟨f0a, f1a⟩ := cell_kept hoa3 (by simp) ⟨f0', f1'⟩
      obtain ⟨g0a, g1a⟩ := cell_kept hoa3 (by simp) ⟨g0', g1'⟩
      have hrga := hid (hrg3.kept hoa3 (by simp) (by simp))
      have hresa := hid (And.intro (cell_kept hoa3 (by simp) hres'.out.1) (cell_kept hoa3 (by simp) hres'.out.2))
      have howa := how3.trans0 hoa3
      go_wp2
      go_roundw
      case rel =>
        have hoc : ∀ u v' : Value, Only [r + 1] (w3.alloc (Obj.cells #[.int .u64 (fi : Int), .int .u64 (di : Int)] 82)) (((w3.alloc (Obj.cells #[.int .u64 (fi : Int), .int .u64 (di : Int)] 82)).setCell ⟨r + 1, 0, none⟩ u).setCell ⟨r + 1, 1, none⟩ v') := fun u v' => ((Only.refl _ _).setCell (.inl (by simp)) u).setCell (.inl (by simp)) v'
        refine ⟨left', F + fi, D + di, hrga.out.kept (hoc _ _) (by simp) (by simp; omega), henc', hFn, hDn, ?_, ⟨cell_kept (hoc _ _) (by simp) hresa.out.1, cell_kept (hoc _ _) (by simp) hresa.out.2⟩, howa.trans (hoc _ _) (by simp) (by simp; have := HR.out; omega), ?_⟩
        · refine ⟨set_cell ⟨r + 1, 0, none⟩ (set_cell ⟨r + 1, 1, none⟩ ⟨f0a, f1a⟩ ⟨g0a, g1a⟩ (by simp)) ⟨World.cell?_setCell_same _ _ _ f0a, by simpa [go_sem] using f1a⟩ (by simp), ⟨World.cell?_setCell_same _ _ _ (set_cell ⟨r + 1, 1, none⟩ ⟨f0a, f1a⟩ ⟨g0a, g1a⟩ (by simp)).1, by simpa [go_sem] using g1a⟩⟩
        · simp [World.setCell]; omega
      case measure =>
        have := hrga.out.kept (w' := ((w3.alloc (Obj.cells #[.int .u64 (fi : Int), .int .u64 (di : Int)] 82)).setCell ⟨r + 1, 0, none⟩ (.int .u64 ((F : Int) + (fi : Int)))).setCell ⟨r + 1, 1, none⟩ (.int .u64 ((D : Int) + (di : Int)))) (((Only.refl [r + 1] _).setCell (.inl (by simp)) _).setCell (.inl (by simp)) _) (by simp) (by simp; omega)
        rw [this.leftN, ← hrg3.leftN]
        exact hlen.out
end Go.Proofs.Ytiinfiaemiaamaa.Sh
