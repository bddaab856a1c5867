/- The codec's Read, over the function that reads: walked. -/
import Derived.Test.YtnlmeaijnfjakaaCodecC
namespace Go.Proofs.Ytnlmeaijnfjakaa.Sh
set_option linter.unusedSimpArgs false
set_option linter.unusedVariables false
open Go Go.RowKit

def intPanic (z : Int) (r : Bool) : PanicEntry := { v := .iface 3 (.int .i64 z), recovered := r }

/-- What the function that reads comes to, and what Read makes of it. N: the number of the first new block: the error's cell; then the reader, then the variable that holds it. -/
def ByPost (N fb : Nat) (R : Ending → World → Prop) (w2 : World) (e : Ending) (w3 : World) : Prop :=
  (∃ bs, Only bs w2 w3 ∧ N ∉ bs ∧ N + 1 + 1 ∉ bs) ∧
  ((∃ l', e = .returned (.tuple #[]) ∧ Rd w3 (N + 1) fb l' ∧ ∀ w4, Only [N, N + 1, N + 1 + 1] w3 w4 → R (.returned (.int .i64 (if l' = [] then 0 else 3))) w4) ∨
   (∃ l' c, e = .panicked (ownEnd (N + 1) c) ∧ Rd w3 (N + 1) fb l' ∧ ∀ w4, Only [N, N + 1, N + 1 + 1] w3 w4 → R (.returned (.int .i64 (c : Int))) w4) ∨
   (∃ l' z, e = .panicked [intPanic z false] ∧ Rd w3 (N + 1) fb l' ∧ ∀ w4, Only [N, N + 1, N + 1 + 1] w3 w4 → R (.panicked [intPanic z false, intPanic z true]) w4))

theorem neq_nilFunc (f : Fn) (x c : Array Value) (w : World) : (binOp .neq 117 (.func f x c) .nilFunc).run Try.prog w = .ok (.bool true) w := by kernel_rfl

set_option maxRecDepth 20000 in
set_option maxHeartbeats 1600000 in
theorem read_any (v : Value) (l : List UInt8) (fb : Nat) (fid : FuncId) (caps : Array Value) (w : World) (R : Ending → World → Prop) (hB : Bs w v l) (hfb : ∀ b, v.ownBlock = some b → l = [] ∨ b = fb) (hfn : fb ≠ w.heap.size + 1) (hcf : ∀ (args : Array Value) (w : World), (callFunc fid args).run Try.prog w = .ok (.enter fid args) w)
    (hby : ∀ w2, Only [] w w2 → w2.heap.size = w.heap.size + 3 → Rd w2 (w.heap.size + 1) fb l → Calls Try.prog fid (#[.pointer (some ⟨w.heap.size + 1, 0, none⟩)] ++ caps) w2 (ByPost w.heap.size fb R w2)) :
    Calls Try.prog 59 #[v, .func (.func fid) #[] caps] w R := by
  have hnf := neq_nilFunc
  obtain ⟨_, a, cap, rfl, h1, h2, h3, _⟩ := _root_.id hB
  have hmf : ∀ (fn : Fn) (first cap : Array Value) (w : World), (Instr.makeFunc fn first cap).run Try.prog w = .ok (.func fn first cap) w := fun _ _ _ _ => rfl
  go_enter_defers Try.func59, Try.ntmps59
  go_wp2_with fail
  have hon : Only [] w (((w.alloc (Obj.cells #[Value.int IntKind.i64 0] 37)).alloc (Obj.cells #[Value.slice a l.length cap, Value.bool true] 134)).alloc (Obj.cells #[Value.pointer (some { block := w.heap.size + 1, off := 0 })] 114)) := (((Only.refl [] w).alloc _).alloc _).alloc _
  have hBn := hB.kept0 hon
  obtain ⟨w2, hw2⟩ : ∃ w2, w2 = (((w.alloc (Obj.cells #[Value.int IntKind.i64 0] 37)).alloc (Obj.cells #[Value.slice a l.length cap, Value.bool true] 134)).alloc (Obj.cells #[Value.pointer (some { block := w.heap.size + 1, off := 0 })] 114)) := ⟨_, rfl⟩
  have hsz : w2.heap.size = w.heap.size + 3 := by rw [hw2]; simp
  have hE : w2.cell? ⟨w.heap.size, 0, none⟩ = some (.int .i64 0) ∧ w2.frozen? ⟨w.heap.size, 0, none⟩ = false := by rw [hw2]; constructor <;> simp [go_sem]
  have hr0 : w2.cell? ⟨w.heap.size + 1, 0, none⟩ = some (.slice a l.length cap) ∧ w2.frozen? ⟨w.heap.size + 1, 0, none⟩ = false := by rw [hw2]; constructor <;> simp [go_sem]
  have hr1 : w2.cell? ⟨w.heap.size + 1, 1, none⟩ = some (.bool true) ∧ w2.frozen? ⟨w.heap.size + 1, 1, none⟩ = false := by rw [hw2]; constructor <;> simp [go_sem]
  have hC : w2.cell? ⟨w.heap.size + 1 + 1, 0, none⟩ = some (.pointer (some ⟨w.heap.size + 1, 0, none⟩)) ∧ w2.frozen? ⟨w.heap.size + 1 + 1, 0, none⟩ = false := by rw [hw2]; constructor <;> simp [go_sem]
  rw [← hw2] at hon hBn ⊢
  clear hw2
  refine (hby w2 hon hsz ⟨⟨_, hr0.1, hBn, hfb⟩, hfn, hr1.1, hr0.2, hr1.2⟩).mono ?_
  rintro e w3 ⟨⟨bs, hob, hb1, hb2⟩, hcases⟩
  have hE3 := hob.cell hE.1 hb1
  have hEz3 : w3.frozen? ⟨w.heap.size, 0, none⟩ = false := by rw [hob.frozen' (by simp only; omega) hb1]; exact hE.2
  have hC3 := hob.cell hC.1 hb2
  have hs3 := hob.size
  rcases hcases with ⟨l', rfl, hr, hR⟩ | ⟨l', c, rfl, hr, hR⟩ | ⟨l', z, rfl, hr, hR⟩
  · obtain ⟨vl, hcl, hBl, _⟩ := hr.left
    obtain ⟨_, la, lcap, rfl, _, _, _, _⟩ := _root_.id hBl
    have hon3 := hr.on
    have hz3 := hr.soft.2
    clear hby hB hBn hfb hE hr0 hr1 hC hob hnf
    by_cases hl' : l' = []
    · subst hl'
      rw [if_pos rfl] at hR
      go_wp2
      refine leaves_cons (f := 86) (args := #[.pointer (some ⟨w.heap.size + 1 + 1, 0, none⟩), .pointer (some ⟨w.heap.size, 0, none⟩)]) (by simp) (by simp [go_sem]) ?_
      refine (door_idle (w.heap.size + 1) (w.heap.size + 1 + 1) w.heap.size (.bool true) _ ?_ ?_ ?_).mono ?_
      · rw [World.cell?_setCell_other _ _ _ _ (by simp)]; exact hC3
      · rw [World.cell?_setCell_other _ _ _ _ (by simp)]; exact hon3
      · simpa [go_sem] using hz3
      rintro e u' w4 ⟨rfl, rfl, rfl⟩
      have hcell : ((w3.setCell ⟨w.heap.size, 0, none⟩ (.int .i64 0)).setCell ⟨w.heap.size + 1, 1, none⟩ (.bool false)).cell? ⟨w.heap.size, 0, none⟩ = some (.int .i64 0) := by
        rw [World.cell?_setCell_other _ _ _ _ (by simp), World.cell?_setCell_same _ _ _ hE3]
      have hfin := hR _ (((Only.refl [w.heap.size, w.heap.size + 1, w.heap.size + 1 + 1] w3).setCell (p := ⟨w.heap.size, 0, none⟩) (.inl (by simp)) (.int .i64 0)).setCell (p := ⟨w.heap.size + 1, 1, none⟩) (.inl (by simp)) (.bool false))
      simp [Leaves, settle, results, Try.results59, go_sem, hcell]
      exact hfin
    · rw [if_neg hl'] at hR
      have hpos : 0 < l'.length := List.length_pos_iff.2 hl'
      clear hl'
      go_wp2
      refine leaves_cons (f := 86) (args := #[.pointer (some ⟨w.heap.size + 1 + 1, 0, none⟩), .pointer (some ⟨w.heap.size, 0, none⟩)]) (by simp) (by simp [go_sem]) ?_
      refine (door_idle (w.heap.size + 1) (w.heap.size + 1 + 1) w.heap.size (.bool true) _ ?_ ?_ ?_).mono ?_
      · rw [World.cell?_setCell_other _ _ _ _ (by simp)]; exact hC3
      · rw [World.cell?_setCell_other _ _ _ _ (by simp)]; exact hon3
      · simpa [go_sem] using hz3
      rintro e u' w4 ⟨rfl, rfl, rfl⟩
      have hcell : ((w3.setCell ⟨w.heap.size, 0, none⟩ (.int .i64 3)).setCell ⟨w.heap.size + 1, 1, none⟩ (.bool false)).cell? ⟨w.heap.size, 0, none⟩ = some (.int .i64 3) := by
        rw [World.cell?_setCell_other _ _ _ _ (by simp), World.cell?_setCell_same _ _ _ hE3]
      have hfin := hR _ (((Only.refl [w.heap.size, w.heap.size + 1, w.heap.size + 1 + 1] w3).setCell (p := ⟨w.heap.size, 0, none⟩) (.inl (by simp)) (.int .i64 3)).setCell (p := ⟨w.heap.size + 1, 1, none⟩) (.inl (by simp)) (.bool false))
      simp [Leaves, settle, results, Try.results59, go_sem, hcell]
      exact hfin
  · obtain ⟨x, hx⟩ : ∃ x, w3.cell? ⟨w.heap.size + 1, 1, none⟩ = some x := ⟨_, hr.on⟩
    refine leaves_cons (f := 86) (args := #[.pointer (some ⟨w.heap.size + 1 + 1, 0, none⟩), .pointer (some ⟨w.heap.size, 0, none⟩)]) (u := .panicking (ownEnd (w.heap.size + 1) c)) (by simp) (by simp [go_sem]) ?_
    have hd := door_own (w.heap.size + 1) (w.heap.size + 1 + 1) w.heap.size c x (.int .i64 0) [] w3 hC3 hx hr.soft.2 hE3 hEz3 (by omega) (by omega) (by omega) (by omega) (by omega)
    rw [List.append_nil] at hd
    refine hd.mono ?_
    rintro e u' w4 ⟨rfl, rfl, ho4, hc4⟩
    have hfin := hR w4 (ho4.mono (by simp))
    simp [Leaves, settle, results, Try.results59, go_sem, hc4]
    exact hfin
  · obtain ⟨x, hx⟩ : ∃ x, w3.cell? ⟨w.heap.size + 1, 1, none⟩ = some x := ⟨_, hr.on⟩
    refine leaves_cons (f := 86) (args := #[.pointer (some ⟨w.heap.size + 1 + 1, 0, none⟩), .pointer (some ⟨w.heap.size, 0, none⟩)]) (u := .panicking [intPanic z false]) (by simp) (by simp [go_sem]) ?_
    refine (door_other (w.heap.size + 1) (w.heap.size + 1 + 1) w.heap.size z x (.int .i64 0) [] w3 hC3 hx hr.soft.2 hE3 hEz3 (by omega) (by omega) (by omega) (by omega) (by omega)).mono ?_
    rintro e u' w4 ⟨rfl, rfl, ho4⟩
    exact hR w4 (ho4.mono (by simp))
end Go.Proofs.Ytnlmeaijnfjakaa.Sh
