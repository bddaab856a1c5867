/- What panics in the function that reads goes on to panic: the law's walk. -/
import Derived.Test.YtcceiejfphokbaaCodecF
namespace Go.Proofs.Ytcceiejfphokbaa.Sh
open Go Go.RowKit

theorem enter_panics2 (args : Array Value) (w : World) : (callFunc 57 args).run Try.prog w = .ok (.enter 57 args) w := by
  simp [go_sem, Try.func57]

theorem panics2_by (rb wb : Nat) (z : Int) (w : World) (hz : w.cell? ⟨wb, 0, none⟩ = some (.int .i64 z)) :
    Calls Try.prog 57 #[.pointer (some ⟨rb, 0, none⟩), .pointer (some ⟨wb, 0, none⟩)] w fun e w' => e = .panicked [intPanic z false] ∧ w' = w := by
  go_enter Try.func57, Try.ntmps57
  go_wp2
  exact ⟨rfl, rfl, rfl⟩

theorem is_int (z : Int) (w : World) : (Instr.typeAssert (.iface 3 (.int .i64 z)) 20 3 true).run Try.prog w = .ok (.tuple #[.int .i64 z, .bool true]) w := by kernel_rfl

set_option maxRecDepth 20000 in
set_option maxHeartbeats 400000 in
theorem door_panics (wb kb : Nat) (z : Int) (y : Value) (older : List PanicEntry) (w : World) (hwb : w.cell? ⟨wb, 0, none⟩ = some (.int .i64 z)) (hkb : w.cell? ⟨kb, 0, none⟩ = some y) (hkz : w.frozen? ⟨kb, 0, none⟩ = false) :
    CallsD Try.prog 56 #[.pointer (some ⟨wb, 0, none⟩), .pointer (some ⟨kb, 0, none⟩)] (.panicking (intPanic z false :: older)) w fun e u' w' => e = .returned (.tuple #[]) ∧ u' = .panicking (intPanic z true :: older) ∧ w' = w.setCell ⟨kb, 0, none⟩ (.bool true) := by
  have his := is_int
  refine callsD_of_wpS Try.func56 rfl fun c₀ cs hu => ?_
  simp only [intPanic] at hu
  simp only [Try.ntmps56, List.size_toArray, List.length_cons, List.length_nil, Nat.reduceAdd, Nat.reduceSub, Array.replicate_succ,
     Array.replicate_zero, List.push_toArray, List.append_toArray, List.nil_append, List.cons_append]
  apply wpS_seq
  refine wpS_rec (v := .iface 3 (.int .i64 z)) (cs' := { c₀ with mode := .panicking (intPanic z true :: older) } :: cs) (.inl (by simp [recoverD, hu, intPanic])) (by simp) ?_
  generalize hQ : Exit.thenS _ _ = Q0
  simp [Act.put]
  subst hQ
  simp only [Exit.thenS]
  refine wpS_of_wp ?_
  go_wp2
  exact ⟨rfl, _, rfl, _, results_none rfl _ _ _, rfl, rfl, rfl⟩

set_option maxRecDepth 20000 in
set_option maxHeartbeats 800000 in
theorem panics_any (v : Value) (l : List UInt8) (z : Int) (w : World) (hB : Bs w v l) :
    Calls Try.prog 20 #[v, .int .i64 z] w fun e w' => e = .returned (.bool true) ∧ Only [] w w' := by
  have hmf : ∀ (fn : Fn) (first cap : Array Value) (w : World), (Instr.makeFunc fn first cap).run Try.prog w = .ok (.func fn first cap) w := fun _ _ _ _ => rfl
  obtain ⟨fb, hfb, hfl, hfe⟩ := hB.fb
  go_enter_defers Try.func20, Try.ntmps20
  go_wp2_with fail
  have hon : Only [] w ((w.alloc (Obj.cells #[Value.int .i64 z] 3)).alloc (Obj.cells #[Value.bool false] 4)) := ((Only.refl [] w).alloc _).alloc _
  obtain ⟨w1, hw1⟩ : ∃ w1, w1 = ((w.alloc (Obj.cells #[Value.int .i64 z] 3)).alloc (Obj.cells #[Value.bool false] 4)) := ⟨_, rfl⟩
  have hs1 : w1.heap.size = w.heap.size + 2 := by rw [hw1]; simp
  have hz1 : w1.cell? ⟨w.heap.size, 0, none⟩ = some (.int .i64 z) := by rw [hw1]; simp [go_sem]
  have hk1 : w1.cell? ⟨w.heap.size + 1, 0, none⟩ = some (.bool false) ∧ w1.frozen? ⟨w.heap.size + 1, 0, none⟩ = false := by rw [hw1]; constructor <;> simp [go_sem]
  rw [← hw1] at hon ⊢
  clear hw1
  refine (read_any v l fb 57 #[.pointer (some ⟨w.heap.size, 0, none⟩)] w1 (fun e w' => e = .panicked [intPanic z false, intPanic z true] ∧ Only [] w1 w') (hB.kept0 hon) hfb (by omega) enter_panics2 ?_).mono ?_
  · intro w2 hp2 hs2 hr2
    refine (panics2_by _ _ z w2 (hp2.cell hz1 (by simp))).mono ?_
    rintro e w3 ⟨rfl, rfl⟩
    refine ⟨⟨[], Only.refl _ _, by simp, by simp⟩, .inr (.inr ⟨l, z, rfl, hr2, fun w4 hp4 => ⟨rfl, ?_⟩⟩)⟩
    exact hp2.trans hp4 (by simp) (by simp; omega)
  rintro e w4 ⟨rfl, hp4⟩
  refine leaves_cons (f := 56) (args := #[.pointer (some ⟨w.heap.size, 0, none⟩), .pointer (some ⟨w.heap.size + 1, 0, none⟩)]) (u := .panicking [intPanic z false, intPanic z true]) (by simp) (by simp [go_sem]) ?_
  have hk4 := hp4.cell hk1.1 (by simp)
  have hkz4 : w4.frozen? ⟨w.heap.size + 1, 0, none⟩ = false := by rw [hp4.frozen' (by simp only; omega) (by simp)]; exact hk1.2
  refine (door_panics _ _ z _ [intPanic z true] w4 (hp4.cell hz1 (by simp)) hk4 hkz4).mono ?_
  rintro e u' w5 ⟨rfl, rfl, rfl⟩
  have hc5 := World.cell?_setCell_same w4 _ (.bool true) hk4
  simp [Leaves, settle, intPanic, results, Try.results20, go_sem, hc5]
  exact (hon.trans0 hp4).setCell (p := ⟨w.heap.size + 1, 0, none⟩) (.inr (by simp)) _

set_option maxHeartbeats 800000 in
theorem codecPanics_walk (w : World) {v : Value} {l : List UInt8} {z : Int} (hB : Bs w v l) (_hz : (Lit.int .i64 z).wf = true) :
    Calls Try.prog 5 #[v, .int .i64 z] w fun e w' => e = .returned (.bool true) ∧ Only [] w w' := by
  obtain ⟨_, a, cap, rfl, h1, h2, h3, _⟩ := id hB
  clear _hz
  by_cases hl : 400 < l.length
  · go_enter Try.func5, Try.ntmps5
    go_wp2_with fail
    refine (awake08_any w).mono ?_
    rintro e w1 ⟨rfl, ho1⟩
    go_wp2
    go_ret
    exact ⟨rfl, ho1⟩
  · go_enter Try.func5, Try.ntmps5
    go_wp2_with fail
    refine (awake08_any w).mono ?_
    rintro e w1 ⟨rfl, ho1⟩
    go_wp2_with fail
    refine (panics_any _ l z _ (hB.kept0 ho1)).mono ?_
    rintro e w2 ⟨rfl, hp2⟩
    go_wp2
    go_ret
    exact ⟨rfl, ho1.trans0 hp2⟩
end Go.Proofs.Ytcceiejfphokbaa.Sh
