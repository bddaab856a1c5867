/- The codec's Read: its deferred function in its three modes; then Read, over the function that reads. -/
import Derived.Test.YtnlmeaijnfjakaaCodecA
import Derived.Tactics2
import Derived.Laws.Pointers
import Derived.LaidEqlPtr
namespace Go.Proofs.Ytnlmeaijnfjakaa.Sh
set_option linter.unusedSimpArgs false
set_option linter.unusedVariables false
open Go Go.RowKit

/-- A region that recovers: the recovered value, or nil, is laid. -/
theorem wpS_rec {P : Program} {Q : Exit → Act → List Frame → World → Prop} {a : Act} {cs : List Frame} {w : World} {id : Nat} {d d2 : Nat} {t t2 : TypeId} {p p2 : String} {af af2 : Array _} {v : Value} {cs' : List Frame}
    (hr : recoverD cs = some (v, cs') ∨ (recoverD cs = none ∧ v = .nilIface ∧ cs' = cs))
    (hd : d < a.tmps.size)
    (h : Q .normal ((a.put (some d) v).put (some d2) v) cs' w) :
    (Code.region id #[{ dst := some d, op := Op.call { callee := Callee.builtin Builtin.recover, args := #[], argTypes := #[] }, type := t, pos := p, after := af, guard := none },
      { dst := some d2, op := Op.assign (Operand.tmp d), type := t2, pos := p2, after := af2, guard := none }] false).wpS P Q a cs w := by
  apply wpS_region
  rcases hr with hr | ⟨hr, rfl, rfl⟩
  · simp [wpOpsS, List.range_succ, Region.wanted, go_sem, hr, hd]
    exact h
  · simp [wpOpsS, List.range_succ, Region.wanted, go_sem, hr, hd]
    exact h

theorem run_neq_ptr_same {P : Program} (w : World) {tp te : TypeId} {j : TypeInfo} (a : Addr) (hp : P.underlying tp = some (.pointer te)) (hte : P.info? te = some j) :
    (binOp .neq tp (.pointer (some a)) (.pointer (some a))).run P w = .ok (.bool false) w := by
  have h : ∀ d : Nat, (Op.equalIn (d + 1) tp (.pointer (some a)) (.pointer (some a))).run P w = .ok true w := fun d => by
    simp [Op.equalIn, run_underlying hp, sizeOf, typeInfo, hte, run_sameAddr_same]
  simp only [binOp]
  simp [Op.equal, Op.maxDepth, h 9999]
theorem neq_reader (a : Addr) (w : World) : (binOp .neq 114 (.pointer (some a)) (.pointer (some a))).run Try.prog w = .ok (.bool false) w := run_neq_ptr_same w a Try.underlying114 (Option.eq_some_of_isSome (o := Try.prog.info? 134) (by kernel_rfl))
theorem panic_iface (t : TypeId) (v : Value) (w : World) : (Instr.panic (.iface t v)).run Try.prog w = .halt (.panic (.iface t v)) w := rfl

theorem is_end (v : Value) (w : World) : (Instr.typeAssert (.iface 136 v) 20 136 true).run Try.prog w = .ok (.tuple #[v, .bool true]) w := by kernel_rfl
theorem no_end (v : Value) (w : World) : (Instr.typeAssert (.iface 3 v) 20 136 true).run Try.prog w = .ok (.tuple #[.agg #[.pointer none, .int .i64 0], .bool false]) w := by kernel_rfl

set_option maxRecDepth 20000 in
set_option maxHeartbeats 400000 in
theorem door_idle (rb rc ec : Nat) (x : Value) (w : World) (hrc : w.cell? ⟨rc, 0, none⟩ = some (.pointer (some ⟨rb, 0, none⟩))) (hon : w.cell? ⟨rb, 1, none⟩ = some x) (hz : w.frozen? ⟨rb, 1, none⟩ = false) :
    CallsD Try.prog 86 #[.pointer (some ⟨rc, 0, none⟩), .pointer (some ⟨ec, 0, none⟩)] .returning w fun e u' w' => e = .returned (.tuple #[]) ∧ u' = .returning ∧ w' = w.setCell ⟨rb, 1, none⟩ (.bool false) := by
  refine callsD_of_wpS Try.func86 rfl fun c₀ cs hu => ?_
  simp only [Try.ntmps86, List.size_toArray, List.length_cons, List.length_nil, Nat.reduceAdd, Nat.reduceSub, Array.replicate_succ,
     Array.replicate_zero, List.push_toArray, List.append_toArray, List.nil_append, List.cons_append]
  apply wpS_seq
  refine wpS_of_wp ?_
  go_wp2
  simp only [Exit.thenS]
  apply wpS_seq
  refine wpS_rec (v := .nilIface) (cs' := c₀ :: cs) (.inr ⟨by simp [recoverD, hu], rfl, rfl⟩) (by simp) ?_
  generalize hQ : Exit.thenS _ _ = Q0
  simp [Act.put]
  subst hQ
  simp only [Exit.thenS]
  refine wpS_of_wp ?_
  go_wp2
  exact ⟨rfl, .returning, by rw [← hu], _, results_none rfl _ _ _, rfl, rfl, rfl⟩

set_option maxRecDepth 20000 in
set_option maxHeartbeats 400000 in
theorem door_own (rb rc ec c : Nat) (x y : Value) (older : List PanicEntry) (w : World) (hrc : w.cell? ⟨rc, 0, none⟩ = some (.pointer (some ⟨rb, 0, none⟩))) (hon : w.cell? ⟨rb, 1, none⟩ = some x) (hz : w.frozen? ⟨rb, 1, none⟩ = false) (hec : w.cell? ⟨ec, 0, none⟩ = some y) (hez : w.frozen? ⟨ec, 0, none⟩ = false) (hne1 : ec ≠ rb) (hne2 : rc ≠ rb) (hl1 : rb < w.heap.size) (hl2 : rc < w.heap.size) (hl3 : ec < w.heap.size) :
    CallsD Try.prog 86 #[.pointer (some ⟨rc, 0, none⟩), .pointer (some ⟨ec, 0, none⟩)] (.panicking (ownEnd rb c ++ older)) w fun e u' w' => e = .returned (.tuple #[]) ∧ u' = .panicking ({ v := .iface 136 (.agg #[.pointer (some ⟨rb, 0, none⟩), .int .i64 (c : Int)]), recovered := true } :: older) ∧ Only [rb, ec] w w' ∧ w'.cell? ⟨ec, 0, none⟩ = some (.int .i64 c) := by
  have his := is_end
  have hnr := neq_reader
  refine callsD_of_wpS Try.func86 rfl fun c₀ cs hu => ?_
  simp only [Try.ntmps86, List.size_toArray, List.length_cons, List.length_nil, Nat.reduceAdd, Nat.reduceSub, Array.replicate_succ,
     Array.replicate_zero, List.push_toArray, List.append_toArray, List.nil_append, List.cons_append]
  apply wpS_seq
  refine wpS_of_wp ?_
  go_wp2
  simp only [Exit.thenS]
  apply wpS_seq
  refine wpS_rec (v := .iface 136 (.agg #[.pointer (some ⟨rb, 0, none⟩), .int .i64 (c : Int)])) (cs' := { c₀ with mode := .panicking ({ v := .iface 136 (.agg #[.pointer (some ⟨rb, 0, none⟩), .int .i64 (c : Int)]), recovered := true } :: older) } :: cs) (.inl (by simp [recoverD, hu, ownEnd])) (by simp) ?_
  generalize hQ : Exit.thenS _ _ = Q0
  simp [Act.put]
  subst hQ
  simp only [Exit.thenS]
  refine wpS_of_wp ?_
  go_wp2
  refine ⟨rfl, _, rfl, _, results_none rfl _ _ _, rfl, rfl, ?_, ?_⟩
  · exact (((Only.refl [rb, ec] w).setCell (p := ⟨rb, 1, none⟩) (.inl (by simp)) _).setCell (p := ⟨ec, 0, none⟩) (.inl (by simp)) _).alloc _
  · rw [World.cell?_alloc_lt _ _ _ (by simpa using hl3)]
    refine World.cell?_setCell_same _ _ _ (u := y) ?_
    rw [World.cell?_setCell_other _ _ _ _ (by simp)]
    exact hec

set_option maxRecDepth 20000 in
set_option maxHeartbeats 400000 in
theorem door_other (rb rc ec : Nat) (z : Int) (x y : Value) (older : List PanicEntry) (w : World) (hrc : w.cell? ⟨rc, 0, none⟩ = some (.pointer (some ⟨rb, 0, none⟩))) (hon : w.cell? ⟨rb, 1, none⟩ = some x) (hz : w.frozen? ⟨rb, 1, none⟩ = false) (hec : w.cell? ⟨ec, 0, none⟩ = some y) (hez : w.frozen? ⟨ec, 0, none⟩ = false) (hne1 : ec ≠ rb) (hne2 : rc ≠ rb) (hl1 : rb < w.heap.size) (hl2 : rc < w.heap.size) (hl3 : ec < w.heap.size) :
    CallsD Try.prog 86 #[.pointer (some ⟨rc, 0, none⟩), .pointer (some ⟨ec, 0, none⟩)] (.panicking ({ v := .iface 3 (.int .i64 z), recovered := false } :: older)) w fun e u' w' => e = .panicked [{ v := .iface 3 (.int .i64 z), recovered := false }] ∧ u' = .panicking ({ v := .iface 3 (.int .i64 z), recovered := true } :: older) ∧ Only [rb] w w' := by
  have hno := no_end
  have hpn := panic_iface
  refine callsD_of_wpS Try.func86 rfl fun c₀ cs hu => ?_
  simp only [Try.ntmps86, List.size_toArray, List.length_cons, List.length_nil, Nat.reduceAdd, Nat.reduceSub, Array.replicate_succ,
     Array.replicate_zero, List.push_toArray, List.append_toArray, List.nil_append, List.cons_append]
  apply wpS_seq
  refine wpS_of_wp ?_
  go_wp2
  simp only [Exit.thenS]
  apply wpS_seq
  refine wpS_rec (v := .iface 3 (.int .i64 z)) (cs' := { c₀ with mode := .panicking ({ v := .iface 3 (.int .i64 z), recovered := true } :: older) } :: cs) (.inl (by simp [recoverD, hu])) (by simp) ?_
  generalize hQ : Exit.thenS _ _ = Q0
  simp [Act.put]
  subst hQ
  simp only [Exit.thenS]
  refine wpS_of_wp ?_
  go_wp2
  exact ⟨rfl, _, rfl, rfl, rfl, ((Only.refl [rb] w).setCell (p := ⟨rb, 1, none⟩) (.inl (by simp)) _).alloc _⟩
end Go.Proofs.Ytnlmeaijnfjakaa.Sh
