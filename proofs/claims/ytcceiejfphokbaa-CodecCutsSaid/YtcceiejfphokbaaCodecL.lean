/- Layer 8: a step, as a pure word. -/
import Derived.Test.YtcceiejfphokbaaDigE
namespace Go.Proofs.Ytcceiejfphokbaa.Sh
open Go Go.RowKit

/-- A step's error (0: none) and what is left behind it. -/
def stepL (s : Stp) (l : List UInt8) : Nat × List UInt8 :=
  if s.kind = 1 then ((numL s.n l).1, (numL s.n l).2.2)
  else if s.kind = 2 then ((textL (s.n % 5000) l).1, (textL (s.n % 5000) l).2.2)
  else if s.kind = 3 then ((digL l).1, (digL l).2.2)
  else if s.kind = 4 then ((numL (s.n % 5000) l).1, (numL (s.n % 5000) l).2.2)
  else if s.kind = 5 then (if s.n % 17 = 0 then 1 else s.n % 17, l)
  else (0, l)

/-- All steps, up to the first error: which step (their number: all went), its error, what is left. -/
def stepsL : List Stp → List UInt8 → Nat × Nat × List UInt8
  | [], l => (0, 0, l)
  | s :: r, l => if (stepL s l).1 = 0 then ((stepsL r (stepL s l).2).1 + 1, (stepsL r (stepL s l).2).2) else (0, (stepL s l).1, l)

/-- The world of the steps' function: the variables it has caught. -/
structure Caught (w0 w : World) (lb db kb vb wb rb : Nat) (v : Value) (d : Nat) : Prop where
  only : Only [] w0 w
  list : w.cell? ⟨lb, 0, none⟩ = some v
  done : w.cell? ⟨db, 0, none⟩ = some (.int .i64 (d : Int))
  doneZ : w.frozen? ⟨db, 0, none⟩ = false
  okV : w.cell? ⟨kb, 0, none⟩ = some (.bool true)
  okZ : w.frozen? ⟨kb, 0, none⟩ = false
  var : w.cell? ⟨vb, 0, none⟩ = some (.pointer (some ⟨wb, 0, none⟩))
  new : w0.heap.size ≤ lb ∧ w0.heap.size ≤ db ∧ w0.heap.size ≤ kb ∧ w0.heap.size ≤ vb ∧ w0.heap.size ≤ wb ∧ w0.heap.size ≤ rb
  apart : [lb, db, kb, vb, wb, rb].Nodup

theorem Caught.kept {w0 w w' : World} {lb db kb vb wb rb : Nat} {v : Value} {d : Nat} (h : Caught w0 w lb db kb vb wb rb v d) {bs : List Nat} (ho : Only bs w w') (hn : lb ∉ bs ∧ db ∉ bs ∧ kb ∉ bs ∧ vb ∉ bs) (hb : ∀ x ∈ bs, w0.heap.size ≤ x) : Caught w0 w' lb db kb vb wb rb v d := by
  obtain ⟨n1, n2, n3, n4⟩ := hn
  have l2 : db < w.heap.size := World.block_lt_of_cell? w _ h.done
  have l3 : kb < w.heap.size := World.block_lt_of_cell? w _ h.okV
  exact ⟨h.only.trans ho (by simp) (fun x hx => .inr (hb x hx)), ho.cell h.list n1, ho.cell h.done n2, by rw [ho.frozen' l2 n2]; exact h.doneZ, ho.cell h.okV n3, by rw [ho.frozen' l3 n3]; exact h.okZ, ho.cell h.var n4, h.new, h.apart⟩

theorem Caught.ne {w0 w : World} {lb db kb vb wb rb : Nat} {v : Value} {d : Nat} (h : Caught w0 w lb db kb vb wb rb v d) :
    (lb ≠ db ∧ lb ≠ kb ∧ lb ≠ vb ∧ lb ≠ wb ∧ lb ≠ rb) ∧ (db ≠ kb ∧ db ≠ vb ∧ db ≠ wb ∧ db ≠ rb) ∧ (kb ≠ vb ∧ kb ≠ wb ∧ kb ≠ rb) ∧ (vb ≠ wb ∧ vb ≠ rb) ∧ wb ≠ rb := by
  have hap := h.apart
  simp only [List.nodup_cons, List.mem_cons, not_or, List.not_mem_nil, not_false_iff, and_true] at hap
  omega

theorem Caught.setDone {w0 w : World} {lb db kb vb wb rb : Nat} {v : Value} {d : Nat} (h : Caught w0 w lb db kb vb wb rb v d) (k : Nat) : Caught w0 (w.setCell ⟨db, 0, none⟩ (.int .i64 (k : Int))) lb db kb vb wb rb v k := by
  obtain ⟨n1, n2, n3, n4, n5, n6⟩ := h.new
  have hap := h.apart
  simp only [List.nodup_cons, List.mem_cons, not_or] at hap
  have ho : Only [db] w (w.setCell ⟨db, 0, none⟩ (.int .i64 (k : Int))) := (Only.refl [db] w).setCell (.inl (by simp)) _
  have l2 : db < w.heap.size := World.block_lt_of_cell? w _ h.done
  have l3 : kb < w.heap.size := World.block_lt_of_cell? w _ h.okV
  refine ⟨h.only.setCell (.inr n2) _, ho.cell h.list (by simp; omega), World.cell?_setCell_same w _ _ h.done, by simpa [go_sem] using h.doneZ, ho.cell h.okV (by simp; omega), ?_, ho.cell h.var (by simp; omega), h.new, h.apart⟩
  rw [ho.frozen' l3 (by simp; omega)]
  exact h.okZ
end Go.Proofs.Ytcceiejfphokbaa.Sh
