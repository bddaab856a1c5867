/- append onto a slice without room, make: in a region that draws: each result is new. -/
import Derived.Test.YtiinfiaemiaamaaStepApp
import Derived.Laws.MakeOwn
namespace Go.Proofs.Ytiinfiaemiaamaa.Sh
open Go Go.RowKit

theorem run_app_new {P : Program} (w : World) (t ty e : TypeId) (size byts : Nat) (he : El P t e size byts) (bs : Option Addr)
    (x : Value) (m : Nat) (news : List Value) (hx : Cs size w x m news) (h1 : ∀ u ∈ news, u.oneCell' = true) (hb : m * byts ≤ 140737488355328) (hm : m ≤ 140737488355328) (hpos : 0 < m) :
    ∃ v' w', (Builtin.append_ #[t, t] ty #[.slice bs 0 0, x]).run P w = .ok v' w' ∧ w'.ownsRow w.heap.size e size v' m news ∧ Only [] w w' := by
  obtain ⟨hu, ⟨i, z, hi, hz, rfl, rfl, hzs⟩, hp⟩ := he
  have hs := src_of_cs hu hx hp h1
  have hnl := hs.newsLen
  have hf : (Builtin.firstCells i.size 0 (.slice bs 0 0)).run P w.drew = .ok ([] : List Value).toArray w.drew := by
    cases bs with
    | none => exact run_firstCells_none w.drew i.size 0 0 0
    | some a => exact run_firstCells_some w.drew i.size 0 a 0 0 [] (by simp) (by simp)
  have hr := run_append_grow_src w t t ty e i z hu hi hz bs 0 0 [] hf x m news hs (by omega) (by omega) (growslice_fits (by omega) (by simpa using hb))
  have hge := grownCap_ge w (0 + m) 0 e
  have hcm : grownCap w (0 + m) 0 e ≤ maxLen := grownCap_le_maxLen w (0 + m) 0 e (by unfold maxLen; omega)
  simp only [Nat.zero_add, List.nil_append] at hr hge hcm
  refine ⟨_, _, hr, ⟨hnl, .inr ⟨w.heap.size, _, _, rfl, Nat.le_refl _, heap_alloc_new w.drew _, hge, hcm, ?_, ?_⟩⟩, (Only.refl [] w).drew.alloc _⟩
  · simp only [Array.size_append, List.size_toArray, size_zeroCells, hzs, hnl, ← Nat.add_mul]
    congr 1
    omega
  · simp only [Array.toList_append]
    rw [← hnl]
    exact List.take_left

theorem step_app_new {P : Program} {ops : Array Oper} {o : Oper} {a : Act} {K : Act → World → Prop} {Q : Exit → Act → World → Prop} {E : Prop} {w : World} (hgd : o.guard = none) (s x : Operand) (t : TypeId)
    (ho : o.op = .call { callee := .builtin .append, args := #[s, x], argTypes := #[t, t] })
    (e size byts : Nat) (he : El P t e size byts) {bs : Option Addr} (hs : a.eval s = .slice bs 0 0)
    {xv : Value} {m : Nat} {news : List Value} (hx : a.eval x = xv) (hcs : Cs size w xv m news) (h1 : ∀ u ∈ news, u.oneCell' = true) (hb : m * byts ≤ 140737488355328) (hm : m ≤ 140737488355328) (hpos : 0 < m)
    (h : ∀ v' w', w'.ownsRow w.heap.size e size v' m news → Only [] w w' → K (a.put o.dst v') w') :
    if Region.wanted o (yielded ops a.tmps) = true then Oper.wp P o a w K Q else E := by
  have hw : Region.wanted o (yielded ops a.tmps) = true := by simp [Region.wanted, hgd]
  rw [if_pos hw]
  obtain ⟨v', w', hr, h2, h3⟩ := run_app_new (P := P) w t o.type e size byts he bs xv m news hcs h1 hb hm hpos
  unfold Oper.wp execOp
  simp only [ho, resolve, invoke, builtin, Sem.run_bind, Sem.run_pure, Result.andThen_ok, List.map_toArray, List.map_cons, List.map_nil, hs, hx, hr]
  exact h v' w' h2 h3

theorem made_list (z : Value) (n : Nat) : (madeCells #[z] n).toList = List.replicate n z := by
  apply List.ext_getElem?
  intro i
  simp only [madeCells, Array.toList_map, Array.toList_range, List.getElem?_map, List.getElem?_replicate]
  by_cases h : i < n
  · rw [if_pos h, List.getElem?_range h]
    simp [Nat.mod_one]
  · rw [if_neg h, List.getElem?_eq_none (by simpa using h)]
    rfl

/-- 'make' of so many elements of one cell. -/
theorem run_make_one {P : Program} (t e : TypeId) (i : TypeInfo) (z : Value) (ht : P.underlying t = some (.slice e)) (hi : P.info? e = some i) (hz : i.zero = some z) (hs : i.size = 1) (hzc : z.cells = #[z]) (n : Nat) (hb : i.bytes * n ≤ 281474976710656) (hn : n ≤ 1000000) :
    ∃ G : World → World, (∀ W, (Instr.makeSlice t (.int .i64 (n : Int)) (.int .i64 (n : Int))).run P W = .ok (.slice (some ⟨W.heap.size, 0, none⟩) n n) (G W)) ∧ (∀ W, (G W).ownsRow W.heap.size e 1 (.slice (some ⟨W.heap.size, 0, none⟩) n n) n (List.replicate n z) ∧ Only [] W (G W)) ∧ ∀ W, (G W).heap.size = W.heap.size + 1 := by
  have hb' : (i.bytes : Int) * (n : Int) ≤ 281474976710656 := by
    have h : ((i.bytes * n : Nat) : Int) ≤ 281474976710656 := by omega
    rwa [Int.natCast_mul] at h
  refine ⟨fun W => W.alloc (.cells (madeCells #[z] n) e), fun W => ?_, fun W => ⟨⟨by simp, .inr ⟨W.heap.size, n, _, rfl, Nat.le_refl _, heap_alloc_new W _, Nat.le_refl _, by unfold maxLen; omega, by rw [size_madeCells, Nat.mul_one], ?_⟩⟩, (Only.refl [] W).alloc _⟩, fun W => by simp⟩
  · have hr := run_make (P := P) W t e i z ht hi hz .i64 .i64 n n (by omega) (by omega) hb' (by omega)
    simp only [Int.toNat_natCast, hs, hzc, Nat.mul_one] at hr
    exact hr
  · rw [made_list]
    simp
end Go.Proofs.Ytiinfiaemiaamaa.Sh
