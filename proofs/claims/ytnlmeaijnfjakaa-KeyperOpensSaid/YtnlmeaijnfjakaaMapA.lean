/- A map as the list of its entries, in the order in which they came: made, asked, written, struck, counted, ranged over. -/
import Derived.Test.YtnlmeaijnfjakaaBase
import Derived.Maps.OwnSet
import Derived.Maps.RangeRun
namespace Go.Proofs.Ytnlmeaijnfjakaa.Sh
set_option linter.unusedSimpArgs false
set_option linter.unusedVariables false
open Go Go.RowKit Go.ChangeMaps
open Go.Maps (Keyed)

/-- Block mb is a map whose entries, in the order in which they came, are es. -/
structure Mp (P : Program) (k : TypeId) (w : World) (mb : Nat) (es : List (Value × Value)) : Prop where
  blk : ∃ arr clock, w.heap[mb]? = some (.map arr clock) ∧ arr.toList.map (fun e => (e.key, e.val)) = es ∧ (∀ e ∈ arr.toList, e.born < clock) ∧ (arr.toList.map (·.born)).Nodup
  good : ∀ p ∈ es, ∃ l, keyOf P k p.1 = some l

theorem Mp.lt {P : Program} {k : TypeId} {w : World} {mb : Nat} {es : List (Value × Value)} (h : Mp P k w mb es) : mb < w.heap.size := by
  obtain ⟨arr, clock, hb, _⟩ := h.blk
  exact lt_of_block hb
theorem Mp.kept {P : Program} {k : TypeId} {w w' : World} {mb : Nat} {es : List (Value × Value)} (h : Mp P k w mb es) {bs : List Nat} (ho : Only bs w w') (hn : mb ∉ bs) : Mp P k w' mb es := by
  have hlt := h.lt
  obtain ⟨arr, clock, hb, h1, h2, h3⟩ := h.blk
  exact ⟨⟨arr, clock, by rw [ho.block mb hlt hn]; exact hb, h1, h2, h3⟩, h.good⟩
theorem Mp.kept0 {P : Program} {k : TypeId} {w w' : World} {mb : Nat} {es : List (Value × Value)} (h : Mp P k w mb es) (ho : Only [] w w') : Mp P k w' mb es := h.kept ho (by simp)
theorem mp_made (P : Program) (k : TypeId) (w : World) : Mp P k (w.alloc (.map #[] 0)) w.heap.size [] :=
  ⟨⟨#[], 0, heap_alloc_new w _, rfl, by simp, by simp⟩, by simp⟩

theorem only_setBlock {w : World} {b : Nat} (o : Obj) : Only [b] w (setBlock w b o) :=
  ⟨rfl, rfl, rfl, by simp [setBlock], fun k _ hn => by simp [setBlock, Array.getElem?_setIfInBounds]; intro h; exact absurd h.symm (by simpa using hn)⟩
theorem setBlock_at {w : World} {b : Nat} {o : Obj} (hb : b < w.heap.size) : (setBlock w b o).heap[b]? = some o := by simp [setBlock, Array.getElem?_setIfInBounds, hb]
theorem setBlock_size {w : World} {b : Nat} {o : Obj} : (setBlock w b o).heap.size = w.heap.size := by simp [setBlock]

/-- An entry of the block for an entry of the list. -/
theorem entry_at {arr : Array MapEntry} {es : List (Value × Value)} (h : arr.toList.map (fun e => (e.key, e.val)) = es) {i : Nat} {p : Value × Value} (hp : es[i]? = some p) : ∃ e, arr.toList[i]? = some e ∧ e.key = p.1 ∧ e.val = p.2 := by
  subst h
  rw [List.getElem?_map] at hp
  obtain ⟨e, he, rfl⟩ := Option.map_eq_some_iff.1 hp
  exact ⟨e, he, rfl, rfl⟩

section
variable {P : Program} {k : TypeId} {w : World} {mb : Nat} {es : List (Value × Value)} {t e : TypeId}

/-- What is found at a key. -/
theorem Mp.find (h : Mp P k w mb es) (K : Keyed P k) {arr : Array MapEntry} (h1 : arr.toList.map (fun e => (e.key, e.val)) = es) {x : Value} {l : Lit} (hx : keyOf P k x = some l) :
    ((∀ p ∈ es, p.1 ≠ x) → (Instr.findKey k x arr.toList).run P w = .ok none w) ∧
    (∀ i v, (es.map (·.1)).Nodup → es[i]? = some (x, v) → (Instr.findKey k x arr.toList).run P w = .ok (some (i, v)) w) := by
  have hg : ∀ e ∈ arr.toList, ∃ l, keyOf P k e.key = some l := by
    intro e he
    exact h.good (e.key, e.val) (by rw [← h1]; exact List.mem_map.2 ⟨e, he, rfl⟩)
  rcases K.find w hx arr.toList hg with ⟨h2, h3⟩ | ⟨j, e0, h2, h3, h4⟩
  · refine ⟨fun _ => h2, fun i v _ hi => ?_⟩
    obtain ⟨e, he, hk, _⟩ := entry_at h1 hi
    exact absurd hk (h3 e (List.mem_of_getElem? he))
  · refine ⟨fun hn => ?_, fun i v hu hi => ?_⟩
    · exact absurd h4 (hn (e0.key, e0.val) (by rw [← h1]; exact List.mem_map.2 ⟨e0, List.mem_of_getElem? h3, rfl⟩))
    · obtain ⟨e, he, hk, hv⟩ := entry_at h1 hi
      have hj : es[j]? = some (e0.key, e0.val) := by rw [← h1, List.getElem?_map, h3]; rfl
      have hij : i = j := by
        have a1 : (es.map (·.1))[i]? = some x := by rw [List.getElem?_map, hi]; rfl
        have a2 : (es.map (·.1))[j]? = some x := by rw [List.getElem?_map, hj, ← h4]; rfl
        exact (List.getElem?_inj (List.getElem?_eq_some_iff.1 a1).1 hu).1 (a1.trans a2.symm)
      subst hij
      rw [h3] at he
      simp only [Option.some.injEq] at he
      subst he
      rw [h2, hv]

theorem Mp.look_none (h : Mp P k w mb es) (K : Keyed P k) (ht : P.underlying t = some (.map k e)) {z : Value} (hz : (zeroValue e).run P w = .ok z w) {x : Value} {l : Lit} (hx : keyOf P k x = some l) (hn : ∀ p ∈ es, p.1 ≠ x) (c : Bool) :
    (Instr.lookup t (.map (some mb)) x c).run P w = .ok (if c then .tuple #[z, .bool false] else z) w := by
  obtain ⟨arr, clock, hb, h1, _, _⟩ := h.blk
  have hf := (h.find K h1 hx).1 hn
  cases c <;> simp [Instr.lookup, run_underlying ht, MapKept.run_getObj_map hb, K.check w _ hx, hf, hz, Result.andThen]

theorem Mp.look_some (h : Mp P k w mb es) (K : Keyed P k) (ht : P.underlying t = some (.map k e)) {x v : Value} {l : Lit} (hx : keyOf P k x = some l) (hu : (es.map (·.1)).Nodup) {i : Nat} (hi : es[i]? = some (x, v)) (c : Bool) :
    (Instr.lookup t (.map (some mb)) x c).run P w = .ok (if c then .tuple #[v, .bool true] else v) w := by
  obtain ⟨arr, clock, hb, h1, _, _⟩ := h.blk
  have hf := (h.find K h1 hx).2 i v hu hi
  cases c <;> simp [Instr.lookup, run_underlying ht, MapKept.run_getObj_map hb, K.check w _ hx, hf, Result.andThen]

theorem Mp.len (h : Mp P k w mb es) (ht : P.underlying t = some (.map k e)) (ty : TypeId) : (Builtin.len_ #[t] ty #[.map (some mb)]).run P w = .ok (.int .i64 (es.length : Int)) w := by
  obtain ⟨arr, clock, hb, h1, _, _⟩ := h.blk
  have : es.length = arr.size := by rw [← h1]; simp
  simp [Builtin.len_, run_underlying ht, MapKept.run_getObj_map hb, Result.andThen, this, goInt]

theorem Mp.put_new (h : Mp P k w mb es) (K : Keyed P k) (ht : P.underlying t = some (.map k e)) {x : Value} {l : Lit} (hx : keyOf P k x = some l) (hn : ∀ p ∈ es, p.1 ≠ x) (v : Value) :
    ∃ w', (Instr.mapUpdate t (.map (some mb)) x v).run P w = .ok () w' ∧ Mp P k w' mb (es ++ [(x, v)]) ∧ Only [mb] w w' ∧ w'.heap.size = w.heap.size := by
  have hlt := h.lt
  obtain ⟨arr, clock, hb, h1, h2, h3⟩ := h.blk
  have hf := (h.find K h1 hx).1 hn
  refine ⟨setBlock w mb (.map (arr.push ⟨x, v, clock⟩) (clock + 1)), ?_, ⟨⟨_, _, setBlock_at hlt, by simp [h1], ?_, ?_⟩, ?_⟩, only_setBlock _, setBlock_size⟩
  · simp [Instr.mapUpdate, run_underlying ht, MapKept.run_getObj_map hb, K.check w false hx, hf, MapKept.run_setObj_map _ hb, Result.andThen, setBlock]
  · intro e he
    simp at he
    rcases he with he | rfl
    · have := h2 e (by simpa using he); omega
    · simp
  · simp only [Array.toList_push, List.map_append, List.map_cons, List.map_nil]
    rw [List.nodup_append]
    refine ⟨h3, by simp, ?_⟩
    intro a ha b hb'
    simp at hb'
    subst hb'
    obtain ⟨e, he, rfl⟩ := List.mem_map.1 ha
    have := h2 e he
    omega
  · intro p hp
    simp at hp
    rcases hp with hp | rfl
    · exact h.good p hp
    · exact ⟨l, hx⟩

theorem Mp.put_old (h : Mp P k w mb es) (K : Keyed P k) (ht : P.underlying t = some (.map k e)) {x v0 : Value} {l : Lit} (hx : keyOf P k x = some l) (hu : (es.map (·.1)).Nodup) {i : Nat} (hi : es[i]? = some (x, v0)) (v : Value) :
    ∃ w', (Instr.mapUpdate t (.map (some mb)) x v).run P w = .ok () w' ∧ Mp P k w' mb (es.set i (x, v)) ∧ Only [mb] w w' ∧ w'.heap.size = w.heap.size := by
  have hlt := h.lt
  obtain ⟨arr, clock, hb, h1, h2, h3⟩ := h.blk
  have hf := (h.find K h1 hx).2 i v0 hu hi
  obtain ⟨e0, he0, hk0, hv0⟩ := entry_at h1 hi
  have hil : i < arr.size := by have := (List.getElem?_eq_some_iff.1 he0).1; simpa using this
  have hia : arr[i] = e0 := by
    have := (List.getElem?_eq_some_iff.1 he0).2
    simpa using this
  have hk0' : e0.key = x := hk0
  refine ⟨setBlock w mb (.map (arr.modify i fun e => { e with key := x, val := v }) clock), ?_, ⟨⟨_, _, setBlock_at hlt, ?_, ?_, ?_⟩, ?_⟩, only_setBlock _, setBlock_size⟩
  · have hst := K.stays w hx
    simp [Instr.mapUpdate, run_underlying ht, MapKept.run_getObj_map hb, K.check w false hx, hf, MapKept.run_setObj_map _ hb, Result.andThen, setBlock, hil, hia, hk0', hst]
  · rw [Array.toList_modify, ← h1]
    apply List.ext_getElem?
    intro j
    simp only [List.getElem?_map, List.getElem?_modify, List.getElem?_set, List.length_map]
    by_cases hj : i = j
    · subst hj
      simp [he0, (List.getElem?_eq_some_iff.1 he0).1]
      simpa using hil
    · simp [hj]
  · intro e he
    rw [Array.toList_modify] at he
    obtain ⟨j, hj⟩ := List.mem_iff_getElem?.1 he
    rw [List.getElem?_modify] at hj
    obtain ⟨e1, he1, rfl⟩ := Option.map_eq_some_iff.1 hj
    have := h2 e1 (List.mem_of_getElem? he1)
    split <;> exact this
  · rw [Array.toList_modify]
    have : (arr.toList.modify i fun e => { e with key := x, val := v }).map (·.born) = arr.toList.map (·.born) := by
      apply List.ext_getElem?
      intro j
      simp only [List.getElem?_map, List.getElem?_modify]
      cases arr.toList[j]? with
      | none => rfl
      | some e1 => by_cases hj : i = j <;> simp [hj]
    rw [this]
    exact h3
  · intro p hp
    rcases List.mem_or_eq_of_mem_set hp with hp | rfl
    · exact h.good p hp
    · exact ⟨l, hx⟩

theorem Mp.del_none (h : Mp P k w mb es) (K : Keyed P k) (ht : P.underlying t = some (.map k e)) {x : Value} {l : Lit} (hx : keyOf P k x = some l) (hn : ∀ p ∈ es, p.1 ≠ x) (ty : TypeId) :
    ∃ w', (Builtin.delete_ #[t, k] ty #[.map (some mb), x]).run P w = .ok (.tuple #[]) w' ∧ Mp P k w' mb es ∧ Only [mb] w w' ∧ w'.heap.size = w.heap.size := by
  have hlt := h.lt
  obtain ⟨arr, clock, hb, h1, h2, h3⟩ := h.blk
  have hf := (h.find K h1 hx).1 hn
  refine ⟨setBlock w mb (.map arr clock), ?_, ⟨⟨_, _, setBlock_at hlt, h1, h2, h3⟩, h.good⟩, only_setBlock _, setBlock_size⟩
  simp [Builtin.delete_, run_underlying ht, MapKept.run_getObj_map hb, K.check w _ hx, hf, MapKept.run_setObj_map _ hb, Result.andThen, setBlock]

theorem Mp.del_some (h : Mp P k w mb es) (K : Keyed P k) (ht : P.underlying t = some (.map k e)) {x v : Value} {l : Lit} (hx : keyOf P k x = some l) (hu : (es.map (·.1)).Nodup) {i : Nat} (hi : es[i]? = some (x, v)) (ty : TypeId) :
    ∃ w', (Builtin.delete_ #[t, k] ty #[.map (some mb), x]).run P w = .ok (.tuple #[]) w' ∧ Mp P k w' mb (es.eraseIdx i) ∧ Only [mb] w w' ∧ w'.heap.size = w.heap.size := by
  have hlt := h.lt
  obtain ⟨arr, clock, hb, h1, h2, h3⟩ := h.blk
  have hf := (h.find K h1 hx).2 i v hu hi
  obtain ⟨e0, he0, _, _⟩ := entry_at h1 hi
  have hil : i < arr.size := by have := (List.getElem?_eq_some_iff.1 he0).1; simpa using this
  have htl : (arr.eraseIdxIfInBounds i).toList = arr.toList.eraseIdx i := by simp [Array.eraseIdxIfInBounds, hil]
  refine ⟨setBlock w mb (.map (arr.eraseIdxIfInBounds i) clock), ?_, ⟨⟨_, _, setBlock_at hlt, ?_, ?_, ?_⟩, ?_⟩, only_setBlock _, setBlock_size⟩
  · simp [Builtin.delete_, run_underlying ht, MapKept.run_getObj_map hb, K.check w _ hx, hf, MapKept.run_setObj_map _ hb, Result.andThen, setBlock]
  · rw [htl, ← h1, map_eraseIdx]
  · intro e he
    rw [htl] at he
    exact h2 e (List.mem_of_mem_eraseIdx he)
  · rw [htl, map_eraseIdx]
    exact h3.sublist (List.eraseIdx_sublist _ _)
  · intro p hp
    exact h.good p (List.mem_of_mem_eraseIdx hp)

/-! at the operation -/
variable {ops : Array Oper} {rest : List Oper} {o : Oper} {a : Act} {Q : Exit → Act → World → Prop}

theorem wpList_put (hg : o.guard = none) (m x v : Operand) (hop : o.op = Op.mapUpdate t m x v) {mv xv vv : Value} (hm : a.eval m = mv) (hx : a.eval x = xv) (hv : a.eval v = vv)
    (hr : ∃ w', (Instr.mapUpdate t mv xv vv).run P w = .ok () w' ∧ wpList P ops Q rest (a.put o.dst undef) w') : wpList P ops Q (o :: rest) a w := by
  obtain ⟨w', hr, h⟩ := hr
  refine wpList_plain hg fun K' hK' => ?_
  unfold Oper.wp
  simp [execOp, hop, hm, hx, hv, hr, Result.andThen]
  exact hK' _ _ h

theorem wpList_del (hg : o.guard = none) (m x : Operand) (hop : o.op = Op.call { callee := Callee.builtin Builtin.delete, args := #[m, x], argTypes := #[t, k] }) {mv xv : Value} (hm : a.eval m = mv) (hx : a.eval x = xv)
    (hr : ∃ w', (Builtin.delete_ #[t, k] o.type #[mv, xv]).run P w = .ok (.tuple #[]) w' ∧ wpList P ops Q rest (a.put o.dst (.tuple #[])) w') : wpList P ops Q (o :: rest) a w := by
  obtain ⟨w', hr, h⟩ := hr
  refine wpList_plain hg fun K' hK' => ?_
  unfold Oper.wp
  simp [execOp, hop, resolve, invoke, builtin, hm, hx, hr, Result.andThen]
  exact hK' _ _ h

/-! ranged over -/
/-- Block r is an iterator over the map at mb: these entries are still to come. -/
def Ranging (w : World) (r mb : Nat) (left : List (Value × Value)) : Prop :=
  ∃ since seen stepped arr clock, w.heap[r]? = some (.mapIter (some mb) since seen stepped) ∧ since ≤ stepped ∧ w.heap[mb]? = some (.map arr clock) ∧ (∀ e ∈ arr.toList, e.born < since) ∧ since ≤ clock ∧ (arr.toList.map (·.born)).Nodup ∧
    left = (arr.toList.filter (fun e => !seen.contains e.born)).map (fun e => (e.key, e.val))

theorem Ranging.kept {w w' : World} {r mb : Nat} {left : List (Value × Value)} (h : Ranging w r mb left) {bs : List Nat} (ho : Only bs w w') (hr : r ∉ bs) (hm : mb ∉ bs) : Ranging w' r mb left := by
  obtain ⟨since, seen, stepped, arr, clock, h1, h2, h3, h4⟩ := h
  exact ⟨since, seen, stepped, arr, clock, by rw [ho.block r (lt_of_block h1) hr]; exact h1, h2, by rw [ho.block mb (lt_of_block h3) hm]; exact h3, h4⟩

theorem wpList_range (hg : o.guard = none) (m : Operand) (hop : o.op = Op.range t m) (ht : P.underlying t = some (.map k e)) (hm : a.eval m = .map (some mb)) (h : Mp P k w mb es)
    (hK : ∀ w', Ranging w' w.heap.size mb es → Only [] w w' → w'.heap.size = w.heap.size + 1 → wpList P ops Q rest (a.put o.dst (.pointer (some ⟨w.heap.size, 0, none⟩))) w') : wpList P ops Q (o :: rest) a w := by
  refine wpList_plain hg fun K' hK' => ?_
  have hlt := h.lt
  obtain ⟨arr, clock, hb, h1, h2, h3⟩ := h.blk
  have hrun : (Instr.range t (.map (some mb))).run P w = .ok (.pointer (some ⟨w.heap.size, 0, none⟩)) (w.alloc (.mapIter (some mb) clock #[] clock)) := by
    simp [Instr.range, run_underlying ht, MapKept.run_getObj_map hb, Result.andThen]
  unfold Oper.wp
  simp [execOp, hop, hm, hrun, Result.andThen]
  refine hK' _ _ (hK _ ⟨clock, #[], clock, arr, clock, heap_alloc_new w _, Nat.le_refl _, ?_, h2, Nat.le_refl _, h3, ?_⟩ ((Only.refl [] w).alloc _) (by simp))
  · rw [Below.heap_alloc _ _ _ hlt]; exact hb
  · rw [← h1, List.filter_eq_self.2 (by simp)]

theorem wpList_next (hg : o.guard = none) (it : Operand) (hop : o.op = Op.next it false) {r : Nat} {left : List (Value × Value)} (hit : a.eval it = .pointer (some ⟨r, 0, none⟩)) (h : Ranging w r mb left)
    (hDone : left = [] → wpList P ops Q rest (a.put o.dst (.tuple #[.bool false])) w)
    (hMore : ∀ (x v : Value) (left' : List (Value × Value)) (w' : World), left.Perm ((x, v) :: left') → Ranging w' r mb left' → Only [r] w w' → w'.heap.size = w.heap.size → (Instr.entry (.pointer (some ⟨r, 0, none⟩))).run P w' = .ok (.tuple #[x, v]) w' → wpList P ops Q rest (a.put o.dst (.tuple #[.bool true, x, v])) w') :
    wpList P ops Q (o :: rest) a w := by
  refine wpList_plain hg fun K' hK' => ?_
  obtain ⟨since, seen, stepped, arr, clock, h1, h2, h3, h4, h5, h6, rfl⟩ := h
  unfold Oper.wp
  rcases run_next_at (P := P) w o.type r mb since stepped seen arr clock h1 h3 h4 h2 with ⟨h0, hrun⟩ | ⟨e, he, w1, hw1, hrun⟩
  · simp [execOp, hop, hit, hrun, Result.andThen]
    refine hK' _ _ (hDone ?_)
    have : (leftOf arr seen).toList = [] := by
      have : (leftOf arr seen).toList.length = 0 := by simpa using h0
      exact List.eq_nil_of_length_eq_zero this
    unfold leftOf at this
    rw [Array.toList_filter] at this
    rw [this]
    rfl
  · simp [execOp, hop, hit, hrun, Result.andThen]
    refine hK' _ _ (hMore e.key e.val ((arr.toList.filter (fun x => !(seen.push e.born).contains x.born)).map (fun e => (e.key, e.val))) _ ?_ ?_ ?_ ?_ ?_)
    · unfold leftOf at he
      rw [Array.toList_filter] at he
      have hm := List.mem_filter.1 he
      have hp : (arr.toList.filter (fun x => !seen.contains x.born)).Perm (e :: arr.toList.filter (fun x => !(seen.push e.born).contains x.born)) := by
        have h7 : ∀ l : List MapEntry, (l.map (·.born)).Nodup → e ∈ l.filter (fun x => !seen.contains x.born) → (l.filter (fun x => !seen.contains x.born)).Perm (e :: l.filter (fun x => !(seen.push e.born).contains x.born)) := by
          intro l
          induction l with
          | nil => intro _ h; simp at h
          | cons y l ih =>
            intro hn hmem
            simp only [List.map_cons, List.nodup_cons] at hn
            by_cases hy : y.born = e.born
            · have hel : e ∉ l := fun h => hn.1 (by rw [hy]; exact List.mem_map.2 ⟨e, h, rfl⟩)
              have hye : y = e := by
                have := (List.mem_filter.1 hmem).1
                rcases List.mem_cons.1 this with h | h
                · exact h.symm
                · exact absurd h hel
              subst hye
              have hsn := (List.mem_filter.1 hmem).2
              rw [List.filter_cons_of_pos (p := fun x : MapEntry => !seen.contains x.born) hsn, List.filter_cons_of_neg (p := fun x : MapEntry => !(seen.push y.born).contains x.born) (by simp)]
              refine List.Perm.cons _ ?_
              have : l.filter (fun x => !(seen.push y.born).contains x.born) = l.filter (fun x => !seen.contains x.born) := by
                apply List.filter_congr
                intro x hx
                have : x.born ≠ y.born := fun hxy => hn.1 (by rw [← hxy]; exact List.mem_map.2 ⟨x, hx, rfl⟩)
                simp [Array.contains_push, this]
              rw [this]
            · have hmem' : e ∈ l.filter (fun x => !seen.contains x.born) := by
                have := List.mem_filter.1 hmem
                rcases List.mem_cons.1 this.1 with h | h
                · exact absurd (by rw [h]) hy
                · exact List.mem_filter.2 ⟨h, this.2⟩
              have hi := ih hn.2 hmem'
              by_cases hs : (!seen.contains y.born) = true
              · rw [List.filter_cons_of_pos (p := fun x : MapEntry => !seen.contains x.born) hs, List.filter_cons_of_pos (p := fun x : MapEntry => !(seen.push e.born).contains x.born) (by simp [Array.contains_push] at hs ⊢; exact ⟨hs, hy⟩)]
                exact (List.Perm.cons y hi).trans (List.Perm.swap _ _ _)
              · rw [List.filter_cons_of_neg (p := fun x : MapEntry => !seen.contains x.born) hs, List.filter_cons_of_neg (p := fun x : MapEntry => !(seen.push e.born).contains x.born) (by simp [Array.contains_push] at hs ⊢; intro h; exact absurd hs (by simpa using h))]
                exact hi
        exact h7 arr.toList h6 he
      exact hp.map (fun e => (e.key, e.val))
    · have hne : mb ≠ r := by
        rintro rfl
        rw [h1] at h3
        cases h3
      have hw1h : w1.heap = w.heap := by rcases hw1 with rfl | rfl <;> rfl
      refine ⟨since, seen.push e.born, clock, arr, clock, setBlock_at (by rw [hw1h]; exact lt_of_block h1), h5, ?_, h4, h5, h6, rfl⟩
      rw [(only_setBlock (w := w1) (b := r) _).block mb (by rw [hw1h]; exact lt_of_block h3) (by simpa using hne), hw1h]
      exact h3
    · rcases hw1 with rfl | rfl
      · exact only_setBlock _
      · exact (Only.refl [] w).drew.trans (only_setBlock _) (by simp) (by simp)
    · rw [setBlock_size]
      rcases hw1 with rfl | rfl <;> rfl
    · have hne : mb ≠ r := by
        rintro rfl
        rw [h1] at h3
        cases h3
      have hw1h : w1.heap = w.heap := by rcases hw1 with rfl | rfl <;> rfl
      refine run_entry_at _ r mb since seen arr clock e (setBlock_at (by rw [hw1h]; exact lt_of_block h1)) ?_ ?_ h6
      · rw [(only_setBlock (w := w1) (b := r) _).block mb (by rw [hw1h]; exact lt_of_block h3) (by simpa using hne), hw1h]
        exact h3
      · unfold leftOf at he
        rw [Array.toList_filter] at he
        exact (List.mem_filter.1 he).1
end
end Go.Proofs.Ytnlmeaijnfjakaa.Sh
