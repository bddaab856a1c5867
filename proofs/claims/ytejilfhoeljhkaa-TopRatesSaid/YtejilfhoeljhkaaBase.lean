/- Words that all walks of this seat use: what a slice reads as, what a call leaves as it was, bytes and words of 32 and 64 bits as values. -/
import Derived.WalkKit
import Derived.Deep.MidRow
import Derived.Deep.AppendLies
import Derived.Maps.AppendAt
import Derived.Deep.AppendSrc
namespace Go.Proofs.Ytejilfhoeljhkaa.Sh
open Go Go.RowKit

theorem hid {p : Prop} (h : p) : Hid p := h

/-! values -/
@[reducible] def vU8 (x : UInt8) : Value := .int .u8 (x.toNat : Int)
@[reducible] def vU32 (c : BitVec 32) : Value := .int .u32 (c.toNat : Int)
@[reducible] def bytes (l : List UInt8) : List Value := l.map vU8

theorem u8_bound (x : UInt8) : 0 ≤ (x.toNat : Int) ∧ (x.toNat : Int) ≤ 255 := by
  have := UInt8.toNat_lt x; omega
theorem u32_bound (c : BitVec 32) : 0 ≤ (c.toNat : Int) ∧ (c.toNat : Int) ≤ 4294967295 := by
  have := c.isLt; omega

theorem bytes_one (l : List UInt8) : ∀ u ∈ bytes l, u.oneCell' = true := by
  intro u hu
  obtain ⟨x, _, rfl⟩ := List.mem_map.1 hu
  rfl

/-! what a call leaves as it was -/
/-- All blocks that were there, but for those of a list, are as they were. -/
structure Only (bs : List Nat) (w w' : World) : Prop where
  os : w'.os = w.os
  tape : w'.tape = w.tape
  output : w'.output = w.output
  size : w.heap.size ≤ w'.heap.size
  block : ∀ k, k < w.heap.size → k ∉ bs → w'.heap[k]? = w.heap[k]?

theorem Only.refl (bs : List Nat) (w : World) : Only bs w w := ⟨rfl, rfl, rfl, Nat.le_refl _, fun _ _ _ => rfl⟩

theorem Only.trans {bs cs ds : List Nat} {a b c : World} (h : Only bs a b) (k : Only cs b c) (hb : ∀ x ∈ bs, x ∈ ds) (hc : ∀ x ∈ cs, x ∈ ds ∨ a.heap.size ≤ x) : Only ds a c :=
  ⟨k.os.trans h.os, k.tape.trans h.tape, k.output.trans h.output, Nat.le_trans h.size k.size, fun i hi hn =>
    (k.block i (Nat.lt_of_lt_of_le hi h.size) (fun hm => by rcases hc i hm with h1 | h1; exact hn h1; omega)).trans (h.block i hi (fun hm => hn (hb i hm)))⟩

theorem Only.mono {bs cs : List Nat} {a b : World} (h : Only bs a b) (hs : ∀ x ∈ bs, x ∈ cs ∨ a.heap.size ≤ x) : Only cs a b :=
  (Only.refl [] a).trans h (fun _ h => by cases h) hs

theorem Only.drew {bs : List Nat} {a b : World} (h : Only bs a b) : Only bs a b.drew := ⟨h.os, h.tape, h.output, h.size, h.block⟩

theorem Only.alloc {bs : List Nat} {a b : World} (h : Only bs a b) (o : Obj) : Only bs a (b.alloc o) :=
  h.trans (cs := []) ⟨rfl, rfl, rfl, by simp, fun k hk _ => Below.heap_alloc _ _ _ hk⟩ (fun _ h => h) (fun _ h => by cases h)

theorem Only.setCell {bs : List Nat} {a b : World} (h : Only bs a b) {p : Addr} (hp : p.block ∈ bs ∨ a.heap.size ≤ p.block) (u : Value) : Only bs a (b.setCell p u) :=
  h.trans (cs := [p.block]) ⟨rfl, rfl, rfl, by simp [World.setCell], fun k _ hn => Below.heap_setCell _ _ _ _ (fun e => hn (by simp [e]))⟩ (fun _ h => h) (fun x h => by simp at h; subst h; exact hp)

theorem Only.grown {bs : List Nat} {a b c : World} {row : Option Nat} (h : Only bs a b) (hg : b.grownBy c row) (hr : ∀ k, row = some k → k ∈ bs ∨ a.heap.size ≤ k) : Only bs a c :=
  h.trans (cs := row.toList) ⟨hg.os, hg.tape, hg.output, hg.size, fun k hk hn => hg.block k hk (fun e => hn (by simp [← e]))⟩ (fun _ h => h) (fun x hx => hr x (by simpa using hx))

theorem Only.below {w w' : World} (h : Only [] w w') : Below w.heap.size w w' := ⟨h.os, h.tape, h.output, h.size, fun k hk => h.block k hk (by simp)⟩
theorem only_of_below {w w' : World} (h : Below w.heap.size w w') : Only [] w w' := ⟨h.os, h.tape, h.output, h.size, fun k hk _ => h.block k hk⟩

theorem Only.cell {bs : List Nat} {w w' : World} (h : Only bs w w') {p : Addr} {v : Value} (hc : w.cell? p = some v) (hn : p.block ∉ bs) : w'.cell? p = some v :=
  (World.cell?_of_block (h.block p.block (World.block_lt_of_cell? w p hc) hn)).trans hc

theorem Only.cell' {bs : List Nat} {w w' : World} (h : Only bs w w') {p : Addr} (hb : p.block < w.heap.size) (hn : p.block ∉ bs) : w'.cell? p = w.cell? p :=
  World.cell?_of_block (h.block p.block hb hn)

theorem Only.frozen' {bs : List Nat} {w w' : World} (h : Only bs w w') {p : Addr} (hb : p.block < w.heap.size) (hn : p.block ∉ bs) : w'.frozen? p = w.frozen? p :=
  World.frozen?_of_block (h.block p.block hb hn)

/-! what a slice reads as -/
/-- A slice of n elements, each of so many cells, whose cells are cs. -/
def Cs (size : Nat) (w : World) (v : Value) (n : Nat) (cs : List Value) : Prop :=
  cs.length = n * size ∧ ∃ a cap, v = .slice a n cap ∧ n ≤ cap ∧ cap ≤ maxLen ∧ n ≤ 9223372036854775807 ∧ (cs = [] ∨ ∃ b o, a = some ⟨b, o, none⟩ ∧ w.rangeAt b o cs)

/-- A slice of bytes. -/
def Bs (w : World) (v : Value) (l : List UInt8) : Prop := Cs 1 w v l.length (bytes l)

theorem Cs.kept {size : Nat} {w w' : World} {v : Value} {n : Nat} {cs : List Value} (h : Cs size w v n cs) {bs : List Nat} (ho : Only bs w w') (hn : ∀ b, v.ownBlock = some b → b ∉ bs) : Cs size w' v n cs := by
  obtain ⟨hl, a, cap, rfl, h1, h2, h4, h3⟩ := h
  refine ⟨hl, a, cap, rfl, h1, h2, h4, ?_⟩
  rcases h3 with h3 | ⟨b, o, rfl, h3⟩
  · exact .inl h3
  · exact .inr ⟨b, o, rfl, fun j u hu => ho.cell (h3 j u hu) (hn b rfl)⟩

theorem Cs.drew {size : Nat} {w : World} {v : Value} {n : Nat} {cs : List Value} (h : Cs size w v n cs) : Cs size w.drew v n cs := h.kept (Only.refl [] w).drew (fun _ _ h => by cases h)
theorem Cs.kept0 {size : Nat} {w w' : World} {v : Value} {n : Nat} {cs : List Value} (h : Cs size w v n cs) (ho : Only [] w w') : Cs size w' v n cs := h.kept ho (fun _ _ h => by cases h)
theorem Bs.kept {w w' : World} {v : Value} {l : List UInt8} (h : Bs w v l) {bs : List Nat} (ho : Only bs w w') (hn : ∀ b, v.ownBlock = some b → b ∉ bs) : Bs w' v l := Cs.kept h ho hn
theorem Bs.kept0 {w w' : World} {v : Value} {l : List UInt8} (h : Bs w v l) (ho : Only [] w w') : Bs w' v l := Cs.kept0 h ho

/-- What a call owns, read. -/
theorem Cs.of_own {size base : Nat} {e : TypeId} {w : World} {v : Value} {n : Nat} {cs : List Value} (h : w.ownsRow base e size v n cs) (hn : n ≤ 9223372036854775807) : Cs size w v n cs := by
  refine ⟨h.1, ?_⟩
  rcases h.2 with ⟨rfl, rfl⟩ | ⟨g, cap, cur, rfl, hb, hg, h1, h2, h3, h4⟩
  · have hl := h.1
    simp at hl
    exact ⟨none, 0, rfl, Nat.le_refl _, by omega, hn, .inl hl⟩
  · refine ⟨some ⟨g, 0, none⟩, cap, rfl, h1, h2, hn, .inr ⟨g, 0, rfl, ?_⟩⟩
    intro j u hu
    have := h.cells (g := g) rfl j u hu
    rwa [Addr.add_mid] at this

theorem bytes_get {l : List UInt8} {j : Nat} (h : j < l.length) : (bytes l)[j]? = some (vU8 l[j]) := by simp [bytes, h]


/-! append onto what the call owns -/
/-- The facts on a slice type's element that an append asks. -/
structure El (P : Program) (t e : TypeId) (size byts : Nat) : Prop where
  und : P.underlying t = some (.slice e)
  info : ∃ i z, P.info? e = some i ∧ i.zero = some z ∧ i.size = size ∧ i.bytes = byts ∧ z.cells.size = size
  pos : 0 < size

theorem el_mk {P : Program} {t e : TypeId} {size byts : Nat} {z : Value} (hu : P.underlying t = some (.slice e)) (hi : (P.info? e).map (fun i => (i.zero, i.size, i.bytes)) = some (some z, size, byts)) (hz : z.cells.size = size) (hp : 0 < size) : El P t e size byts := by
  obtain ⟨i, h1, h2, h3, h4⟩ := info_parts hi
  exact ⟨hu, ⟨i, z, h1, h2, h3, h4, hz⟩, hp⟩

/-- What an append onto v leaves: v's block alone, of those that were there, may have changed; the new value lies there or in a new one. -/
structure App (w w' : World) (v v' : Value) : Prop where
  grown : w.grownBy w' v.ownBlock
  blk : ∀ k, v'.ownBlock = some k → v.ownBlock = some k ∨ w.heap.size ≤ k

theorem src_of_cs {P : Program} {size : Nat} {t e : TypeId} (hu : P.underlying t = some (.slice e)) {w : World} {x : Value} {m : Nat} {news : List Value} (hx : Cs size w x m news) (hp : 0 < size) (h1 : ∀ u ∈ news, u.oneCell' = true) : Src P size t x m news w := by
  obtain ⟨hl, a, cap, rfl, _, _, _, h⟩ := hx
  rcases h with rfl | ⟨b, o, rfl, h⟩
  · have hm : m = 0 := by
      have hz : m * size = 0 := by simpa using hl.symm
      exact (Nat.mul_eq_zero.1 hz).resolve_right (by omega)
    subst hm
    cases a with
    | none => exact Src.ofNil w hu cap
    | some a => exact Src.ofSlice w hu a 0 cap [] (by simp) (by intro j u hu; simp at hu) (by intro u hu; cases hu)
  · exact Src.ofSlice w hu _ m cap news hl (by intro j u hj; rw [Addr.add_mid]; exact h j u hj) h1

theorem run_app {P : Program} (w : World) (base : Nat) (t ty e : TypeId) (size byts : Nat) (he : El P t e size byts) (v : Value) (n : Nat) (xs : List Value) (hown : w.ownsRow base e size v n xs)
    (x : Value) (m : Nat) (news : List Value) (hx : Cs size w x m news) (h1 : ∀ u ∈ news, u.oneCell' = true) (hb : (n + m) * byts ≤ 140737488355328) (hn : n + m ≤ 140737488355328) (hbase : base ≤ w.heap.size) :
    ∃ v' w', (Builtin.append_ #[t, t] ty #[v, x]).run P w = .ok v' w' ∧ w'.ownsRow base e size v' (n + m) (xs ++ news) ∧ App w w' v v' := by
  obtain ⟨hu, ⟨i, z, hi, hz, rfl, rfl, hzs⟩, hp⟩ := he
  have hs := src_of_cs hu hx hp h1
  have hnl := hs.newsLen
  have hlen : (xs ++ news).length = (n + m) * i.size := by rw [List.length_append, hown.1, hnl, Nat.add_mul]
  have hsmall : n + m ≤ 9223372036854775807 := by omega
  -- the arm that grows
  have grow : ∀ (bs : Option Addr) (old : Nat), v = .slice bs n old → old < n + m → (Builtin.firstCells i.size n (.slice bs n old)).run P w.drew = .ok xs.toArray w.drew → (∃ v' w', (Builtin.append_ #[t, t] ty #[v, x]).run P w = .ok v' w' ∧ w'.ownsRow base e i.size v' (n + m) (xs ++ news) ∧ App w w' v v') := by
    intro bs old hv ho hf
    subst hv
    have hr := run_append_grow_src w t t ty e i z hu hi hz bs n old xs hf x m news hs ho (by omega) (growslice_fits (by omega) hb)
    have hge := grownCap_ge w (n + m) old e
    have hcm : grownCap w (n + m) old e ≤ maxLen := grownCap_le_maxLen w (n + m) old e (by unfold maxLen; omega)
    refine ⟨_, _, hr, ⟨hlen, .inr ⟨w.heap.size, _, _, rfl, hbase, heap_alloc_new w.drew _, hge, hcm, ?_, ?_⟩⟩, ⟨rfl, rfl, rfl, by simp, fun k hk _ => Below.heap_alloc w.drew _ k hk⟩, ?_⟩
    · simp only [Array.size_append, List.size_toArray, size_zeroCells, hzs, hlen, ← Nat.add_mul]
      congr 1
      omega
    · simp only [Array.toList_append, List.append_assoc]
      rw [← List.append_assoc, ← hlen]
      exact List.take_left
    · intro k hk
      simp [Value.ownBlock] at hk
      exact .inr (by omega)
  rcases hown.2 with ⟨rfl, rfl⟩ | ⟨g, cap, cur, rfl, hbg, hg, h2, h3, h4, h5⟩
  · have hxs : xs = [] := by have := hown.1; simp at this; exact this
    subst hxs
    by_cases hm : m = 0
    · subst hm
      have hnews : news = [] := by simpa using hnl
      subst hnews
      refine ⟨.slice none 0 0, w, ?_, hown, World.grownBy.refl _ _, fun k hk => by simp [Value.ownBlock] at hk⟩
      rcases hs.kind with ⟨e', hk⟩ | hk
      · simp [Builtin.append_, run_underlying hu, sizeOf, typeInfo, hi, hs.len, hs.cells]
      · rw [hk] at hu; cases hu
    · exact grow none 0 rfl (by omega) (run_firstCells_none w.drew i.size 0 0 0)
  · by_cases hr : n + m ≤ cap
    · have hfit : n * i.size + news.length ≤ cur.size := by
        rw [hnl, ← Nat.add_mul, h4]
        exact Nat.mul_le_mul_right _ hr
      have hst := run_storeCells_at P g (n * i.size) e news 0 cur w hg (by simpa using hfit) h1
      simp only [Nat.add_zero] at hst
      have hrun : (Builtin.append_ #[t, t] ty #[.slice (some ⟨g, 0, none⟩) n cap, x]).run P w = .ok (.slice (some ⟨g, 0, none⟩) (n + m) cap) (w.setRow g (cur.toList.take (n * i.size) ++ news ++ cur.toList.drop (n * i.size + news.length)).toArray) := by
        rcases hs.kind with ⟨e', hk⟩ | hk <;> simp [Builtin.append_, run_underlying hu, run_underlying hk, sizeOf, typeInfo, hi, hs.len, hr, hs.cells, Addr.add_lit, hst]
      refine ⟨_, _, hrun, ⟨hlen, .inr ⟨g, cap, _, rfl, hbg, setRow_heap w g cur _ e _ hg, hr, h3, ?_, ?_⟩⟩, ⟨rfl, rfl, rfl, by simp, fun k _ hk => setRow_other w g k _ (fun e => hk (by simp [Value.ownBlock, e]))⟩, fun k hk => .inl hk⟩
      · simp; omega
      · rw [h5, List.append_assoc, ← List.append_assoc, ← hlen]
        exact List.take_left
    · refine grow _ cap rfl (by omega) ?_
      refine run_firstCells_some w.drew i.size n ⟨g, 0, none⟩ n cap xs hown.1 ?_
      intro j u hj
      exact hown.cells (g := g) rfl j u hj

theorem wpList_app {P : Program} {ops : Array Oper} {rest : List Oper} {o : Oper} {a : Act} {Q : Exit → Act → World → Prop} {w : World} (hgd : o.guard = none) (s x : Operand) (t : TypeId)
    (ho : o.op = .call { callee := .builtin .append, args := #[s, x], argTypes := #[t, t] })
    (base e size byts : Nat) (he : El P t e size byts) {v : Value} {n : Nat} {xs : List Value} (hs : a.eval s = v) (hown : w.ownsRow base e size v n xs)
    {xv : Value} {m : Nat} {news : List Value} (hx : a.eval x = xv) (hcs : Cs size w xv m news) (h1 : ∀ u ∈ news, u.oneCell' = true) (hb : (n + m) * byts ≤ 140737488355328) (hn : n + m ≤ 140737488355328) (hbase : base ≤ w.heap.size)
    (h : ∀ v' w', w'.ownsRow base e size v' (n + m) (xs ++ news) → App w w' v v' → wpList P ops Q rest (a.put o.dst v') w') : wpList P ops Q (o :: rest) a w := by
  refine wpList_plain hgd fun K hK => ?_
  obtain ⟨v', w', hr, h2, h3⟩ := run_app (P := P) w base t o.type e size byts he v n xs hown xv m news hcs h1 hb hn hbase
  unfold Oper.wp execOp
  simp only [ho, resolve, invoke, builtin, Sem.run_bind, Sem.run_pure, Result.andThen_ok, List.map_toArray, List.map_cons, List.map_nil, hs, hx, hr]
  exact hK _ _ (h v' w' h2 h3)

theorem Cs.fresh {size e : Nat} {w : World} {cs : List Value} (hl : cs.length = size) : Cs size (w.alloc (.cells cs.toArray e)) (.slice (some ⟨w.heap.size, 0, none⟩) 1 1) 1 cs := by
  refine ⟨by omega, _, 1, rfl, Nat.le_refl _, by unfold maxLen; omega, by omega, .inr ⟨w.heap.size, 0, rfl, ?_⟩⟩
  intro j u hj
  rw [World.cell?_alloc_new]
  simpa using hj

/-- 'append(s, x)' of one element, which lies in a new block of its own. -/
theorem wpList_app1 {P : Program} {ops : Array Oper} {rest : List Oper} {o : Oper} {a : Act} {Q : Exit → Act → World → Prop} {w : World} (hgd : o.guard = none) (s x : Operand) (t : TypeId)
    (ho : o.op = .call { callee := .builtin .append, args := #[s, x], argTypes := #[t, t] })
    (base e size byts : Nat) (he : El P t e size byts) {v : Value} {n : Nat} {xs : List Value} (hs : a.eval s = v) (hown : w.ownsRow base e size v n xs)
    (cs : List Value) (hx : a.eval x = .slice (some ⟨w.heap.size, 0, none⟩) 1 1) (hl : cs.length = size) (h1 : ∀ u ∈ cs, u.oneCell' = true) (hb : (n + 1) * byts ≤ 140737488355328) (hn : n + 1 ≤ 140737488355328) (hbase : base ≤ w.heap.size)
    (h : ∀ v' w', w'.ownsRow base e size v' (n + 1) (xs ++ cs) → App w w' v v' → wpList P ops Q rest (a.put o.dst v') w') : wpList P ops Q (o :: rest) a (w.alloc (.cells cs.toArray e)) := by
  refine wpList_app hgd s x t ho base e size byts he hs (hown.alloc _) hx (Cs.fresh hl) h1 hb hn (by simp; omega) ?_
  intro v' w' h2 h3
  refine h v' w' h2 ⟨⟨h3.grown.os, h3.grown.tape, h3.grown.output, Nat.le_trans (by simp) h3.grown.size, fun k hk hne => ?_⟩, fun k hk => ?_⟩
  · rw [h3.grown.block k (by simp; omega) hne]
    exact Below.heap_alloc _ _ _ hk
  · rcases h3.blk k hk with h | h
    · exact .inl h
    · simp at h; exact .inr (by omega)

theorem Only.app {bs : List Nat} {a b c : World} {v v' : Value} (h : Only bs a b) (hp : App b c v v') (hr : ∀ k, v.ownBlock = some k → k ∈ bs ∨ a.heap.size ≤ k) : Only bs a c := h.grown hp.grown hr

/-- What an append leaves of another row that the call owns. -/
theorem App.other {w w' : World} {v v' : Value} (h : App w w' v v') {base e size : Nat} {u : Value} {n : Nat} {xs : List Value} (ho : w.ownsRow base e size u n xs) (hne : u.ownBlock = none ∨ u.ownBlock ≠ v.ownBlock) : w'.ownsRow base e size u n xs := ho.kept h.grown hne

theorem ownsRow_drew {w : World} {base e size : Nat} {v : Value} {n : Nat} {xs : List Value} (h : w.ownsRow base e size v n xs) : w.drew.ownsRow base e size v n xs := h

/-- An owned row while other blocks change. -/
theorem own_only {w w' : World} {base e size : Nat} {v : Value} {n : Nat} {xs : List Value} (h : w.ownsRow base e size v n xs) {bs : List Nat} (ho : Only bs w w') (hn : ∀ k, v.ownBlock = some k → k ∉ bs) : w'.ownsRow base e size v n xs := by
  refine ⟨h.1, ?_⟩
  rcases h.2 with h2 | ⟨g, cap, cur, rfl, hb, hg, hr⟩
  · exact .inl h2
  · exact .inr ⟨g, cap, cur, rfl, hb, by rw [ho.block g (lt_of_block hg) (hn g rfl)]; exact hg, hr⟩

theorem own_only0 {w w' : World} {base e size : Nat} {v : Value} {n : Nat} {xs : List Value} (h : w.ownsRow base e size v n xs) (ho : Only [] w w') : w'.ownsRow base e size v n xs := own_only h ho (by simp)

theorem own_lower {w : World} {base base' e size : Nat} {v : Value} {n : Nat} {xs : List Value} (h : w.ownsRow base e size v n xs) (hb : base' ≤ base) : w.ownsRow base' e size v n xs := by
  refine ⟨h.1, ?_⟩
  rcases h.2 with h2 | ⟨g, cap, cur, rfl, hb', hr⟩
  · exact .inl h2
  · exact .inr ⟨g, cap, cur, rfl, Nat.le_trans hb hb', hr⟩

theorem App.refl (w : World) (v : Value) : App w w v v := ⟨World.grownBy.refl _ _, fun _ h => .inl h⟩
theorem App.trans {a b c : World} {u v x : Value} (h : App a b u v) (k : App b c v x) : App a c u x := by
  refine ⟨⟨k.grown.os.trans h.grown.os, k.grown.tape.trans h.grown.tape, k.grown.output.trans h.grown.output, Nat.le_trans h.grown.size k.grown.size, fun i hi hn => ?_⟩, fun i hi => ?_⟩
  · rw [k.grown.block i (Nat.lt_of_lt_of_le hi h.grown.size) ?_]
    · exact h.grown.block i hi hn
    · intro e
      rcases h.blk i e.symm with h1 | h1
      · exact hn h1.symm
      · omega
  · rcases k.blk i hi with h1 | h1
    · exact h.blk i h1
    · exact .inr (Nat.le_trans h.grown.size h1)

/-- A call that keeps all old blocks, ahead of an append, or behind it. -/
theorem App.only {a b c : World} {v x : Value} (h : Only [] a b) (k : App b c v x) : App a c v x :=
  ⟨⟨k.grown.os.trans h.os, k.grown.tape.trans h.tape, k.grown.output.trans h.output, Nat.le_trans h.size k.grown.size, fun i hi hn => (k.grown.block i (Nat.lt_of_lt_of_le hi h.size) hn).trans (h.block i hi (by simp))⟩, fun i hi => by
    rcases k.blk i hi with h1 | h1
    · exact .inl h1
    · exact .inr (Nat.le_trans h.size h1)⟩
theorem App.only' {a b c : World} {v x : Value} (k : App a b v x) (h : Only [] b c) : App a c v x :=
  ⟨⟨h.os.trans k.grown.os, h.tape.trans k.grown.tape, h.output.trans k.grown.output, Nat.le_trans k.grown.size h.size, fun i hi hn => (h.block i (Nat.lt_of_lt_of_le hi k.grown.size) (by simp)).trans (k.grown.block i hi hn)⟩, k.blk⟩
theorem App.toOnly {a b : World} {v x : Value} (k : App a b v x) (hv : ∀ i, v.ownBlock = some i → a.heap.size ≤ i) : Only [] a b := (Only.refl [] a).app k (fun i h => .inr (hv i h))
theorem App.nil {a b : World} {x : Value} (k : App a b (.slice none 0 0) x) : Only [] a b := k.toOnly (fun i h => by simp [Value.ownBlock] at h)

theorem one1 {x : Value} (h : x.oneCell' = true) : ∀ u ∈ [x], u.oneCell' = true := by
  intro u hu
  obtain rfl : u = x := by simpa using hu
  exact h

theorem own_cast {w : World} {base e size : Nat} {v : Value} {n n' : Nat} {xs xs' : List Value} (h : w.ownsRow base e size v n xs) (hn : n = n') (hx : xs = xs') : w.ownsRow base e size v n' xs' := by
  subst hn; subst hx; exact h

theorem Cs.cast {w : World} {size : Nat} {v : Value} {n n' : Nat} {xs xs' : List Value} (h : Cs size w v n xs) (hn : n = n') (hx : xs = xs') : Cs size w v n' xs' := by
  subst hn; subst hx; exact h

/-- A part of a slice of bytes. -/
theorem Bs.sub {w : World} {b o cap : Nat} {l : List UInt8} (h : Bs w (.slice (some ⟨b, o, none⟩) l.length cap) l) (lo n : Nat) (hn : lo + n ≤ l.length) : Bs w (.slice (some ⟨b, o + lo, none⟩) n (cap - lo)) ((l.drop lo).take n) := by
  obtain ⟨_, a, cap', he, h1, h2, h3, h4⟩ := h
  simp only [Value.slice.injEq] at he
  obtain ⟨rfl, _, rfl⟩ := he
  have hlen : ((l.drop lo).take n).length = n := by simp; omega
  refine ⟨by simp [bytes], _, cap - lo, by rw [hlen], by omega, by omega, by omega, .inr ⟨b, o + lo, rfl, ?_⟩⟩
  rcases h4 with h4 | ⟨b', o', he, h4⟩
  · have : l = [] := by simpa [bytes] using h4
    subst this
    intro j u hj
    simp [bytes] at hj
  · simp only [Option.some.injEq, Addr.mk.injEq, and_true] at he
    obtain ⟨rfl, rfl⟩ := he
    intro j u hj
    have hj' : (bytes l)[lo + j]? = some u := by
      have hjn : j < n := by
        have := (List.getElem?_eq_some_iff.1 hj).1
        simp [bytes] at this
        omega
      simp only [bytes, List.getElem?_map] at hj ⊢
      rw [List.getElem?_take, if_pos hjn, List.getElem?_drop] at hj
      exact hj
    have := h4 (lo + j) u hj'
    rwa [← Nat.add_assoc] at this

theorem Bs.form {w : World} {v : Value} {l : List UInt8} (h : Bs w v l) (hl : 0 < l.length) : ∃ b o cap, v = .slice (some ⟨b, o, none⟩) l.length cap ∧ l.length ≤ cap ∧ cap ≤ maxLen ∧ l.length ≤ 9223372036854775807 ∧ w.rangeAt b o (bytes l) := by
  obtain ⟨_, a, cap, rfl, h1, h2, h3, h4⟩ := h
  rcases h4 with h4 | ⟨b, o, rfl, h4⟩
  · have : l = [] := by simpa [bytes] using h4
    subst this; simp at hl
  · exact ⟨b, o, cap, rfl, h1, h2, h3, h4⟩

theorem Only.trans0 {a b c : World} (h : Only [] a b) (k : Only [] b c) : Only [] a c := h.trans k (by simp) (by simp)

/-- Rows of elements of two types are two rows. -/
theorem own_ne {w : World} {B B' e e' size size' : Nat} {u v : Value} {n n' : Nat} {xs ys : List Value} (h : w.ownsRow B e size u n xs) (k : w.ownsRow B' e' size' v n' ys) (hne : e ≠ e') : u.ownBlock = none ∨ u.ownBlock ≠ v.ownBlock := by
  rcases h.2 with ⟨rfl, _⟩ | ⟨g, cap, cur, rfl, _, hg, _⟩
  · exact .inl rfl
  · rcases k.2 with ⟨rfl, _⟩ | ⟨g', cap', cur', rfl, _, hg', _⟩
    · exact .inr (by simp [Value.ownBlock])
    · refine .inr ?_
      intro he
      simp [Value.ownBlock] at he
      subst he
      rw [hg] at hg'
      simp at hg'
      exact hne hg'.2

/-- Values and what they stand for, one by one. -/
inductive All2 {α β : Type} (R : α → β → Prop) : List α → List β → Prop
  | nil : All2 R [] []
  | cons {a b as bs} : R a b → All2 R as bs → All2 R (a :: as) (b :: bs)

theorem All2.length {α β : Type} {R : α → β → Prop} {as : List α} {bs : List β} (h : All2 R as bs) : as.length = bs.length := by
  induction h with
  | nil => rfl
  | cons _ _ ih => simp [ih]
theorem All2.imp {α β : Type} {R S : α → β → Prop} {as : List α} {bs : List β} (h : All2 R as bs) (f : ∀ a b, R a b → S a b) : All2 S as bs := by
  induction h with
  | nil => exact .nil
  | cons h _ ih => exact .cons (f _ _ h) ih
theorem All2.snoc {α β : Type} {R : α → β → Prop} {as : List α} {bs : List β} (h : All2 R as bs) {a : α} {b : β} (hr : R a b) : All2 R (as ++ [a]) (bs ++ [b]) := by
  induction h with
  | nil => exact .cons hr .nil
  | cons h _ ih => exact .cons h ih
theorem All2.get {α β : Type} {R : α → β → Prop} {as : List α} {bs : List β} (h : All2 R as bs) {j : Nat} (hj : j < bs.length) : ∃ a, as[j]? = some a ∧ R a bs[j] := by
  induction h generalizing j with
  | nil => simp at hj
  | cons h _ ih =>
    cases j with
    | zero => exact ⟨_, rfl, h⟩
    | succ j =>
      simp at hj
      exact ih hj
theorem All2.append {α β : Type} {R : α → β → Prop} {as cs : List α} {bs ds : List β} (h : All2 R as bs) (k : All2 R cs ds) : All2 R (as ++ cs) (bs ++ ds) := by
  induction h with
  | nil => exact k
  | cons h _ ih => exact .cons h ih
theorem All2.take {α β : Type} {R : α → β → Prop} {as : List α} {bs : List β} (h : All2 R as bs) (n : Nat) : All2 R (as.take n) (bs.take n) := by
  induction h generalizing n with
  | nil => simp; exact .nil
  | cons h _ ih => cases n with
    | zero => exact .nil
    | succ n => exact .cons h (ih n)
theorem All2.drop {α β : Type} {R : α → β → Prop} {as : List α} {bs : List β} (h : All2 R as bs) (n : Nat) : All2 R (as.drop n) (bs.drop n) := by
  induction h generalizing n with
  | nil => simp; exact .nil
  | cons h k ih => cases n with
    | zero => exact .cons h k
    | succ n => exact ih n

/-- A slice of slices of bytes. -/
def Bss (w : World) (v : Value) (ls : List (List UInt8)) : Prop := ∃ vs, Cs 1 w v ls.length vs ∧ All2 (Bs w) vs ls

theorem Bss.kept0 {w w' : World} {v : Value} {ls : List (List UInt8)} (h : Bss w v ls) (ho : Only [] w w') : Bss w' v ls := by
  obtain ⟨vs, h1, h2⟩ := h
  exact ⟨vs, h1.kept0 ho, h2.imp fun _ _ k => k.kept0 ho⟩

theorem own_form {w : World} {B e size : Nat} {v : Value} {n : Nat} {xs : List Value} (h : w.ownsRow B e size v n xs) : ∃ a c, v = .slice a n c := by
  rcases h.2 with ⟨rfl, rfl⟩ | ⟨g, cap, cur, rfl, _⟩
  · exact ⟨_, _, rfl⟩
  · exact ⟨_, _, rfl⟩

/-- A slice that was just built. -/
theorem own_built (w : World) (cs : List Value) (e size n : Nat) (hl : cs.length = n * size) (hn : n ≤ maxLen) : (w.alloc (.cells cs.toArray e)).ownsRow w.heap.size e size (.slice (some ⟨w.heap.size, 0, none⟩) n n) n cs :=
  ⟨hl, .inr ⟨w.heap.size, n, cs.toArray, rfl, Nat.le_refl _, heap_alloc_new w _, Nat.le_refl _, hn, by simpa using hl, by rw [← hl]; simp⟩⟩

/-- A slice that was just built, read (its block may bear the mark of a constant text). -/
theorem cs_built (w : World) (cs : List Value) (e size n : Nat) (fr : Nat × Nat) (hl : cs.length = n * size) (hn : n ≤ 9223372036854775807) : Cs size (w.alloc (.cells cs.toArray e fr)) (.slice (some ⟨w.heap.size, 0, none⟩) n n) n cs := by
  refine ⟨hl, _, n, rfl, Nat.le_refl _, by unfold maxLen; omega, hn, .inr ⟨w.heap.size, 0, rfl, ?_⟩⟩
  intro j u hj
  have : (w.alloc (.cells cs.toArray e fr)).heap[w.heap.size]? = some (.cells cs.toArray e fr) := heap_alloc_new w _
  simp only [World.cell?, this, Nat.zero_add]
  simpa using hj

/-! an own row's cells -/
theorem own_at {w : World} {B e : Nat} {v : Value} {n : Nat} {xs : List Value} (h : w.ownsRow B e 1 v n xs) (hn : 0 < n) : ∃ g cap, v = .slice (some ⟨g, 0, none⟩) n cap ∧ B ≤ g ∧ g < w.heap.size ∧ n ≤ cap ∧ cap ≤ maxLen ∧ ∀ i u, xs[i]? = some u → w.cell? ⟨g, i, none⟩ = some u ∧ w.frozen? ⟨g, i, none⟩ = false := by
  rcases h.2 with ⟨rfl, rfl⟩ | ⟨g, cap, cur, rfl, hb, hg, h1, h2, h3, h4⟩
  · omega
  · refine ⟨g, cap, rfl, hb, lt_of_block hg, h1, h2, fun i u hu => ⟨?_, ?_⟩⟩
    · have := h.cells (g := g) rfl i u hu
      rwa [Addr.add_mid, Nat.zero_add] at this
    · simp [World.frozen?, hg]

theorem own_set {w : World} {B e g cap : Nat} {n : Nat} {xs : List Value} (h : w.ownsRow B e 1 (.slice (some ⟨g, 0, none⟩) n cap) n xs) {i : Nat} (hi : i < n) (u : Value) : (w.setCell ⟨g, i, none⟩ u).ownsRow B e 1 (.slice (some ⟨g, 0, none⟩) n cap) n (xs.set i u) := by
  refine ⟨by simpa using h.1, ?_⟩
  rcases h.2 with ⟨h1, _⟩ | ⟨g', cap', cur, hv, hb, hg, h1, h2, h3, h4⟩
  · cases h1
  · simp only [Value.slice.injEq, Option.some.injEq, Addr.mk.injEq, and_true, true_and] at hv
    obtain ⟨rfl, rfl⟩ := hv
    have hset : (w.setCell ⟨g, i, none⟩ u).heap[g]? = some (.cells (cur.setIfInBounds i u) e (0, 0)) := by
      rw [setCell_eq_setRow w g i cur e (0, 0) u hg]
      exact setRow_heap w g cur _ e _ hg
    refine .inr ⟨g, cap, _, rfl, hb, hset, h1, h2, by simpa using h3, ?_⟩
    rw [← h4, Nat.mul_one]
    simp [List.take_set]

/-- A slice of bytes of the call's own. -/
theorem xor_u8 (x y : UInt8) : bits .xor .u8 (x.toNat : Int) (y.toNat : Int) = ((x ^^^ y).toNat : Int) := by
  rw [u8_xor_nat _ _ (UInt8.toNat_lt x) (UInt8.toNat_lt y), UInt8.toNat_xor]

theorem Bs.at {w : World} {a : Option Addr} {cap : Nat} {l : List UInt8} (h : Bs w (.slice a l.length cap) l) (k : Nat) (hk : k < l.length) : ∃ b o, a = some ⟨b, o, none⟩ ∧ w.cell? ⟨b, o + k, none⟩ = some (vU8 l[k]) := by
  obtain ⟨_, a', cap', he, _, _, _, h4⟩ := h
  simp only [Value.slice.injEq] at he
  obtain ⟨rfl, _, rfl⟩ := he
  rcases h4 with h4 | ⟨b, o, rfl, h4⟩
  · exact absurd h4 (by intro h5; simp [bytes] at h5; simp [h5] at hk)
  · exact ⟨b, o, rfl, h4 k _ (bytes_get hk)⟩

theorem Bss.at {w : World} {a : Option Addr} {n cap : Nat} {ls : List (List UInt8)} (h : Bss w (.slice a n cap) ls) (k : Nat) (hk : k < ls.length) : ∃ b o x, a = some ⟨b, o, none⟩ ∧ w.cell? ⟨b, o + k, none⟩ = some x ∧ Bs w x ls[k] := by
  obtain ⟨vs, ⟨hl, a', cap', he, _, _, _, h4⟩, h2⟩ := h
  simp only [Value.slice.injEq] at he
  obtain ⟨rfl, _, rfl⟩ := he
  obtain ⟨x, hx, hb⟩ := h2.get hk
  rcases h4 with h4 | ⟨b, o, rfl, h4⟩
  · subst h4; simp at hx
  · exact ⟨b, o, x, rfl, h4 k x hx, hb⟩

theorem Bss.form {w : World} {v : Value} {ls : List (List UInt8)} (h : Bss w v ls) : ∃ a cap, v = .slice a ls.length cap ∧ ls.length ≤ cap ∧ cap ≤ maxLen ∧ ls.length ≤ 9223372036854775807 := by
  obtain ⟨vs, ⟨_, a, cap, rfl, h1, h2, h3, _⟩, _⟩ := h
  exact ⟨a, cap, rfl, h1, h2, h3⟩

end Go.Proofs.Ytejilfhoeljhkaa.Sh
