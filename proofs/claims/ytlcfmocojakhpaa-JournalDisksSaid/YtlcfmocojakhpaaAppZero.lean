/- append onto an empty row of which nothing is known: in a drawn region. -/
import Derived.Test.YtlcfmocojakhpaaStepApp
import Derived.Test.YtlcfmocojakhpaaBytes
namespace Go.Proofs.Ytlcfmocojakhpaa.Sh
open Go Go.RowKit

/-- The block that an append onto v may change: none where there is no room. -/
def RB : Value → Option Nat
  | .slice (some a) _ (_ + 1) => some a.block
  | _ => none
structure App0 (w w' : World) (v v' : Value) : Prop where
  grown : w.grownBy w' (RB v)
  blk : ∀ k, RB v' = some k → RB v = some k ∨ w.heap.size ≤ k
/-- A row of the call's own, or an empty one without room. -/
def Rw (w : World) (base e size : Nat) (v : Value) (n : Nat) (xs : List Value) : Prop :=
  (n = 0 ∧ xs = [] ∧ ∃ a : Option Nat, v = .slice (a.map fun g => ⟨g, 0, none⟩) 0 0) ∨ ∃ g cap, v = .slice (some ⟨g, 0, none⟩) n (cap + 1) ∧ w.ownsRow base e size v n xs
theorem rw_built {w : World} {base e size g : Nat} : Rw w base e size (.slice (some ⟨g, 0, none⟩) 0 0) 0 [] := .inl ⟨rfl, rfl, some g, rfl⟩
theorem Rw.of_own {w : World} {base e size : Nat} {v : Value} {n : Nat} {xs : List Value} (h : w.ownsRow base e size v n xs) : Rw w base e size v n xs := by
  have hl := h.1
  rcases id h.2 with ⟨rfl, rfl⟩ | ⟨g, cap, cur, rfl, r⟩
  · exact .inl ⟨rfl, by simpa using hl, none, rfl⟩
  · cases cap with
    | zero =>
      obtain rfl : n = 0 := by have := r.2.2.1; omega
      exact .inl ⟨rfl, by simpa using hl, some g, rfl⟩
    | succ c => exact .inr ⟨g, c, rfl, h⟩
theorem Rw.lt {w : World} {base e size : Nat} {v : Value} {n : Nat} {xs : List Value} (h : Rw w base e size v n xs) : ∀ k, RB v = some k → base ≤ k ∧ k < w.heap.size := by
  intro k hk
  rcases h with ⟨_, _, a, rfl⟩ | ⟨g, cap, rfl, h⟩
  · cases a <;> simp [RB] at hk
  · exact h.lt k (by simpa [RB, Value.ownBlock] using hk)
theorem Rw.form {w : World} {base e size : Nat} {v : Value} {n : Nat} {xs : List Value} (h : Rw w base e size v n xs) : ∃ a c, v = .slice a n c := by
  rcases h with ⟨rfl, _, a, rfl⟩ | ⟨g, cap, rfl, h⟩
  · exact ⟨_, _, rfl⟩
  · exact ⟨_, _, rfl⟩
def ra : Value → Option Addr
  | .slice a _ _ => a
  | _ => none
def rc : Value → Nat
  | .slice _ _ c => c
  | _ => 0
theorem Rw.form' {w : World} {base e size : Nat} {v : Value} {n : Nat} {xs : List Value} (h : Rw w base e size v n xs) : v = .slice (ra v) n (rc v) := by
  obtain ⟨a, c, rfl⟩ := h.form
  rfl
theorem Rw.only {w w' : World} {base e size : Nat} {v : Value} {n : Nat} {xs : List Value} (h : Rw w base e size v n xs) {bs : List Nat} (ho : Only bs w w') (hn : ∀ k, RB v = some k → k ∉ bs) : Rw w' base e size v n xs := by
  rcases h with h | ⟨g, cap, rfl, h⟩
  · exact .inl h
  · exact .inr ⟨g, cap, rfl, own_only h ho (fun k hk => hn k (by simpa [RB, Value.ownBlock] using hk))⟩
theorem Rw.only0 {w w' : World} {base e size : Nat} {v : Value} {n : Nat} {xs : List Value} (h : Rw w base e size v n xs) (ho : Only [] w w') : Rw w' base e size v n xs := h.only ho (by simp)
theorem Rw.cs {w : World} {base e size : Nat} {v : Value} {n : Nat} {xs : List Value} (h : Rw w base e size v n xs) (hn : n ≤ 9223372036854775807) : Cs size w v n xs := by
  rcases h with ⟨rfl, rfl, a, rfl⟩ | ⟨g, cap, rfl, h⟩
  · exact ⟨by simp, _, 0, rfl, Nat.le_refl _, by unfold maxLen; omega, by omega, .inl rfl⟩
  · exact Cs.of_own h hn
theorem Rw.bs {w : World} {base e : Nat} {v : Value} {n : Nat} {xs : List Value} {l : List UInt8} (h : Rw w base e 1 v n xs) (hn : n = l.length) (hx : xs = bytes l) (hl : l.length ≤ 9223372036854775807) : Bs w v l := by
  subst hn hx
  exact h.cs hl
theorem Only.app0 {bs : List Nat} {a b c : World} {v v' : Value} (h : Only bs a b) (hp : App0 b c v v') (hr : ∀ k, RB v = some k → k ∈ bs ∨ a.heap.size ≤ k) : Only bs a c := h.grown hp.grown hr
theorem App0.fresh {b c : World} {g : Nat} {v' : Value} (h : App0 b c (.slice (some ⟨g, 0, none⟩) 0 0) v') : Only [] b c := (Only.refl [] b).app0 h (fun k hk => by simp [RB] at hk)

theorem RB.own {v : Value} {k : Nat} (hk : RB v = some k) : v.ownBlock = some k := by
  unfold RB at hk
  split at hk <;> simp_all [Value.ownBlock]

/-- What follows a drawn region, once for all its orders: the first order fixes P. -/
theorem share {P G : Prop} (later : P) (region : P → G) : G := region later

theorem run_app0 {P : Program} (w : World) (base : Nat) (t ty e : TypeId) (size byts : Nat) (he : El P t e size byts) (v : Value) (n : Nat) (xs : List Value) (hown : Rw w base e size v n xs)
    (x : Value) (m : Nat) (news : List Value) (hx : Cs size w x m news) (h1 : ∀ u ∈ news, u.oneCell' = true) (hb : (n + m) * byts ≤ 140737488355328) (hn : n + m ≤ 140737488355328) (hbase : base ≤ w.heap.size) :
    ∃ v' w', (Builtin.append_ #[t, t] ty #[v, x]).run P w = .ok v' w' ∧ Rw w' base e size v' (n + m) (xs ++ news) ∧ App0 w w' v v' := by
  have own : w.ownsRow base e size v n xs → ∃ v' w', (Builtin.append_ #[t, t] ty #[v, x]).run P w = .ok v' w' ∧ w'.ownsRow base e size v' (n + m) (xs ++ news) ∧ App w w' v v' := fun h => run_app w base t ty e size byts he v n xs h x m news hx h1 hb hn hbase
  rcases hown with ⟨rfl, rfl, a, rfl⟩ | ⟨g, cap, rfl, h⟩
  · cases a with
    | none =>
      obtain ⟨v', w', hr, h2, h3⟩ := own ⟨by simp, .inl ⟨rfl, rfl⟩⟩
      exact ⟨v', w', hr, .of_own h2, h3.grown, fun k hk => by
        have hk2 := RB.own hk
        rcases h3.blk k hk2 with h | h
        · simp [Value.ownBlock] at h
        · exact .inr h⟩
    | some g =>
      clear own
      obtain ⟨hu, ⟨i, z, hi, hz, rfl, rfl, hzs⟩, hp⟩ := he
      have hs := src_of_cs hu hx hp h1
      have hnl := hs.newsLen
      by_cases hm : m = 0
      · subst hm
        have hnews : news = [] := by simpa using hnl
        subst hnews
        refine ⟨.slice (some ⟨g, 0, none⟩) 0 0, w, ?_, .inl ⟨rfl, rfl, some g, rfl⟩, World.grownBy.refl _ _, fun k hk => by simp [RB] at hk⟩
        rcases hs.kind with ⟨e', hk⟩ | hk
        · simp [Builtin.append_, run_underlying hu, run_underlying hk, sizeOf, typeInfo, hi, hs.len, hs.cells, storeCells]
        · rw [hk] at hu; cases hu
      · have hf : (Builtin.firstCells i.size 0 (.slice (some ⟨g, 0, none⟩) 0 0)).run P w.drew = .ok ([] : List Value).toArray w.drew := run_firstCells_some w.drew i.size 0 ⟨g, 0, none⟩ 0 0 [] (by simp) (by intro j u hj; simp at hj)
        have hr := run_append_grow_src w t t ty e i z hu hi hz (some ⟨g, 0, none⟩) 0 0 [] hf x m news hs (by omega) (by omega) (growslice_fits (by omega) hb)
        have hge := grownCap_ge w (0 + m) 0 e
        have hcm : grownCap w (0 + m) 0 e ≤ maxLen := grownCap_le_maxLen w (0 + m) 0 e (by unfold maxLen; omega)
        refine ⟨_, _, hr, .of_own ⟨by simp [hnl], .inr ⟨w.heap.size, _, _, rfl, hbase, heap_alloc_new w.drew _, hge, hcm, ?_, ?_⟩⟩, ⟨rfl, rfl, rfl, by simp, fun k hk _ => Below.heap_alloc w.drew _ k hk⟩, fun k hk => ?_⟩
        · simp only [Array.size_append, List.size_toArray, size_zeroCells, hzs, List.nil_append, hnl]
          rw [← Nat.add_mul]
          congr 1
          omega
        · simp only [Array.toList_append, List.nil_append]
          exact List.take_left' (by rw [hnl]; simp)
        · have h9 := RB.own hk
          simp [Value.ownBlock] at h9
          exact .inr (by omega)
  · obtain ⟨v', w', hr, h2, h3⟩ := own h
    exact ⟨v', w', hr, .of_own h2, h3.grown, fun k hk => by
      have hk2 := RB.own hk
      rcases h3.blk k hk2 with h | h
      · exact .inl h
      · exact .inr h⟩

theorem step_app0 {P : Program} {ops : Array Oper} {o : Oper} {a : Act} {K : Act → World → Prop} {Q : Exit → Act → World → Prop} {E : Prop} {w : World} (hgd : o.guard = none) (s x : Operand) (t : TypeId)
    (ho : o.op = .call { callee := .builtin .append, args := #[s, x], argTypes := #[t, t] })
    (base e size byts : Nat) (he : El P t e size byts) {v : Value} {n : Nat} {xs : List Value} (hs : a.eval s = v) (hown : Rw w base e size v n xs)
    {xv : Value} {m : Nat} {news : List Value} (hx : a.eval x = xv) (hcs : Cs size w xv m news) (h1 : ∀ u ∈ news, u.oneCell' = true) (hb : (n + m) * byts ≤ 140737488355328) (hn : n + m ≤ 140737488355328) (hbase : base ≤ w.heap.size)
    (h : ∀ v' w', Rw w' base e size v' (n + m) (xs ++ news) → App0 w w' v v' → K (a.put o.dst v') w') :
    if Region.wanted o (yielded ops a.tmps) = true then Oper.wp P o a w K Q else E := by
  have hw : Region.wanted o (yielded ops a.tmps) = true := by simp [Region.wanted, hgd]
  rw [if_pos hw]
  obtain ⟨v', w', hr, h2, h3⟩ := run_app0 (P := P) w base t o.type e size byts he v n xs hown xv m news hcs h1 hb hn hbase
  unfold Oper.wp execOp
  simp only [ho, resolve, invoke, builtin, Sem.run_bind, Sem.run_pure, Result.andThen_ok, List.map_toArray, List.map_cons, List.map_nil, hs, hx, hr]
  exact h v' w' h2 h3
theorem wp_app0 {P : Program} {o : Oper} {a : Act} {K : Act → World → Prop} {Q : Exit → Act → World → Prop} {w : World} (s x : Operand) (t : TypeId)
    (ho : o.op = .call { callee := .builtin .append, args := #[s, x], argTypes := #[t, t] })
    (base e size byts : Nat) (he : El P t e size byts) {v : Value} {n : Nat} {xs : List Value} (hs : a.eval s = v) (hown : Rw w base e size v n xs)
    {xv : Value} {m : Nat} {news : List Value} (hx : a.eval x = xv) (hcs : Cs size w xv m news) (h1 : ∀ u ∈ news, u.oneCell' = true) (hb : (n + m) * byts ≤ 140737488355328) (hn : n + m ≤ 140737488355328) (hbase : base ≤ w.heap.size)
    (h : ∀ v' w', Rw w' base e size v' (n + m) (xs ++ news) → App0 w w' v v' → K (a.put o.dst v') w') :
    Oper.wp P o a w K Q := by
  obtain ⟨v', w', hr, h2, h3⟩ := run_app0 (P := P) w base t o.type e size byts he v n xs hown xv m news hcs h1 hb hn hbase
  unfold Oper.wp execOp
  simp only [ho, resolve, invoke, builtin, Sem.run_bind, Sem.run_pure, Result.andThen_ok, List.map_toArray, List.map_cons, List.map_nil, hs, hx, hr]
  exact h v' w' h2 h3
end Go.Proofs.Ytlcfmocojakhpaa.Sh
