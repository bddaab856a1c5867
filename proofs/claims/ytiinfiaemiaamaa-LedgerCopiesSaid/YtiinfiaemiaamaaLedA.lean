/- The ledger, plain: who has how much, what is held back; each call. -/
import Derived.Test.YtiinfiaemiaamaaBase
namespace Go.Proofs.Ytiinfiaemiaamaa.Sh
open Go Go.RowKit

/-- How many there are; of each one the balance, the nonce, fees and deposits that are held back; the treasury. -/
structure Lm where
  k : Nat
  b : Nat → Nat
  n : Nat → Nat
  f : Nat → Nat
  d : Nat → Nat
  t : Nat

def upd (g : Nat → Nat) (a x : Nat) : Nat → Nat := fun i => if i = a then x else g i
def sumTo : Nat → (Nat → Nat) → Nat
  | 0, _ => 0
  | k + 1, g => sumTo k g + g k

theorem upd_same (g : Nat → Nat) (a x : Nat) : upd g a x a = x := by simp [upd]
theorem upd_other (g : Nat → Nat) {a i : Nat} (x : Nat) (h : i ≠ a) : upd g a x i = g i := by simp [upd, h]
theorem sumTo_congr {g h : Nat → Nat} : ∀ {k : Nat}, (∀ i, i < k → g i = h i) → sumTo k g = sumTo k h
  | 0, _ => rfl
  | k + 1, e => by rw [sumTo, sumTo, sumTo_congr (fun i hi => e i (by omega)), e k (by omega)]
theorem sumTo_upd (g : Nat → Nat) (a x : Nat) : ∀ {k : Nat}, a < k → sumTo k (upd g a x) + g a = sumTo k g + x
  | 0, h => by omega
  | k + 1, h => by
    by_cases ha : a = k
    · subst ha
      rw [sumTo, sumTo, upd_same, sumTo_congr (h := g) (fun i hi => upd_other g x (by omega))]
      omega
    · have := sumTo_upd g a x (k := k) (by omega)
      rw [sumTo, sumTo, upd_other g x (show k ≠ a by omega)]
      omega
theorem sumTo_le (g : Nat → Nat) {a : Nat} : ∀ {k : Nat}, a < k → g a ≤ sumTo k g
  | 0, h => by omega
  | k + 1, h => by
    rw [sumTo]
    by_cases ha : a = k
    · subst ha; omega
    · have := sumTo_le g (a := a) (k := k) (by omega); omega
theorem sumTo_zero (k : Nat) : sumTo k (fun _ => 0) = 0 := by
  induction k with
  | zero => rfl
  | succ k ih => simp [sumTo, ih]

/-- What always holds: the total, how deposits are made. -/
structure LInv (T : Nat) (m : Lm) : Prop where
  few : 1 ≤ m.k ∧ m.k ≤ 6
  sum : sumTo m.k m.b + sumTo m.k m.f + sumTo m.k m.d + m.t = T
  cap : T ≤ 1152921504606846976
  dep : ∀ i, i < m.k → ∃ c, m.d i = 50 * c
  non : ∀ i, m.n i < 18446744073709551616

theorem LInv.bounds {T : Nat} {m : Lm} (h : LInv T m) (i : Nat) (hi : i < m.k) : m.b i ≤ T ∧ m.f i ≤ T ∧ m.d i ≤ T ∧ m.b i + m.f i + m.d i + m.t ≤ T := by
  have h1 := sumTo_le m.b hi
  have h2 := sumTo_le m.f hi
  have h3 := sumTo_le m.d hi
  have := h.sum
  omega

/-- Is there one? -/
def Lm.is (m : Lm) (who : Int) : Prop := 0 ≤ who ∧ who < m.k
instance (m : Lm) (who : Int) : Decidable (m.is who) := inferInstanceAs (Decidable (_ ∧ _))

def Lm.hold (m : Lm) (a fee : Nat) : Lm := { m with b := upd m.b a (m.b a - fee - 50), f := upd m.f a (m.f a + fee), d := upd m.d a (m.d a + 50) }
/-- What was held back goes: the fee, the deposit (true: to who; else to the treasury). -/
def Lm.back (m : Lm) (a fee : Nat) (x y : Bool) : Lm :=
  { m with b := upd m.b a (m.b a + (if x then fee else 0) + (if y then 50 else 0)), f := upd m.f a (m.f a - fee), d := upd m.d a (m.d a - 50), t := m.t + (if x then 0 else fee) + (if y then 0 else 50) }
def Lm.move (m : Lm) (a c x : Nat) : Lm := { m with b := upd (upd m.b a (m.b a - x)) c (upd m.b a (m.b a - x) c + x) }
def Lm.turn (m : Lm) (a : Nat) : Lm := { m with n := upd m.n a (m.n a + 1) }

/-- A call: 1 hold, 2 free, 3 pay, 4 slash, 5 move, 6 turn. -/
structure LOp where
  kind : Int
  who : Int
  to : Int
  n : Nat
def i64b (z : Int) : Prop := -9223372036854775808 ≤ z ∧ z ≤ 9223372036854775807
def LOp.ok (o : LOp) : Prop := i64b o.kind ∧ i64b o.who ∧ i64b o.to ∧ o.n < 18446744073709551616

def holdE (m : Lm) (who : Int) (fee : Nat) : Nat × Lm :=
  if m.is who then (if m.b who.toNat < 50 ∨ m.b who.toNat - 50 < fee then (9, m) else (0, m.hold who.toNat fee)) else (1, m)
def backE (m : Lm) (who : Int) (fee : Nat) (x y : Bool) : Nat × Lm :=
  if m.is who then (if m.f who.toNat < fee ∨ m.d who.toNat = 0 then (9, m) else (0, m.back who.toNat fee x y)) else (1, m)
def moveE (m : Lm) (a c : Int) (x : Nat) : Nat × Lm :=
  if m.is a ∧ m.is c then (if m.b a.toNat < x then (9, m) else (0, m.move a.toNat c.toNat x)) else (1, m)
def turnE (m : Lm) (who : Int) (nonce : Nat) : Nat × Lm :=
  if m.is who then (if m.n who.toNat ≠ nonce then (11, m) else if nonce = 18446744073709551615 then (10, m) else (0, m.turn who.toNat)) else (1, m)
def doE (m : Lm) (o : LOp) : Nat × Lm :=
  if o.kind = 1 then holdE m o.who o.n
  else if o.kind = 2 then backE m o.who o.n true true
  else if o.kind = 3 then backE m o.who o.n false true
  else if o.kind = 4 then backE m o.who o.n false false
  else if o.kind = 5 then moveE m o.who o.to o.n
  else if o.kind = 6 then turnE m o.who o.n
  else (0, m)

theorem hold_inv {T : Nat} {m : Lm} (h : LInv T m) {a fee : Nat} (ha : a < m.k) (hb : 50 ≤ m.b a) (hf : fee ≤ m.b a - 50) : LInv T (m.hold a fee) := by
  have h1 := sumTo_upd m.b a (m.b a - fee - 50) ha
  have h2 := sumTo_upd m.f a (m.f a + fee) ha
  have h3 := sumTo_upd m.d a (m.d a + 50) ha
  have hs := h.sum
  refine ⟨h.few, ?_, h.cap, ?_, h.non⟩
  · simp only [Lm.hold]; omega
  · intro i hi
    obtain ⟨c, hc⟩ := h.dep i hi
    simp only [Lm.hold]
    by_cases e : i = a
    · subst e; exact ⟨c + 1, by rw [upd_same]; omega⟩
    · exact ⟨c, by rw [upd_other _ _ e]; exact hc⟩
theorem back_inv {T : Nat} {m : Lm} (h : LInv T m) {a fee : Nat} (ha : a < m.k) (hf : fee ≤ m.f a) (hd : m.d a ≠ 0) (x y : Bool) : LInv T (m.back a fee x y) := by
  have hb := h.bounds a ha
  obtain ⟨c, hc⟩ := h.dep a ha
  have h1 := sumTo_upd m.b a (m.b a + (if x then fee else 0) + (if y then 50 else 0)) ha
  have h2 := sumTo_upd m.f a (m.f a - fee) ha
  have h3 := sumTo_upd m.d a (m.d a - 50) ha
  have hs := h.sum
  refine ⟨h.few, ?_, h.cap, ?_, h.non⟩
  · simp only [Lm.back]
    cases x <;> cases y <;> simp at h1 ⊢ <;> omega
  · intro i hi
    obtain ⟨c', hc'⟩ := h.dep i hi
    simp only [Lm.back]
    by_cases e : i = a
    · subst e; exact ⟨c - 1, by rw [upd_same]; omega⟩
    · exact ⟨c', by rw [upd_other _ _ e]; exact hc'⟩
theorem move_inv {T : Nat} {m : Lm} (h : LInv T m) {a c x : Nat} (ha : a < m.k) (hc : c < m.k) (hx : x ≤ m.b a) : LInv T (m.move a c x) := by
  have h1 := sumTo_upd m.b a (m.b a - x) ha
  have h2 := sumTo_upd (upd m.b a (m.b a - x)) c (upd m.b a (m.b a - x) c + x) hc
  have hs := h.sum
  refine ⟨h.few, ?_, h.cap, h.dep, h.non⟩
  simp only [Lm.move]
  omega
theorem turn_inv {T : Nat} {m : Lm} (h : LInv T m) {a : Nat} (hn : m.n a ≠ 18446744073709551615) : LInv T (m.turn a) := by
  refine ⟨h.few, h.sum, h.cap, h.dep, ?_⟩
  intro i
  simp only [Lm.turn]
  by_cases e : i = a
  · subst e; have := h.non i; rw [upd_same]; omega
  · rw [upd_other _ _ e]; exact h.non i

theorem is_nat {m : Lm} {who : Int} (h : m.is who) : who.toNat < m.k ∧ (who.toNat : Int) = who := by
  obtain ⟨h1, h2⟩ := h
  omega

theorem holdE_inv {T : Nat} {m : Lm} (h : LInv T m) (who : Int) (fee : Nat) : LInv T (holdE m who fee).2 := by
  unfold holdE
  split
  · rename_i hi
    split
    · exact h
    · exact hold_inv h (is_nat hi).1 (by omega) (by omega)
  · exact h
theorem backE_inv {T : Nat} {m : Lm} (h : LInv T m) (who : Int) (fee : Nat) (x y : Bool) : LInv T (backE m who fee x y).2 := by
  unfold backE
  split
  · rename_i hi
    split
    · exact h
    · exact back_inv h (is_nat hi).1 (by omega) (by omega) x y
  · exact h
theorem moveE_inv {T : Nat} {m : Lm} (h : LInv T m) (a c : Int) (x : Nat) : LInv T (moveE m a c x).2 := by
  unfold moveE
  split
  · rename_i hi
    split
    · exact h
    · exact move_inv h (is_nat hi.1).1 (is_nat hi.2).1 (by omega)
  · exact h
theorem turnE_inv {T : Nat} {m : Lm} (h : LInv T m) (who : Int) (nonce : Nat) : LInv T (turnE m who nonce).2 := by
  unfold turnE
  split
  · split
    · exact h
    · split
      · exact h
      · exact turn_inv h (by omega)
  · exact h
theorem doE_inv {T : Nat} {m : Lm} (h : LInv T m) (o : LOp) : LInv T (doE m o).2 := by
  unfold doE
  repeat' split
  · exact holdE_inv h _ _
  · exact backE_inv h _ _ _ _
  · exact backE_inv h _ _ _ _
  · exact backE_inv h _ _ _ _
  · exact moveE_inv h _ _ _
  · exact turnE_inv h _ _
  · exact h
theorem doE_k (m : Lm) (o : LOp) : (doE m o).2.k = m.k := by
  unfold doE holdE backE moveE turnE
  repeat' split
  all_goals rfl

/-! what is held back, as a list -/
/-- What is held back for one, in a list of who, fees, deposits. -/
def look : List (Nat × Nat × Nat) → Nat → Nat × Nat
  | [], _ => (0, 0)
  | h :: r, i => if i = h.1 then h.2 else look r i

structure HRel (H : List (Nat × Nat × Nat)) (k : Nat) (f d : Nat → Nat) : Prop where
  nodup : (H.map (·.1)).Nodup
  lt : ∀ h ∈ H, h.1 < k
  eq : ∀ i, i < k → look H i = (f i, d i)

theorem look_none {H : List (Nat × Nat × Nat)} {i : Nat} (h : i ∉ H.map (·.1)) : look H i = (0, 0) := by
  induction H with
  | nil => rfl
  | cons x r ih =>
    simp only [List.map_cons, List.mem_cons, not_or] at h
    rw [look, if_neg h.1]
    exact ih h.2
theorem look_at {H : List (Nat × Nat × Nat)} (hn : (H.map (·.1)).Nodup) {j : Nat} {h : Nat × Nat × Nat} (hj : H[j]? = some h) : look H h.1 = h.2 := by
  induction H generalizing j with
  | nil => simp at hj
  | cons x r ih =>
    simp only [List.map_cons, List.nodup_cons] at hn
    cases j with
    | zero =>
      simp only [List.getElem?_cons_zero, Option.some.injEq] at hj
      subst hj
      simp [look]
    | succ j =>
      simp only [List.getElem?_cons_succ] at hj
      have hm : h.1 ∈ r.map (·.1) := List.mem_map.2 ⟨h, List.mem_of_getElem? hj, rfl⟩
      rw [look, if_neg (by intro e; exact hn.1 (e ▸ hm))]
      exact ih hn.2 hj
theorem sum_look {k : Nat} : ∀ (H : List (Nat × Nat × Nat)), (H.map (·.1)).Nodup → (∀ h ∈ H, h.1 < k) → sumTo k (fun i => (look H i).1) = (H.map (·.2.1)).sum ∧ sumTo k (fun i => (look H i).2) = (H.map (·.2.2)).sum
  | [], _, _ => by simp [look, sumTo_zero]
  | x :: r, hn, hl => by
    simp only [List.map_cons, List.nodup_cons] at hn
    obtain ⟨h1, h2⟩ := sum_look (k := k) r hn.2 (fun h hh => hl h (by simp [hh]))
    have hx := hl x (by simp)
    have e1 : (fun i => (look (x :: r) i).1) = upd (fun i => (look r i).1) x.1 x.2.1 := by
      funext i
      by_cases h : i = x.1 <;> simp [look, upd, h]
    have e2 : (fun i => (look (x :: r) i).2) = upd (fun i => (look r i).2) x.1 x.2.2 := by
      funext i
      by_cases h : i = x.1 <;> simp [look, upd, h]
    have u1 := sumTo_upd (fun i => (look r i).1) x.1 x.2.1 hx
    have u2 := sumTo_upd (fun i => (look r i).2) x.1 x.2.2 hx
    have z := look_none hn.1
    rw [e1, e2]
    simp only [z, List.map_cons, List.sum_cons] at u1 u2 ⊢
    omega
theorem HRel.sum {H : List (Nat × Nat × Nat)} {k : Nat} {f d : Nat → Nat} (h : HRel H k f d) : (H.map (·.2.1)).sum = sumTo k f ∧ (H.map (·.2.2)).sum = sumTo k d := by
  obtain ⟨h1, h2⟩ := sum_look (k := k) H h.nodup h.lt
  rw [← h1, ← h2]
  exact ⟨sumTo_congr (fun i hi => by rw [h.eq i hi]), sumTo_congr (fun i hi => by rw [h.eq i hi])⟩

theorem HRel.none {H : List (Nat × Nat × Nat)} {k : Nat} {f d : Nat → Nat} (h : HRel H k f d) {a : Nat} (ha : a < k) (hn : a ∉ H.map (·.1)) : f a = 0 ∧ d a = 0 := by
  have := h.eq a ha
  rw [look_none hn] at this
  simp only [Prod.mk.injEq] at this
  omega
theorem HRel.some {H : List (Nat × Nat × Nat)} {k : Nat} {f d : Nat → Nat} (h : HRel H k f d) {a : Nat} (ha : a ∈ H.map (·.1)) : ∃ j : Nat, H[j]? = .some (a, f a, d a) := by
  obtain ⟨x, hx, rfl⟩ := List.mem_map.1 ha
  obtain ⟨j, hj⟩ := List.mem_iff_getElem?.1 hx
  have h1 := look_at h.nodup hj
  rw [h.eq _ (h.lt x hx)] at h1
  exact ⟨j, by rw [hj]; congr 1; exact Prod.ext rfl h1.symm⟩
theorem HRel.new {H : List (Nat × Nat × Nat)} {k : Nat} {f d : Nat → Nat} (h : HRel H k f d) {a : Nat} (ha : a < k) (hn : a ∉ H.map (·.1)) (x y : Nat) : HRel (H ++ [(a, x, y)]) k (upd f a x) (upd d a y) := by
  refine ⟨?_, ?_, ?_⟩
  · rw [List.map_append, List.nodup_append]
    refine ⟨h.nodup, by simp, ?_⟩
    intro i hi j hj
    simp at hj
    subst hj
    exact fun e => hn (e ▸ hi)
  · intro z hz
    simp at hz
    rcases hz with hz | rfl
    · exact h.lt z hz
    · exact ha
  · intro i hi
    have gen : ∀ (H : List (Nat × Nat × Nat)), a ∉ H.map (·.1) → look (H ++ [(a, x, y)]) i = if i = a then (x, y) else look H i := by
      intro H
      induction H with
      | nil => intro _; simp [look]
      | cons z r ih =>
        intro hz
        simp only [List.map_cons, List.mem_cons, not_or] at hz
        rw [List.cons_append, look, look, ih hz.2]
        by_cases e : i = z.1
        · rw [if_pos e, if_pos e, if_neg (by omega)]
        · rw [if_neg e, if_neg e]
    rw [gen H hn, h.eq i hi]
    by_cases e : i = a
    · subst e; simp [upd]
    · simp [upd, e]
theorem HRel.old {H : List (Nat × Nat × Nat)} {k : Nat} {f d : Nat → Nat} (h : HRel H k f d) {a j : Nat} {v : Nat × Nat} (hj : H[j]? = .some (a, v)) (x y : Nat) : HRel (H.set j (a, x, y)) k (upd f a x) (upd d a y) := by
  have hm : (H.set j (a, x, y)).map (·.1) = H.map (·.1) := by
    rw [List.map_set]
    apply List.ext_getElem?
    intro i
    rw [List.getElem?_set]
    by_cases e : j = i
    · subst e
      simp [hj, (List.getElem?_eq_some_iff.1 hj).1]
      rw [(List.getElem?_eq_some_iff.1 hj).2]
    · simp [e]
  refine ⟨by rw [hm]; exact h.nodup, ?_, ?_⟩
  · intro z hz
    rcases List.mem_or_eq_of_mem_set hz with hz | rfl
    · exact h.lt z hz
    · exact h.lt (a, v) (List.mem_of_getElem? hj)
  · intro i hi
    have gen : ∀ (H : List (Nat × Nat × Nat)) (j : Nat), (H.map (·.1)).Nodup → H[j]? = .some (a, v) → look (H.set j (a, x, y)) i = if i = a then (x, y) else look H i := by
      intro H
      induction H with
      | nil => intro j _ hj; simp at hj
      | cons z r ih =>
        intro j hn hj
        simp only [List.map_cons, List.nodup_cons] at hn
        cases j with
        | zero =>
          simp only [List.getElem?_cons_zero, Option.some.injEq] at hj
          subst hj
          simp only [List.set_cons_zero, look]
          by_cases e : i = a <;> simp [e]
        | succ j =>
          simp only [List.getElem?_cons_succ] at hj
          have hm : a ∈ r.map (·.1) := List.mem_map.2 ⟨_, List.mem_of_getElem? hj, rfl⟩
          rw [List.set_cons_succ, look, look, ih j hn.2 hj]
          by_cases e : i = z.1
          · rw [if_pos e, if_pos e, if_neg (by intro e2; exact hn.1 (by rw [← e, e2]; exact hm))]
          · rw [if_neg e, if_neg e]
    rw [gen H j h.nodup hj, h.eq i hi]
    by_cases e : i = a
    · subst e; simp [upd]
    · simp [upd, e]
end Go.Proofs.Ytiinfiaemiaamaa.Sh
