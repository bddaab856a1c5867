/- A region that draws its order, by one relation over what has come up: each operation is walked once, not once an order. -/
import Derived.Deep.RegionHeld3
namespace Go.Proofs.Ytnlmeaijnfjakaa.Sh
set_option linter.unusedSimpArgs false
set_option linter.unusedVariables false
open Go

section
variable {P : Program} {ops : Array Oper} {Q : Exit → Act → World → Prop} {md : Region.Mode}

def yet (n : Nat) (listed : Array Bool) : Nat := ((List.range n).filter (fun i => !listed.getD i true)).length

theorem filter_less {p q : Nat → Bool} {i : Nat} (hp : p i = true) (hq : q i = false) (ho : ∀ j, q j = true → p j = true) :
    ∀ l : List Nat, i ∈ l → (l.filter q).length < (l.filter p).length
  | [], h => by cases h
  | a :: l, h => by
    have hle : ∀ l : List Nat, (l.filter q).length ≤ (l.filter p).length := by
      intro l
      induction l with
      | nil => simp
      | cons a l ih =>
        by_cases ha : q a = true
        · simp [List.filter_cons, ha, ho a ha, ih]
        · by_cases hb : p a = true
          · simp [List.filter_cons, ha, hb]; omega
          · simp [List.filter_cons, ha, hb, ih]
    rcases List.mem_cons.1 h with rfl | h
    · have := hle l
      simp [List.filter_cons, hp, hq]
      omega
    · have := filter_less hp hq ho l h
      by_cases ha : q a = true
      · simp [List.filter_cons, ha, ho a ha]; omega
      · by_cases hb : p a = true
        · simp [List.filter_cons, ha, hb]; omega
        · simp [List.filter_cons, ha, hb]; omega

theorem wpAny_inv (I : Array Bool → Act → World → Prop)
    (step : ∀ listed a w, I listed a w → ∀ i ∈ Region.ready md ops listed, wpOp P ops Q i (I (listed.setIfInBounds i true)) a w)
    (fin : ∀ listed a w, I listed a w → Region.ready md ops listed = [] → Q .normal a w) :
    ∀ (fuel : Nat) (listed : Array Bool) (a : Act) (w : World), yet ops.size listed ≤ fuel → I listed a w → wpAny P md ops Q fuel listed a w
  | 0, listed, a, w, hf, h => by
    have hr : Region.ready md ops listed = [] := by
      cases hr : Region.ready md ops listed with
      | nil => rfl
      | cons i r =>
        exfalso
        have hi : i ∈ Region.ready md ops listed := by rw [hr]; simp
        obtain ⟨h1, o, ho, _⟩ := mem_ready.1 hi
        have hlt : i < ops.size := (Array.getElem?_eq_some_iff.1 ho).1
        have : i ∈ (List.range ops.size).filter (fun i => !listed.getD i true) := by
          rw [List.mem_filter]
          exact ⟨List.mem_range.2 hlt, by simp only [h1]; rfl⟩
        have := List.length_pos_of_mem this
        unfold yet at hf
        omega
    exact ⟨hr, fin _ _ _ h hr⟩
  | fuel + 1, listed, a, w, hf, h => by
    refine ⟨fun hr => fin _ _ _ h hr, fun i hi => ?_⟩
    refine wpOp_mono (fun a' w' h' => ?_) (step listed a w h i hi)
    refine wpAny_inv I step fin fuel _ a' w' ?_ h'
    obtain ⟨h1, o, ho, _⟩ := mem_ready.1 hi
    have hlt : i < ops.size := (Array.getElem?_eq_some_iff.1 ho).1
    have hsz : i < listed.size := by
      rcases Nat.lt_or_ge i listed.size with h | h
      · exact h
      · simp [Array.getD, Nat.not_lt.2 h] at h1
    have := filter_less (p := fun i => !listed.getD i true) (q := fun j => !(listed.setIfInBounds i true).getD j true) (i := i) (by simp only [h1]; rfl)
      (by simp [Array.getD, hsz]) (fun j hj => by
        by_cases hij : i = j
        · subst hij; simp [Array.getD, hsz] at hj
        · simp only [getD_set_ne true hij] at hj; exact hj) (List.range ops.size) (List.mem_range.2 hlt)
    unfold yet at hf ⊢
    omega

/-- The frame with some slots filled anew. -/
def putAll (a : Act) (v : Nat → Value) : List Nat → Act
  | s :: ss => putAll (a.put (some s) (v s)) v ss
  | [] => a
theorem putAll_same (a : Act) : ∀ (ss : List Nat), putAll a (fun s => a.tmps.getD s undef) ss = a
  | [] => rfl
  | s :: ss => by
    have h : a.put (some s) (a.tmps.getD s undef) = a := by
      unfold Act.put
      have : a.tmps.setIfInBounds s (a.tmps.getD s undef) = a.tmps := by
        apply Array.ext_getElem?
        intro j
        rw [Array.getElem?_setIfInBounds]
        by_cases hsj : s = j
        · rw [if_pos hsj, ← hsj]
          by_cases hj : s < a.tmps.size
          · simp [hj, Array.getD]
          · simp [hj]
        · rw [if_neg hsj]
      simp only [this]
    show putAll (a.put (some s) (a.tmps.getD s undef)) (fun s => a.tmps.getD s undef) ss = a
    rw [h]
    exact putAll_same a ss
def upv (v : Nat → Value) (s : Nat) (x : Value) : Nat → Value := fun t => bif t == s then x else v t
theorem upv_at (v : Nat → Value) (s : Nat) (x : Value) (t : Nat) : upv v s x t = bif t == s then x else v t := rfl

/-- Of each operation, as bits, those that stand ahead of it by one edge or by many. -/
def masks : List Oper → Array Nat → Array Nat
  | [], acc => acc
  | o :: os, acc => masks os (acc.push (o.after.toList.foldl (fun s e => if Region.binds .any e then s ||| 2 ^ e.on ||| acc.getD e.on 0 else s) 0))
def needs (ops : Array Oper) (i j : Nat) : Bool := ((masks ops.toList #[]).getD i 0).testBit j && !Nat.beq j i

theorem masks_sound {b : Nat → Bool} : ∀ (l : List Oper) (acc : Array Nat),
    (∀ j o, l[j]? = some o → b (acc.size + j) = true → ∀ e ∈ o.after, Region.binds .any e = true → b e.on = true) →
    (∀ i j, (acc.getD i 0).testBit j = true → b i = true → b j = true) →
    ∀ i j, ((masks l acc).getD i 0).testBit j = true → b i = true → b j = true
  | [], acc, _, h, i, j, ht, hb => h i j ht hb
  | o :: os, acc, hl, h, i, j, ht, hb => by
    refine masks_sound os _ (fun k x hx hk => ?_) (fun i j ht hb => ?_) i j ht hb
    · refine hl (k + 1) x (by simpa using hx) ?_
      rw [Array.size_push] at hk
      rwa [show acc.size + 1 + k = acc.size + (k + 1) by omega] at hk
    · by_cases hi : i = acc.size
      · subst hi
        have gen : ∀ (es : List Edge) (s : Nat), (∀ e ∈ es, Region.binds .any e = true → b e.on = true) → (s.testBit j = true → b j = true) →
            (es.foldl (fun s e => if Region.binds .any e then s ||| 2 ^ e.on ||| acc.getD e.on 0 else s) s).testBit j = true → b j = true := by
          intro es
          induction es with
          | nil => intro s _ hs hf; exact hs hf
          | cons e es ih =>
            intro s he hs hf
            refine ih _ (fun e' h' => he e' (List.mem_cons_of_mem _ h')) ?_ hf
            intro ht
            by_cases hbd : Region.binds .any e = true
            · simp only [hbd, if_true] at ht
              have hon := he e (List.mem_cons_self ..) hbd
              rw [Nat.testBit_or, Nat.testBit_or, Bool.or_eq_true, Bool.or_eq_true] at ht
              rcases ht with (ht | ht) | ht
              · exact hs ht
              · rw [Nat.testBit_two_pow] at ht
                have : e.on = j := by simpa using ht
                rw [← this]; exact hon
              · exact h e.on j ht hon
            · simp only [hbd] at ht
              exact hs ht
        refine gen o.after.toList 0 (fun e he hbd => ?_) (by simp) ?_
        · exact hl 0 o (by simp) (by simpa using hb) e (Array.mem_toList_iff.1 he) hbd
        · simpa [Array.getD] using ht
      · refine h i j ?_ hb
        have : (acc.push (o.after.toList.foldl (fun s e => if Region.binds .any e then s ||| 2 ^ e.on ||| acc.getD e.on 0 else s) 0)).getD i 0 = acc.getD i 0 := by
          rw [Array.getD_eq_getD_getElem?, Array.getD_eq_getD_getElem?, Array.getElem?_push, if_neg hi]
        rwa [this] at ht

def upb (b : Nat → Bool) (i : Nat) : Nat → Bool := fun j => cond (Nat.beq j i) true (b j)
theorem upb_same (b : Nat → Bool) (i : Nat) : upb b i i = true := by unfold upb; rw [show Nat.beq i i = true by simp]; rfl
theorem upb_ne (b : Nat → Bool) {i j : Nat} (h : j ≠ i) : upb b i j = b j := by
  unfold upb
  rw [show Nat.beq j i = false by rw [Bool.eq_false_iff]; intro h'; exact h (Nat.eq_of_beq_eq_true h')]
  rfl

theorem no_up {b : Bool} {p : Prop} (h : b = true) (k : b = false) : p := by rw [h] at k; cases k
/-- What waits for one that has not come up has not come up. -/
theorem not_up {ops : Array Oper} {b : Nat → Bool} (hcl : ∀ i j, needs ops i j = true → b i = true → b j = true) (i j : Nat) (hn : needs ops i j = true) (hb : b j = false) : b i = false := by
  cases h : b i
  · rfl
  · exact no_up (hcl i j hn h) hb

/-- What one operation owes. b: which have come up; all that one of them waited for has. -/
def StepAt {γ : Type} (P : Program) (ops : Array Oper) (Q : Exit → Act → World → Prop) (A : Act) (slots : List Nat) (R : (Nat → Bool) → (Nat → Value) → γ → World → Prop) (i : Nat) (o : Oper) : Prop :=
  ∀ (b : Nat → Bool) (v : Nat → Value) (g : γ) (w : World), R b v g w → b i = false → (∀ j, needs ops i j = true → b j = true) → (∀ i j, needs ops i j = true → b i = true → b j = true) →
    ∀ K : Act → World → Prop, Shut (∀ a' w', (∃ v' g', a' = putAll A v' slots ∧ R (upb b i) v' g' w') → K a' w') →
      if Region.wanted o (yielded ops (putAll A v slots).tmps) = true then Oper.wp P o (putAll A v slots) w K Q else K ((putAll A v slots).put o.dst undef) w

def StepsFrom {γ : Type} (P : Program) (ops : Array Oper) (Q : Exit → Act → World → Prop) (A : Act) (slots : List Nat) (R : (Nat → Bool) → (Nat → Value) → γ → World → Prop) : Nat → List Oper → Prop
  | _, [] => True
  | i, o :: os => StepAt P ops Q A slots R i o ∧ StepsFrom P ops Q A slots R (i + 1) os
section
variable {γ : Type} {A : Act} {slots : List Nat} {R : (Nat → Bool) → (Nat → Value) → γ → World → Prop}
theorem StepsFrom.nil {i : Nat} : StepsFrom P ops Q A slots R i [] := trivial
theorem StepsFrom.cons {i j : Nat} {o : Oper} {os : List Oper} (hj : i + 1 = j) (h : StepAt P ops Q A slots R i o) (hs : StepsFrom P ops Q A slots R j os) : StepsFrom P ops Q A slots R i (o :: os) := by
  subst hj; exact ⟨h, hs⟩
theorem StepsFrom.at : ∀ {k : Nat} {l : List Oper}, StepsFrom P ops Q A slots R k l → ∀ (j : Nat) (o : Oper), l[j]? = some o → StepAt P ops Q A slots R (k + j) o
  | _, [], _, j, o, h => by simp at h
  | k, x :: l, ⟨h1, h2⟩, 0, o, h => by
    simp at h; subst h; exact h1
  | k, x :: l, ⟨h1, h2⟩, j + 1, o, h => by
    have := StepsFrom.at h2 j o (by simpa using h)
    rwa [show k + 1 + j = k + (j + 1) by omega] at this
end

/-- All that an operation waits for stands ahead of it. -/
def lowB (ops : Array Oper) : Bool := (List.range ops.size).all fun i => match ops[i]? with
  | some o => o.after.all fun e => !Region.binds .any e || decide (e.on < i)
  | none => true

theorem all_up (hlow : lowB ops = true) (listed : Array Bool) (hs : listed.size = ops.size) (hr : Region.ready .any ops listed = []) : ∀ i, i < ops.size → listed.getD i false = true := by
  intro i
  induction i using Nat.strongRecOn with
  | ind i ih =>
    intro hi
    rcases hb : listed.getD i false with _ | _
    · exfalso
      have hm : i ∈ Region.ready .any ops listed := by
        rw [mem_ready]
        have hil : i < listed.size := by omega
        refine ⟨by simpa [Array.getD, hil] using hb, ops[i], by simp [hi], fun e he hbd => ?_⟩
        have h1 := List.all_eq_true.1 hlow i (List.mem_range.2 hi)
        simp only [Array.getElem?_eq_getElem hi] at h1
        have h2 := Array.all_eq_true_iff_forall_mem.1 h1 e he
        simp only [hbd, Bool.not_true, Bool.false_or, decide_eq_true_eq] at h2
        exact ih e.on h2 (by omega)
      rw [hr] at hm
      cases hm
    · rfl

theorem wp_region_inv {γ : Type} {id : Nat} {A : Act} {w : World} (slots : List Nat) (R : (Nat → Bool) → (Nat → Value) → γ → World → Prop) (hm : P.follows .mixedOrders = true) (hlow : lowB ops = true)
    (g : γ) (start : R (fun _ => false) (fun s => A.tmps.getD s undef) g w.drew)
    (fin : ∀ (b : Nat → Bool) (v : Nat → Value) (g : γ) (w : World), R b v g w → (∀ i, decide (i < ops.size) = true → b i = true) → Q .normal (putAll A v slots) w)
    (steps : StepsFrom P ops Q A slots R 0 ops.toList) :
    (Code.region id ops true).wp P Q A w := by
  refine wp_region_any hm ?_
  refine wpAny_inv (fun listed a w => listed.size = ops.size ∧ (∀ i o, ops[i]? = some o → listed.getD i false = true → ∀ e ∈ o.after, Region.binds .any e = true → listed.getD e.on false = true) ∧ ∃ v g, a = putAll A v slots ∧ R (fun i => listed.getD i false) v g w) ?_ ?_ ops.size _ A _ ?_ ⟨by simp, ?_, _, g, (putAll_same A slots).symm, ?_⟩
  · rintro listed a w ⟨hs, hc, v, g, rfl, h⟩ i hi
    obtain ⟨h1, o, ho, h2⟩ := mem_ready.1 hi
    have hlt : i < listed.size := by rw [hs]; exact (Array.getElem?_eq_some_iff.1 ho).1
    have h1' : listed.getD i false = false := by simpa [Array.getD, hlt] using h1
    refine wpOp_step ho (fun K hK => ?_)
    have hst := steps.at i o (by simpa using ho)
    rw [Nat.zero_add] at hst
    have hcl : ∀ i j, needs ops i j = true → listed.getD i false = true → listed.getD j false = true := by
      intro i j hn hi
      have hn := (Bool.and_eq_true _ _ ▸ hn).1
      refine masks_sound (b := fun i => listed.getD i false) ops.toList #[] (fun j o ho hb => ?_) (by simp [Array.getD]) i j hn hi
      exact hc j o (by simpa using ho) (by simpa using hb)
    have hcu : ∀ k o, ops[k]? = some o → upb (fun i => listed.getD i false) i k = true → ∀ e ∈ o.after, Region.binds .any e = true → upb (fun i => listed.getD i false) i e.on = true := by
      intro k o' ho' hb e he hbd
      have up : ∀ j, listed.getD j false = true → upb (fun i => listed.getD i false) i j = true := by
        intro j hj
        unfold upb
        cases Nat.beq j i
        · exact hj
        · rfl
      by_cases hk : k = i
      · subst hk
        rw [ho] at ho'
        obtain rfl := Option.some.inj ho'
        exact up _ (h2 e he hbd)
      · rw [upb_ne _ hk] at hb
        exact up _ (hc k o' ho' hb e he hbd)
    have hdep : ∀ j, needs ops i j = true → listed.getD j false = true := by
      intro j hn
      obtain ⟨hn, hne⟩ := Bool.and_eq_true _ _ ▸ hn
      have := masks_sound (b := upb (fun i => listed.getD i false) i) ops.toList #[] (fun j o ho hb => hcu j o (by simpa using ho) (by simpa using hb)) (by simp [Array.getD]) i j hn (upb_same _ _)
      rwa [upb_ne _ (fun e => by subst e; simp at hne)] at this
    have hset : (fun j => (listed.setIfInBounds i true).getD j false) = upb (fun i => listed.getD i false) i := by
      funext j
      by_cases hj : j = i
      · subst hj; rw [upb_same]; simp [Array.getD, hlt]
      · rw [upb_ne _ hj, getD_set_ne false (Ne.symm hj)]
    refine hst _ v g w h h1' hdep hcl K (fun a' w' ⟨v', g', h3, h4⟩ => hK _ _ ⟨by simpa using hs, ?_, v', g', h3, ?_⟩)
    · intro k o' ho' hb e he hbd
      have g1 := hcu k o' ho' ((congrFun hset k).symm.trans hb) e he hbd
      exact (congrFun hset e.on).trans g1
    · rw [hset]; exact h4
  · rintro listed a w ⟨hs, hc, v, g, rfl, h⟩ hr
    exact fin _ v g w h (fun i hi => all_up hlow listed hs hr i (by simpa using hi))
  · unfold yet
    exact Nat.le_trans (List.length_filter_le _ _) (by simp)
  · intro i o ho hb
    exfalso
    by_cases hj : i < ops.size <;> simp [Array.getD, hj] at hb
  · refine (congrArg (fun b => R b _ g w.drew) (funext fun j => ?_)).mp start
    by_cases hj : j < ops.size <;> simp [Array.getD, hj]
end
end Go.Proofs.Ytnlmeaijnfjakaa.Sh
