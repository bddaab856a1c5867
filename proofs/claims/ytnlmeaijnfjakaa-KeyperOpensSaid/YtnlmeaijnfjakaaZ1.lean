/- Texts of this proof, merged: KpA, KpB, KpC, KpD, KpE, KpF, KpG, KpH. -/
import Derived.Test.YtnlmeaijnfjakaaDigC
import Derived.Test.YtnlmeaijnfjakaaPlNum
import Derived.Test.YtnlmeaijnfjakaaCodecN
import Derived.Test.YtnlmeaijnfjakaaDigD
import Derived.Test.YtnlmeaijnfjakaaLists
import Derived.Test.YtnlmeaijnfjakaaMapA
import Derived.Test.YtnlmeaijnfjakaaJouC
import Derived.Test.YtnlmeaijnfjakaaBytes
import Derived.Test.YtnlmeaijnfjakaaJouG
import Derived.WalkSpells
import Derived.Deep.RegionHeld3
import Derived.Deep.DrawnRows
import Derived.DeepKeys4
import Derived.Laws.BytesArg
import Derived.Lib.Strings
import Derived.StillTailTactics
/- The keyper, plain: what it has; each call; its records, written and done once more. -/
namespace Go.Proofs.Ytnlmeaijnfjakaa.Sh
set_option linter.unusedSimpArgs false
set_option linter.unusedVariables false
open Go Go.RowKit

/-- The shares, as they came; the slot of the order that was told last, its names. -/
structure Km where
  sh : List (List UInt8 × List UInt8)
  slot : Nat
  ids : List (List UInt8)
  told : Bool
def km0 : Km := ⟨[], 0, [], false⟩
def getS (sh : List (List UInt8 × List UInt8)) (id : List UInt8) : Option (List UInt8) := (sh.find? (fun p => p.1 == id)).map (·.2)
def dropS (sh : List (List UInt8 × List UInt8)) (id : List UInt8) : List (List UInt8 × List UInt8) := sh.filter (fun p => p.1 != id)
def keepK (m : Km) (id s : List UInt8) : Nat × Km :=
  if s.length < 1 ∨ 32 < s.length then (1, m)
  else match getS m.sh id with
    | some t => if t = s then (8, m) else (16, m)
    | none => if 32 ≤ m.sh.length then (6, m) else (0, { m with sh := m.sh ++ [(id, s)] })
def commitK (m : Km) (slot : Nat) (ids : List (List UInt8)) : (Bool × Nat) × Km :=
  if 8 < ids.length ∨ ¬ ids.Nodup then ((false, 1), m)
  else if m.told = true ∧ slot < m.slot then ((false, 13), m)
  else if m.told = true ∧ slot = m.slot then (if ids = m.ids then ((false, 0), m) else ((false, 16), m))
  else ((true, 0), { m with slot := slot, ids := ids, told := true })
def forgetS (sh : List (List UInt8 × List UInt8)) (ids : List (List UInt8)) : List (List UInt8 × List UInt8) := ids.foldl dropS sh
def forgetK (m : Km) (ids : List (List UInt8)) : Nat × Km := (m.sh.length - (forgetS m.sh ids).length, { m with sh := forgetS m.sh ids })

/-! names, read -/
def digsL : Nat → List UInt8 → Nat × List (List UInt8) × List UInt8
  | 0, l => (0, [], l)
  | k + 1, l => if (digL l).1 = 0 then ((digsL k (digL l).2.2).1, (digL l).2.1 :: (digsL k (digL l).2.2).2.1, (digsL k (digL l).2.2).2.2) else ((digL l).1, [], (digL l).2.2)
def listL (most : Nat) (l : List UInt8) : Nat × List (List UInt8) × List UInt8 :=
  if (numL most l).1 = 0 then digsL (numL most l).2.1 (numL most l).2.2 else ((numL most l).1, [], (numL most l).2.2)

/-! records -/
def namesB (ids : List (List UInt8)) : List UInt8 := numB ids.length ++ ids.flatten
def rec1 (id s : List UInt8) : List UInt8 := 1 :: (id ++ textB s)
def rec2 (slot : Nat) (ids : List (List UInt8)) : List UInt8 := 2 :: (numB slot ++ namesB ids)
def rec3 (ids : List (List UInt8)) : List UInt8 := 3 :: namesB ids

/-- What a record's first byte, and the rest, tell. -/
def redoB (m : Km) (c : UInt8) (r : List UInt8) : Km :=
  if c = 1 then
    (if (digL r).1 = 0 ∧ (textL 32 (digL r).2.2).1 = 0 ∧ (textL 32 (digL r).2.2).2.2 = [] then (keepK m (digL r).2.1 (textL 32 (digL r).2.2).2.1).2 else m)
  else if c = 2 then
    (if (numL 18446744073709551615 r).1 = 0 ∧ (listL 8 (numL 18446744073709551615 r).2.2).1 = 0 ∧ (listL 8 (numL 18446744073709551615 r).2.2).2.2 = [] then (commitK m (numL 18446744073709551615 r).2.1 (listL 8 (numL 18446744073709551615 r).2.2).2.1).2 else m)
  else if c = 3 then
    (if (listL 24 r).1 = 0 ∧ (listL 24 r).2.2 = [] then (forgetK m (listL 24 r).2.1).2 else m)
  else m
def redoK (m : Km) : List UInt8 → Km
  | [] => m
  | c :: r => redoB m c r
def openK (rs : List (List UInt8)) : Km := rs.foldl redoK km0
theorem openK_snoc (rs : List (List UInt8)) (b : List UInt8) : openK (rs ++ [b]) = redoK (openK rs) b := by simp [openK, List.foldl_append]

/-! what was written is done once more -/
theorem digL_app (d r : List UInt8) (hd : d.length = 32) : digL (d ++ r) = (0, d, r) := by
  unfold digL
  rw [if_neg (by simp; omega), ← hd, List.take_left, List.drop_left]
theorem digsL_flat (r : List UInt8) : ∀ (ids : List (List UInt8)), (∀ d ∈ ids, d.length = 32) → digsL ids.length (ids.flatten ++ r) = (0, ids, r)
  | [], _ => rfl
  | d :: ids, h => by
    have hd := digL_app d (ids.flatten ++ r) (h d (by simp))
    have ih := digsL_flat r ids (fun x hx => h x (by simp [hx]))
    rw [List.flatten_cons, List.append_assoc, List.length_cons]
    unfold digsL
    rw [hd]
    simp only [if_true, ih]
theorem listL_names (most : Nat) (ids : List (List UInt8)) (r : List UInt8) (h : ∀ d ∈ ids, d.length = 32) (hm : ids.length ≤ most) (hn : ids.length < 18446744073709551616) : listL most (namesB ids ++ r) = (0, ids, r) := by
  unfold listL namesB
  rw [List.append_assoc, numL_numB most ids.length _ hm hn]
  simp only [if_true]
  exact digsL_flat r ids h
theorem redo_rec1 (m : Km) (id s : List UInt8) (hd : id.length = 32) (hs : s.length ≤ 32) : redoK m (rec1 id s) = (keepK m id s).2 := by
  have h1 := digL_app id (textB s) hd
  have h2 := textL_textB 32 s [] hs (by omega)
  rw [List.append_nil] at h2
  simp only [rec1, redoK, redoB, if_true, h1, h2, and_self]
theorem redo_rec2 (m : Km) (slot : Nat) (ids : List (List UInt8)) (hs : slot < 18446744073709551616) (h : ∀ d ∈ ids, d.length = 32) (hl : ids.length ≤ 8) : redoK m (rec2 slot ids) = (commitK m slot ids).2 := by
  have h1 := numL_numB 18446744073709551615 slot (namesB ids) (by omega) hs
  have h2 := listL_names 8 ids [] h hl (by omega)
  rw [List.append_nil] at h2
  simp only [rec2, redoK, redoB, if_true, h1, h2, and_self, show ¬ (2 : UInt8) = 1 by decide, if_false]
theorem redo_rec3 (m : Km) (ids : List (List UInt8)) (h : ∀ d ∈ ids, d.length = 32) (hl : ids.length ≤ 24) : redoK m (rec3 ids) = (forgetK m ids).2 := by
  have h2 := listL_names 24 ids [] h hl (by omega)
  rw [List.append_nil] at h2
  simp only [rec3, redoK, redoB, if_true, h2, and_self, show ¬ (3 : UInt8) = 1 by decide, show ¬ (3 : UInt8) = 2 by decide, if_false]

/-! what always holds -/
structure KInv (m : Km) : Prop where
  keys : (m.sh.map (·.1)).Nodup
  len : ∀ p ∈ m.sh, p.1.length = 32 ∧ 1 ≤ p.2.length ∧ p.2.length ≤ 32
  few : m.sh.length ≤ 32
  slot : m.slot < 18446744073709551616
  ids : m.ids.length ≤ 8 ∧ ∀ d ∈ m.ids, d.length = 32
theorem km0_inv : KInv km0 := ⟨by simp [km0], by simp [km0], by simp [km0], by simp [km0], by simp [km0]⟩
theorem getS_none {sh : List (List UInt8 × List UInt8)} {id : List UInt8} : getS sh id = none ↔ id ∉ sh.map (·.1) := by
  unfold getS
  rw [Option.map_eq_none_iff, List.find?_eq_none]
  simp only [beq_iff_eq, List.mem_map, not_exists, not_and]
theorem getS_some {sh : List (List UInt8 × List UInt8)} {id s : List UInt8} (h : getS sh id = some s) : (id, s) ∈ sh := by
  unfold getS at h
  obtain ⟨p, hp, rfl⟩ := Option.map_eq_some_iff.1 h
  have h1 := List.find?_some hp
  have h2 := List.mem_of_find?_eq_some hp
  simp only [beq_iff_eq] at h1
  subst h1
  exact h2
theorem getS_mem {sh : List (List UInt8 × List UInt8)} (hn : (sh.map (·.1)).Nodup) {id s : List UInt8} (h : (id, s) ∈ sh) : getS sh id = some s := by
  induction sh with
  | nil => cases h
  | cons p r ih =>
    simp only [List.map_cons, List.nodup_cons] at hn
    unfold getS
    rw [List.find?_cons]
    rcases List.mem_cons.1 h with rfl | h
    · simp
    · have hne : ¬ p.1 = id := fun e => hn.1 (by rw [e]; exact List.mem_map.2 ⟨_, h, rfl⟩)
      have hb : (p.1 == id) = false := by simpa using hne
      rw [hb]
      exact ih hn.2 h
theorem keep_inv {m : Km} (h : KInv m) (id s : List UInt8) (hd : id.length = 32) : KInv (keepK m id s).2 := by
  unfold keepK
  split
  · exact h
  · rename_i hs
    cases hg : getS m.sh id with
    | some t => simp only; split <;> exact h
    | none =>
      simp only
      split
      · exact h
      · have hn := getS_none.1 hg
        refine ⟨?_, ?_, by simp; omega, h.slot, h.ids⟩
        · rw [List.map_append]
          refine List.nodup_append.2 ⟨h.keys, by simp, ?_⟩
          intro a ha b hb
          simp only [List.map_cons, List.map_nil, List.mem_singleton] at hb
          subst hb
          intro e
          subst e
          exact hn ha
        · intro p hp
          rcases List.mem_append.1 hp with hp | hp
          · exact h.len p hp
          · obtain rfl : p = (id, s) := by simpa using hp
            exact ⟨hd, show 1 ≤ s.length by omega, show s.length ≤ 32 by omega⟩
theorem commit_inv {m : Km} (h : KInv m) (slot : Nat) (ids : List (List UInt8)) (hs : slot < 18446744073709551616) (hd : ∀ d ∈ ids, d.length = 32) : KInv (commitK m slot ids).2 := by
  unfold commitK
  split
  · exact h
  · split
    · exact h
    · split
      · split <;> exact h
      · exact ⟨h.keys, h.len, h.few, hs, show ids.length ≤ 8 by omega, hd⟩
theorem dropS_sub (sh : List (List UInt8 × List UInt8)) (id : List UInt8) : (dropS sh id).Sublist sh := List.filter_sublist
theorem forgetS_sub : ∀ (ids : List (List UInt8)) (sh : List (List UInt8 × List UInt8)), (forgetS sh ids).Sublist sh
  | [], sh => List.Sublist.refl _
  | id :: ids, sh => (forgetS_sub ids (dropS sh id)).trans (dropS_sub sh id)
theorem sub_inv {m : Km} (h : KInv m) {sh : List (List UInt8 × List UInt8)} (hs : sh.Sublist m.sh) : KInv { m with sh := sh } :=
  ⟨(hs.map _).nodup h.keys, fun p hp => h.len p (hs.subset hp), Nat.le_trans hs.length_le h.few, h.slot, h.ids⟩
theorem forget_inv {m : Km} (h : KInv m) (ids : List (List UInt8)) : KInv (forgetK m ids).2 := sub_inv h (forgetS_sub ids m.sh)
theorem digsL_len : ∀ (k : Nat) (l : List UInt8), ∀ d ∈ (digsL k l).2.1, d.length = 32
  | 0, l, d, h => by simp [digsL] at h
  | k + 1, l, d, h => by
    unfold digsL at h
    split at h
    · rename_i hz
      rcases List.mem_cons.1 h with rfl | h
      · unfold digL at hz ⊢
        split at hz
        · cases hz
        · rename_i hl
          rw [if_neg hl]
          simp; omega
      · exact digsL_len k _ d h
    · simp at h
theorem listL_len (most : Nat) (l : List UInt8) : ∀ d ∈ (listL most l).2.1, d.length = 32 := by
  intro d h
  unfold listL at h
  split at h
  · exact digsL_len _ _ d h
  · simp at h
theorem redo_inv {m : Km} (h : KInv m) (b : List UInt8) : KInv (redoK m b) := by
  cases b with
  | nil => exact h
  | cons c r =>
    simp only [redoK]
    unfold redoB
    split
    · split
      · rename_i hc
        refine keep_inv h _ _ ?_
        have hz := hc.1
        unfold digL at hz ⊢
        split at hz
        · cases hz
        · rename_i hl
          rw [if_neg hl]
          simp; omega
      · exact h
    · split
      · split
        · rename_i hc
          refine commit_inv h _ _ ?_ (listL_len _ _)
          have := numL_most _ _ hc.1
          omega
        · exact h
      · split
        · split
          · exact forget_inv h _
          · exact h
        · exact h
theorem open_inv : ∀ (rs : List (List UInt8)), KInv (openK rs) := by
  have gen : ∀ (rs : List (List UInt8)) (m : Km), KInv m → KInv (rs.foldl redoK m) := by
    intro rs
    induction rs with
    | nil => intro m h; exact h
    | cons b rs ih => intro m h; exact ih _ (redo_inv h b)
  exact fun rs => gen rs km0 km0_inv
end Go.Proofs.Ytnlmeaijnfjakaa.Sh
/- Slices of names (digests): looked into, held against each other, cloned; bytes held against bytes: walked. -/
namespace Go.Proofs.Ytnlmeaijnfjakaa.Sh
set_option linter.unusedSimpArgs false
set_option linter.unusedVariables false
open Go Go.RowKit

/-- A slice of names. -/
def Dgs (w : World) (v : Value) (l : List (List UInt8)) : Prop := Cs 32 w v l.length (l.flatMap bytes) ∧ ∀ d ∈ l, d.length = 32
theorem Dgs.kept0 {w w' : World} {v : Value} {l : List (List UInt8)} (h : Dgs w v l) (ho : Only [] w w') : Dgs w' v l := ⟨h.1.kept0 ho, h.2⟩
theorem Dgs.kept {w w' : World} {v : Value} {l : List (List UInt8)} (h : Dgs w v l) {bs : List Nat} (ho : Only bs w w') (hn : ∀ b, v.ownBlock = some b → b ∉ bs) : Dgs w' v l := ⟨h.1.kept ho hn, h.2⟩
theorem flat_get : ∀ (l : List (List UInt8)) (k : Nat), (∀ d ∈ l, d.length = 32) → (hk : k < l.length) → ∀ j, j < 32 → (l.flatMap bytes)[k * 32 + j]? = (bytes l[k])[j]?
  | [], k, _, hk, _, _ => by simp at hk
  | d :: l, 0, h, _, j, hj => by
    have hd : (bytes d).length = 32 := by simp [bytes, h d (by simp)]
    rw [List.flatMap_cons, Nat.zero_mul, Nat.zero_add, List.getElem?_append_left (by omega)]
    rfl
  | d :: l, k + 1, h, hk, j, hj => by
    have hd : (bytes d).length = 32 := by simp [bytes, h d (by simp)]
    rw [List.flatMap_cons, List.getElem?_append_right (by omega), hd, show (k + 1) * 32 + j - 32 = k * 32 + j by omega]
    exact flat_get l k (fun x hx => h x (by simp [hx])) (by simpa using hk) j hj
theorem Dgs.form {w : World} {v : Value} {l : List (List UInt8)} (h : Dgs w v l) : ∃ a cap, v = .slice a l.length cap ∧ l.length ≤ cap ∧ cap ≤ maxLen ∧ l.length ≤ 9223372036854775807 := by
  obtain ⟨⟨_, a, cap, rfl, h1, h2, h3, _⟩, _⟩ := h
  exact ⟨a, cap, rfl, h1, h2, h3⟩
theorem Dgs.at {w : World} {a : Option Addr} {n cap : Nat} {l : List (List UInt8)} (h : Dgs w (.slice a n cap) l) (k : Nat) (hk : k < l.length) : ∃ b o, a = some ⟨b, o, none⟩ ∧ w.rangeAt b (o + k * 32) (bytes l[k]) := by
  obtain ⟨⟨hl, a', cap', he, _, _, _, h4⟩, h5⟩ := h
  simp only [Value.slice.injEq] at he
  obtain ⟨rfl, _, rfl⟩ := he
  rcases h4 with h4 | ⟨b, o, rfl, h4⟩
  · rw [h4] at hl
    simp at hl
    omega
  · refine ⟨b, o, rfl, fun j u hu => ?_⟩
    have hj : j < 32 := by
      have := (List.getElem?_eq_some_iff.1 hu).1
      simp [bytes, h5 l[k] (List.getElem_mem hk)] at this
      omega
    have := h4 (k * 32 + j) u (by rw [flat_get l k h5 hk j hj]; exact hu)
    rwa [show o + k * 32 + j = o + (k * 32 + j) by omega]
theorem Dgs.pre {w : World} {a : Option Addr} {n cap : Nat} {l : List (List UInt8)} (h : Dgs w (.slice a n cap) l) (k : Nat) (hk : k ≤ l.length) : Dgs w (.slice a k cap) (l.take k) := by
  obtain ⟨⟨hl, a', cap', he, h1, h2, h3, h4⟩, h5⟩ := h
  simp only [Value.slice.injEq] at he
  obtain ⟨rfl, rfl, rfl⟩ := he
  have hk2 : (l.take k).length = k := by simp; omega
  have hpre : (l.take k).flatMap bytes = (l.flatMap bytes).take (k * 32) := by
    rw [← List.take_append_drop k l, List.flatMap_append, List.take_append_drop, List.take_left']
    have gen : ∀ (z : List (List UInt8)), (∀ d ∈ z, d.length = 32) → (z.flatMap bytes).length = z.length * 32 := by
      intro z
      induction z with
      | nil => intro _; rfl
      | cons d z ih => intro hz; rw [List.flatMap_cons, List.length_append, ih (fun x hx => hz x (by simp [hx])), List.length_cons]; simp [bytes, hz d (by simp)]; omega
    rw [gen _ (fun x hx => h5 x (List.mem_of_mem_take hx)), hk2]
  refine ⟨⟨?_, a, cap, by rw [hk2], by omega, h2, by omega, ?_⟩, fun d hd => h5 d (List.mem_of_mem_take hd)⟩
  · rw [hpre, hk2, List.length_take, hl]
    have := Nat.mul_le_mul_right 32 hk
    omega
  · rcases h4 with h4 | ⟨b, o, rfl, h4⟩
    · exact .inl (by rw [hpre, h4]; simp)
    · refine .inr ⟨b, o, rfl, fun j u hu => h4 j u ?_⟩
      rw [hpre] at hu
      rw [List.getElem?_take] at hu
      split at hu
      · exact hu
      · cases hu
theorem vD_inj {a b : List UInt8} (h : vD a = vD b) : a = b := by
  have h1 : (bytes a).toArray = (bytes b).toArray := by simpa [vD] using h
  have h2 : bytes a = bytes b := by simpa using h1
  have h3 : ∀ x y : UInt8, vU8 x = vU8 y → x = y := by
    intro x y e
    simp only [vU8, Value.int.injEq, true_and] at e
    exact UInt8.toNat_inj.1 (by omega)
  exact List.map_inj_right h3 |>.1 h2

theorem dig_boxed (w : World) (d : List UInt8) (hd : d.length = 32) (t : TypeId) : (w.alloc (.cells (bytes d).toArray t)).rangeAt w.heap.size 0 (bytes d) := by
  intro j u hu
  rw [Nat.zero_add, World.cell?_alloc_new]
  simpa using hu
end Go.Proofs.Ytnlmeaijnfjakaa.Sh
/- Slices of names: is one among them? are two alike? a clone: walked. -/
namespace Go.Proofs.Ytnlmeaijnfjakaa.Sh
set_option linter.unusedSimpArgs false
set_option linter.unusedVariables false
open Go Go.RowKit

theorem eql_digA (a b : List UInt8) (ha : a.length = 32) (hb : b.length = 32) (w : World) : (binOp .eql 35 (.agg (bytes a).toArray) (.agg (bytes b).toArray)).run Try.prog w = .ok (.bool (a == b)) w := eql_dig a b ha hb w
theorem neq_digA (a b : List UInt8) (ha : a.length = 32) (hb : b.length = 32) (w : World) : (binOp .neq 35 (.agg (bytes a).toArray) (.agg (bytes b).toArray)).run Try.prog w = .ok (.bool (a != b)) w := by
  have h : (Op.equalIn (9998 + 2) 35 (vD a) (vD b)).run Try.prog w = .ok (a == b) w :=
    run_equalIn_bytes w 9998 35 5 32 Try.underlying35 Try.underlying5 (fun w => by kernel_rfl) a b ha hb
  have h2 : (Op.equal 35 (.agg (bytes a).toArray) (.agg (bytes b).toArray)).run Try.prog w = .ok (a == b) w := h
  simp only [binOp]
  simp [h2, bne]

def IdxPost (l : List (List UInt8)) (d : List UInt8) (w : World) (e : Ending) (w' : World) : Prop := ∃ z : Int, e = .returned (.int .i64 z) ∧ (0 ≤ z ↔ d ∈ l) ∧ Only [] w w'

set_option maxRecDepth 20000 in
set_option maxHeartbeats 1600000 in
theorem index_any (w : World) (v : Value) (l : List (List UInt8)) (d : List UInt8) (hv : Dgs w v l) (hd : d.length = 32) :
    Calls Try.prog 92 #[v, vD d] w (IdxPost l d w) := by
  obtain ⟨a, cap, rfl, h1, h2, h3⟩ := hv.form
  have hb := dig_boxed w d hd 35
  obtain ⟨w1, hw1⟩ : ∃ w1, w1 = w.alloc (Obj.cells (bytes d).toArray 35) := ⟨_, rfl⟩
  have o1 : Only [] w w1 := by rw [hw1]; exact (Only.refl [] w).alloc _
  rw [← hw1] at hb
  have hi : (Try.prog.info? 35).map (·.size) = some (bytes d).length := by rw [dig_info]; simp [bytes, hd]
  have hu := Try.underlying35
  obtain ⟨g, hg⟩ : ∃ g, g = w.heap.size := ⟨_, rfl⟩
  rw [← hg] at hb
  have HG := hid hg
  have HD := hid hd
  have hv1 := hv.kept0 o1
  unfold vD
  clear hd
  go_enter Try.func92, Try.ntmps92
  go_wp2_with fail
  rw [← hw1, ← hg]
  clear hw1 hg
  go_loopw [8] (fun i wr => ∃ k : Nat, k ≤ l.length ∧ i = .int .i64 k ∧ Hid (d ∉ l.take k) ∧ Only [] w1 wr) (fun i _ => l.length - (intOf i).toNat)
  case atStart => exact ⟨0, Nat.zero_le _, rfl, hid (by simp), Only.refl _ _⟩
  case round =>
    obtain ⟨k, hk, rfl, hn, ho⟩ := hrel
    by_cases hlt : k < l.length
    · obtain ⟨b, o, rfl, hr⟩ := (hv1.kept0 ho).at k hlt
      have hbr : wr.rangeAt g 0 (bytes d) := fun j u hj => ho.cell (hb j u hj) (by simp)
      have hl32 := hv.2 l[k] (List.getElem_mem hlt)
      obtain ⟨x, hx⟩ : ∃ x, x = l[k] := ⟨_, rfl⟩
      rw [← hx] at hr hl32
      have hi2 : (Try.prog.info? 35).map (·.size) = some (bytes x).length := by rw [dig_info]; simp [bytes, hl32]
      by_cases hdx : d = x
      · have hq : ∀ w, (binOp .eql 35 (.agg (bytes d).toArray) (.agg (bytes x).toArray)).run Try.prog w = .ok (.bool true) w := by
          intro w
          rw [eql_digA d x HD.out hl32 w, hdx]
          simp
        have hpost : Hid (IdxPost l d w (.returned (.int .i64 (k : Int))) wr.drew) := ⟨k, rfl, ⟨fun _ => by rw [hdx, hx]; exact List.getElem_mem hlt, fun _ => by omega⟩, (o1.trans0 ho).drew⟩
        clear hdx hx hl32 hn
        go_wp2_with fail
        refine wp_region_held_drew (S := fun w => w.rangeAt g 0 (bytes d) ∧ w.rangeAt b (o + k * 32) (bytes x)) (by kernel_rfl) ⟨hbr, hr⟩ (fun hHeld => ?_)
        refine wpAnyH_take (i := 0) rfl (by kernel_rfl) (by kernel_rfl) (by kernel_rfl) (fun _ _ _ h => h) (yieldsIf_load_mid (by rfl) _ _ rfl _ _ rfl _ _ (fun w hS => hS.1) hu rfl hi) (by assumption) ?_
        simp only [Act.put, List.setIfInBounds_toArray, List.set_cons_zero, List.set_cons_succ, List.getElem_toArray, List.getElem_cons_succ, List.getElem_cons_zero]
        refine wpAnyH_take (i := 1) (v := ?v2) rfl (by kernel_rfl) (by kernel_rfl) (by kernel_rfl) (fun _ _ _ h => h) (Or.inl ⟨by rfl, ?hy2⟩) (by assumption) ?rest2
        case hy2 => (intro w hSw; (try dsimp only at hSw); go_simp; try with_reducible rfl)
        simp only [Act.put, List.setIfInBounds_toArray, List.set_cons_zero, List.set_cons_succ, List.getElem_toArray, List.getElem_cons_succ, List.getElem_cons_zero]
        refine wpAnyH_take (i := 2) (v := ?v3) rfl (by kernel_rfl) (by kernel_rfl) (by kernel_rfl) (fun _ _ _ h => h) (Or.inl ⟨by rfl, ?hy3⟩) (by assumption) ?rest3
        case hy3 => (intro w hSw; (try dsimp only at hSw); go_simp; try with_reducible rfl)
        simp only [Act.put, List.setIfInBounds_toArray, List.set_cons_zero, List.set_cons_succ, List.getElem_toArray, List.getElem_cons_succ, List.getElem_cons_zero]
        refine wpAnyH_take (i := 3) (v := ?v4) rfl (by kernel_rfl) (by kernel_rfl) (by kernel_rfl) (fun _ _ _ h => h) (Or.inl ⟨by rfl, ?hy4⟩) (by assumption) ?rest4
        case hy4 => (intro w hSw; (try dsimp only at hSw); go_simp; try with_reducible rfl)
        simp only [Act.put, List.setIfInBounds_toArray, List.set_cons_zero, List.set_cons_succ, List.getElem_toArray, List.getElem_cons_succ, List.getElem_cons_zero]
        refine wpAnyH_take (i := 4) rfl (by kernel_rfl) (by kernel_rfl) (by kernel_rfl) (fun _ _ _ h => h) (yieldsIf_load_mid (by rfl) _ _ rfl _ _ rfl _ _ (fun w hS => hS.2) hu rfl hi2) (by assumption) ?_
        simp only [Act.put, List.setIfInBounds_toArray, List.set_cons_zero, List.set_cons_succ, List.getElem_toArray, List.getElem_cons_succ, List.getElem_cons_zero]
        refine wpAnyH_take (i := 5) (v := ?v6) rfl (by kernel_rfl) (by kernel_rfl) (by kernel_rfl) (fun _ _ _ h => h) (Or.inl ⟨by rfl, ?hy6⟩) (by assumption) ?rest6
        case hy6 => (intro w hSw; (try dsimp only at hSw); go_simp; try with_reducible rfl)
        simp only [Act.put, List.setIfInBounds_toArray, List.set_cons_zero, List.set_cons_succ, List.getElem_toArray, List.getElem_cons_succ, List.getElem_cons_zero]
        refine wpAnyH_done (by kernel_rfl) ?_ _
        go_wp2
        go_ret
        exact hpost
      · have hq : ∀ w, (binOp .eql 35 (.agg (bytes d).toArray) (.agg (bytes x).toArray)).run Try.prog w = .ok (.bool false) w := by
          intro w
          rw [eql_digA d x HD.out hl32 w, beq_eq_false_iff_ne.2 hdx]
        have hn2 : Hid (d ∉ l.take (k + 1)) := by
          show ¬ _
          rw [List.take_succ_eq_append_getElem hlt, List.mem_append, ← hx]
          rintro (h | h)
          · exact hn.out h
          · exact hdx (by simpa using h)
        clear hdx hx hl32 hn
        go_wp2_with fail
        refine wp_region_held_drew (S := fun w => w.rangeAt g 0 (bytes d) ∧ w.rangeAt b (o + k * 32) (bytes x)) (by kernel_rfl) ⟨hbr, hr⟩ (fun hHeld => ?_)
        refine wpAnyH_take (i := 0) rfl (by kernel_rfl) (by kernel_rfl) (by kernel_rfl) (fun _ _ _ h => h) (yieldsIf_load_mid (by rfl) _ _ rfl _ _ rfl _ _ (fun w hS => hS.1) hu rfl hi) (by assumption) ?_
        simp only [Act.put, List.setIfInBounds_toArray, List.set_cons_zero, List.set_cons_succ, List.getElem_toArray, List.getElem_cons_succ, List.getElem_cons_zero]
        refine wpAnyH_take (i := 1) (v := ?v8) rfl (by kernel_rfl) (by kernel_rfl) (by kernel_rfl) (fun _ _ _ h => h) (Or.inl ⟨by rfl, ?hy8⟩) (by assumption) ?rest8
        case hy8 => (intro w hSw; (try dsimp only at hSw); go_simp; try with_reducible rfl)
        simp only [Act.put, List.setIfInBounds_toArray, List.set_cons_zero, List.set_cons_succ, List.getElem_toArray, List.getElem_cons_succ, List.getElem_cons_zero]
        refine wpAnyH_take (i := 2) (v := ?v9) rfl (by kernel_rfl) (by kernel_rfl) (by kernel_rfl) (fun _ _ _ h => h) (Or.inl ⟨by rfl, ?hy9⟩) (by assumption) ?rest9
        case hy9 => (intro w hSw; (try dsimp only at hSw); go_simp; try with_reducible rfl)
        simp only [Act.put, List.setIfInBounds_toArray, List.set_cons_zero, List.set_cons_succ, List.getElem_toArray, List.getElem_cons_succ, List.getElem_cons_zero]
        refine wpAnyH_take (i := 3) (v := ?v10) rfl (by kernel_rfl) (by kernel_rfl) (by kernel_rfl) (fun _ _ _ h => h) (Or.inl ⟨by rfl, ?hy10⟩) (by assumption) ?rest10
        case hy10 => (intro w hSw; (try dsimp only at hSw); go_simp; try with_reducible rfl)
        simp only [Act.put, List.setIfInBounds_toArray, List.set_cons_zero, List.set_cons_succ, List.getElem_toArray, List.getElem_cons_succ, List.getElem_cons_zero]
        refine wpAnyH_take (i := 4) rfl (by kernel_rfl) (by kernel_rfl) (by kernel_rfl) (fun _ _ _ h => h) (yieldsIf_load_mid (by rfl) _ _ rfl _ _ rfl _ _ (fun w hS => hS.2) hu rfl hi2) (by assumption) ?_
        simp only [Act.put, List.setIfInBounds_toArray, List.set_cons_zero, List.set_cons_succ, List.getElem_toArray, List.getElem_cons_succ, List.getElem_cons_zero]
        refine wpAnyH_take (i := 5) (v := ?v12) rfl (by kernel_rfl) (by kernel_rfl) (by kernel_rfl) (fun _ _ _ h => h) (Or.inl ⟨by rfl, ?hy12⟩) (by assumption) ?rest12
        case hy12 => (intro w hSw; (try dsimp only at hSw); go_simp; try with_reducible rfl)
        simp only [Act.put, List.setIfInBounds_toArray, List.set_cons_zero, List.set_cons_succ, List.getElem_toArray, List.getElem_cons_succ, List.getElem_cons_zero]
        refine wpAnyH_done (by kernel_rfl) ?_ _
        go_wp2
        go_roundw
        case rel => exact ⟨k + 1, by omega, by go_num, hn2, ho.drew⟩
        case measure => simp [intOf]; omega
    · obtain rfl : k = l.length := by omega
      rw [List.take_length] at hn
      have hpost : Hid (IdxPost l d w (.returned (.int .i64 (-1))) wr) := ⟨-1, rfl, ⟨fun h => by omega, fun h => absurd h hn.out⟩, o1.trans0 ho⟩
      clear hn
      go_wp2
      go_ret
      exact hpost

theorem Dv.boxed (w : World) (d : List UInt8) (hd : d.length = 32) (t : TypeId) : Dv (w.alloc (.cells (bytes d).toArray t)) w.heap.size d := by
  refine ⟨dig_boxed w d hd t, fun j hj => ?_, hd⟩
  rw [Nat.zero_add, World.cell?_alloc_new]
  constructor
  · simp [bytes, hd, hj]
  · simp [go_sem]
theorem Dv.kept0 {w w' : World} {g : Nat} {d : List UInt8} (h : Dv w g d) (ho : Only [] w w') : Dv w' g d := h.kept ho (by simp)

set_option maxRecDepth 20000 in
theorem contains_any (w : World) (v : Value) (l : List (List UInt8)) (d : List UInt8) (hv : Dgs w v l) (hd : d.length = 32) :
    Calls Try.prog 71 #[v, vD d] w fun e w' => e = .returned (.bool (decide (d ∈ l))) ∧ Only [] w w' := by
  obtain ⟨a, cap, rfl, h1, h2, h3⟩ := hv.form
  have hD := Dv.boxed w d hd 35
  have o1 : Only [] w (w.alloc (Obj.cells (bytes d).toArray 35)) := (Only.refl [] w).alloc _
  have ix := hid (index_any _ _ l d (hv.kept0 o1) hd)
  rw [show vD d = .agg (bytes d).toArray from rfl]
  clear hd
  go_enter Try.func71, Try.ntmps71
  go_wp2_with (refine wpList_load_dig (by rfl) _ (by rfl) w.heap.size d (by rfl) hD ?_)
  refine ix.out.mono ?_
  rintro e w2 ⟨z, rfl, hz, o2⟩
  by_cases h0 : 0 ≤ z
  · have hp := hid (show decide (d ∈ l) = true by simpa using hz.1 h0)
    have h0' : decide (0 ≤ z) = true := by simpa using h0
    clear hz
    go_wp2
    go_ret
    exact ⟨by rw [hp.out]; rfl, o1.trans0 o2⟩
  · have hp := hid (show decide (d ∈ l) = false by
      rw [decide_eq_false_iff_not]
      exact fun h => h0 (hz.2 h))
    have h0' : decide (0 ≤ z) = false := by simpa using h0
    clear hz
    go_wp2
    go_ret
    exact ⟨by rw [hp.out]; rfl, o1.trans0 o2⟩

set_option maxRecDepth 20000 in
set_option maxHeartbeats 1600000 in
theorem dequal_any (w : World) (v u : Value) (l m : List (List UInt8)) (hv : Dgs w v l) (hw : Dgs w u m) :
    Calls Try.prog 72 #[v, u] w fun e w' => e = .returned (.bool (decide (l = m))) ∧ Only [] w w' := by
  obtain ⟨a, cap, rfl, h1, h2, h3⟩ := hv.form
  obtain ⟨a', cap', rfl, h1', h2', h3'⟩ := hw.form
  have hu := Try.underlying35
  by_cases hlm : l.length = m.length
  · have HL := hid hlm
    rw [← hlm] at h1' h3' ⊢
    have hw' : Dgs w (.slice a' m.length cap') m := hw
    have hnn : ((l.length : Int) != (l.length : Int)) = false := by simp
    clear hlm
    go_enter Try.func72, Try.ntmps72
    go_wp2_with fail
    go_loopw [13] (fun i wr => ∃ k : Nat, k ≤ l.length ∧ i = .int .i64 k ∧ Hid (l.take k = m.take k) ∧ Only [] w wr) (fun i _ => l.length - (intOf i).toNat)
    case atStart => exact ⟨0, Nat.zero_le _, rfl, hid (by simp), Only.refl _ _⟩
    case round =>
      obtain ⟨k, hk, rfl, hn, ho⟩ := hrel
      by_cases hlt : k < l.length
      · have hlt' : k < m.length := by have := HL.out; omega
        obtain ⟨b, o, rfl, hr⟩ := (hv.kept0 ho).at k hlt
        obtain ⟨b', o', rfl, hr'⟩ := (hw'.kept0 ho).at k hlt'
        have hl32 := hv.2 l[k] (List.getElem_mem hlt)
        have hl32' := hw.2 m[k] (List.getElem_mem hlt')
        have hts : l.take (k + 1) = l.take k ++ [l[k]] := List.take_succ_eq_append_getElem hlt
        have htm : m.take (k + 1) = m.take k ++ [m[k]] := List.take_succ_eq_append_getElem hlt'
        have hne : l[k] ≠ m[k] → decide (l = m) = false := fun h => take_ne hlt hlt' h
        obtain ⟨x, hx⟩ : ∃ x, x = l[k] := ⟨_, rfl⟩
        obtain ⟨y, hy⟩ : ∃ y, y = m[k] := ⟨_, rfl⟩
        rw [← hx] at hr hl32 hts hne
        rw [← hy] at hr' hl32' htm hne
        have hi : (Try.prog.info? 35).map (·.size) = some (bytes x).length := by rw [dig_info]; simp [bytes, hl32]
        have hi2 : (Try.prog.info? 35).map (·.size) = some (bytes y).length := by rw [dig_info]; simp [bytes, hl32']
        have HR := hid hr
        have HR' := hid hr'
        by_cases hxy : x = y
        · have hq : ∀ w, (binOp .neq 35 (.agg (bytes x).toArray) (.agg (bytes y).toArray)).run Try.prog w = .ok (.bool false) w := by
            intro w
            rw [neq_digA x y hl32 hl32' w, hxy]
            simp
          have hn2 : Hid (l.take (k + 1) = m.take (k + 1)) := by
            show _ = _
            rw [hts, htm, hn.out, hxy]
          clear hxy hx hy hl32 hl32' hn hts htm hne hr hr'
          go_wp2_with fail
          refine wp_region_held_drew (S := fun w => w.rangeAt b (o + k * 32) (bytes x) ∧ w.rangeAt b' (o' + k * 32) (bytes y)) (by kernel_rfl) ⟨HR.out, HR'.out⟩ (fun hHeld => ?_)
          refine wpAnyH_take (i := 0) (v := ?v13) rfl (by kernel_rfl) (by kernel_rfl) (by kernel_rfl) (fun _ _ _ h => h) (Or.inl ⟨by rfl, ?hy13⟩) (by assumption) ?rest13
          case hy13 => (intro w hSw; (try dsimp only at hSw); go_simp; try with_reducible rfl)
          simp only [Act.put, List.setIfInBounds_toArray, List.set_cons_zero, List.set_cons_succ, List.getElem_toArray, List.getElem_cons_succ, List.getElem_cons_zero]
          refine wpAnyH_take (i := 1) (v := ?v14) rfl (by kernel_rfl) (by kernel_rfl) (by kernel_rfl) (fun _ _ _ h => h) (Or.inl ⟨by rfl, ?hy14⟩) (by assumption) ?rest14
          case hy14 => (intro w hSw; (try dsimp only at hSw); go_simp; try with_reducible rfl)
          simp only [Act.put, List.setIfInBounds_toArray, List.set_cons_zero, List.set_cons_succ, List.getElem_toArray, List.getElem_cons_succ, List.getElem_cons_zero]
          refine wpAnyH_take (i := 2) (v := ?v15) rfl (by kernel_rfl) (by kernel_rfl) (by kernel_rfl) (fun _ _ _ h => h) (Or.inl ⟨by rfl, ?hy15⟩) (by assumption) ?rest15
          case hy15 => (intro w hSw; (try dsimp only at hSw); go_simp; try with_reducible rfl)
          simp only [Act.put, List.setIfInBounds_toArray, List.set_cons_zero, List.set_cons_succ, List.getElem_toArray, List.getElem_cons_succ, List.getElem_cons_zero]
          refine wpAnyH_take (i := 3) rfl (by kernel_rfl) (by kernel_rfl) (by kernel_rfl) (fun _ _ _ h => h) (yieldsIf_load_mid (by rfl) _ _ rfl _ _ rfl _ _ (fun w hS => hS.1) hu rfl hi) (by assumption) ?_
          simp only [Act.put, List.setIfInBounds_toArray, List.set_cons_zero, List.set_cons_succ, List.getElem_toArray, List.getElem_cons_succ, List.getElem_cons_zero]
          refine wpAnyH_take (i := 4) (v := ?v17) rfl (by kernel_rfl) (by kernel_rfl) (by kernel_rfl) (fun _ _ _ h => h) (Or.inl ⟨by rfl, ?hy17⟩) (by assumption) ?rest17
          case hy17 => (intro w hSw; (try dsimp only at hSw); go_simp; try with_reducible rfl)
          simp only [Act.put, List.setIfInBounds_toArray, List.set_cons_zero, List.set_cons_succ, List.getElem_toArray, List.getElem_cons_succ, List.getElem_cons_zero]
          refine wpAnyH_take (i := 5) (v := ?v18) rfl (by kernel_rfl) (by kernel_rfl) (by kernel_rfl) (fun _ _ _ h => h) (Or.inl ⟨by rfl, ?hy18⟩) (by assumption) ?rest18
          case hy18 => (intro w hSw; (try dsimp only at hSw); go_simp; try with_reducible rfl)
          simp only [Act.put, List.setIfInBounds_toArray, List.set_cons_zero, List.set_cons_succ, List.getElem_toArray, List.getElem_cons_succ, List.getElem_cons_zero]
          refine wpAnyH_take (i := 6) (v := ?v19) rfl (by kernel_rfl) (by kernel_rfl) (by kernel_rfl) (fun _ _ _ h => h) (Or.inl ⟨by rfl, ?hy19⟩) (by assumption) ?rest19
          case hy19 => (intro w hSw; (try dsimp only at hSw); go_simp; try with_reducible rfl)
          simp only [Act.put, List.setIfInBounds_toArray, List.set_cons_zero, List.set_cons_succ, List.getElem_toArray, List.getElem_cons_succ, List.getElem_cons_zero]
          refine wpAnyH_take (i := 7) rfl (by kernel_rfl) (by kernel_rfl) (by kernel_rfl) (fun _ _ _ h => h) (yieldsIf_load_mid (by rfl) _ _ rfl _ _ rfl _ _ (fun w hS => hS.2) hu rfl hi2) (by assumption) ?_
          simp only [Act.put, List.setIfInBounds_toArray, List.set_cons_zero, List.set_cons_succ, List.getElem_toArray, List.getElem_cons_succ, List.getElem_cons_zero]
          refine wpAnyH_take (i := 8) (v := ?v21) rfl (by kernel_rfl) (by kernel_rfl) (by kernel_rfl) (fun _ _ _ h => h) (Or.inl ⟨by rfl, ?hy21⟩) (by assumption) ?rest21
          case hy21 => (intro w hSw; (try dsimp only at hSw); go_simp; try with_reducible rfl)
          simp only [Act.put, List.setIfInBounds_toArray, List.set_cons_zero, List.set_cons_succ, List.getElem_toArray, List.getElem_cons_succ, List.getElem_cons_zero]
          refine wpAnyH_done (by kernel_rfl) ?_ _
          go_wp2
          go_roundw
          case rel => exact ⟨k + 1, by omega, by go_num, hn2, ho.drew⟩
          case measure => simp [intOf]; omega
        · have hq : ∀ w, (binOp .neq 35 (.agg (bytes x).toArray) (.agg (bytes y).toArray)).run Try.prog w = .ok (.bool true) w := by
            intro w
            rw [neq_digA x y hl32 hl32' w, bne_iff_ne.2 hxy]
          have hfin := hid (hne hxy)
          clear hxy hx hy hl32 hl32' hn hts htm hne hr hr'
          go_wp2_with fail
          refine wp_region_held_drew (S := fun w => w.rangeAt b (o + k * 32) (bytes x) ∧ w.rangeAt b' (o' + k * 32) (bytes y)) (by kernel_rfl) ⟨HR.out, HR'.out⟩ (fun hHeld => ?_)
          refine wpAnyH_take (i := 0) (v := ?v22) rfl (by kernel_rfl) (by kernel_rfl) (by kernel_rfl) (fun _ _ _ h => h) (Or.inl ⟨by rfl, ?hy22⟩) (by assumption) ?rest22
          case hy22 => (intro w hSw; (try dsimp only at hSw); go_simp; try with_reducible rfl)
          simp only [Act.put, List.setIfInBounds_toArray, List.set_cons_zero, List.set_cons_succ, List.getElem_toArray, List.getElem_cons_succ, List.getElem_cons_zero]
          refine wpAnyH_take (i := 1) (v := ?v23) rfl (by kernel_rfl) (by kernel_rfl) (by kernel_rfl) (fun _ _ _ h => h) (Or.inl ⟨by rfl, ?hy23⟩) (by assumption) ?rest23
          case hy23 => (intro w hSw; (try dsimp only at hSw); go_simp; try with_reducible rfl)
          simp only [Act.put, List.setIfInBounds_toArray, List.set_cons_zero, List.set_cons_succ, List.getElem_toArray, List.getElem_cons_succ, List.getElem_cons_zero]
          refine wpAnyH_take (i := 2) (v := ?v24) rfl (by kernel_rfl) (by kernel_rfl) (by kernel_rfl) (fun _ _ _ h => h) (Or.inl ⟨by rfl, ?hy24⟩) (by assumption) ?rest24
          case hy24 => (intro w hSw; (try dsimp only at hSw); go_simp; try with_reducible rfl)
          simp only [Act.put, List.setIfInBounds_toArray, List.set_cons_zero, List.set_cons_succ, List.getElem_toArray, List.getElem_cons_succ, List.getElem_cons_zero]
          refine wpAnyH_take (i := 3) rfl (by kernel_rfl) (by kernel_rfl) (by kernel_rfl) (fun _ _ _ h => h) (yieldsIf_load_mid (by rfl) _ _ rfl _ _ rfl _ _ (fun w hS => hS.1) hu rfl hi) (by assumption) ?_
          simp only [Act.put, List.setIfInBounds_toArray, List.set_cons_zero, List.set_cons_succ, List.getElem_toArray, List.getElem_cons_succ, List.getElem_cons_zero]
          refine wpAnyH_take (i := 4) (v := ?v26) rfl (by kernel_rfl) (by kernel_rfl) (by kernel_rfl) (fun _ _ _ h => h) (Or.inl ⟨by rfl, ?hy26⟩) (by assumption) ?rest26
          case hy26 => (intro w hSw; (try dsimp only at hSw); go_simp; try with_reducible rfl)
          simp only [Act.put, List.setIfInBounds_toArray, List.set_cons_zero, List.set_cons_succ, List.getElem_toArray, List.getElem_cons_succ, List.getElem_cons_zero]
          refine wpAnyH_take (i := 5) (v := ?v27) rfl (by kernel_rfl) (by kernel_rfl) (by kernel_rfl) (fun _ _ _ h => h) (Or.inl ⟨by rfl, ?hy27⟩) (by assumption) ?rest27
          case hy27 => (intro w hSw; (try dsimp only at hSw); go_simp; try with_reducible rfl)
          simp only [Act.put, List.setIfInBounds_toArray, List.set_cons_zero, List.set_cons_succ, List.getElem_toArray, List.getElem_cons_succ, List.getElem_cons_zero]
          refine wpAnyH_take (i := 6) (v := ?v28) rfl (by kernel_rfl) (by kernel_rfl) (by kernel_rfl) (fun _ _ _ h => h) (Or.inl ⟨by rfl, ?hy28⟩) (by assumption) ?rest28
          case hy28 => (intro w hSw; (try dsimp only at hSw); go_simp; try with_reducible rfl)
          simp only [Act.put, List.setIfInBounds_toArray, List.set_cons_zero, List.set_cons_succ, List.getElem_toArray, List.getElem_cons_succ, List.getElem_cons_zero]
          refine wpAnyH_take (i := 7) rfl (by kernel_rfl) (by kernel_rfl) (by kernel_rfl) (fun _ _ _ h => h) (yieldsIf_load_mid (by rfl) _ _ rfl _ _ rfl _ _ (fun w hS => hS.2) hu rfl hi2) (by assumption) ?_
          simp only [Act.put, List.setIfInBounds_toArray, List.set_cons_zero, List.set_cons_succ, List.getElem_toArray, List.getElem_cons_succ, List.getElem_cons_zero]
          refine wpAnyH_take (i := 8) (v := ?v30) rfl (by kernel_rfl) (by kernel_rfl) (by kernel_rfl) (fun _ _ _ h => h) (Or.inl ⟨by rfl, ?hy30⟩) (by assumption) ?rest30
          case hy30 => (intro w hSw; (try dsimp only at hSw); go_simp; try with_reducible rfl)
          simp only [Act.put, List.setIfInBounds_toArray, List.set_cons_zero, List.set_cons_succ, List.getElem_toArray, List.getElem_cons_succ, List.getElem_cons_zero]
          refine wpAnyH_done (by kernel_rfl) ?_ _
          go_wp2
          go_ret
          exact ⟨by rw [hfin.out]; rfl, ho.drew⟩
      · obtain rfl : k = l.length := by omega
        have hfin := hid (show decide (l = m) = true by
          rw [decide_eq_true_eq]
          have := hn.out
          rwa [List.take_length, HL.out, List.take_length] at this)
        clear hn
        go_wp2
        go_ret
        exact ⟨by rw [hfin.out]; rfl, ho⟩
  · have hfin := hid (show decide (l = m) = false by
      rw [decide_eq_false_iff_not]
      rintro rfl
      exact hlm rfl)
    have hb : ((l.length : Int) != (m.length : Int)) = true := by rw [bne_iff_ne]; omega
    clear hlm
    go_enter Try.func72, Try.ntmps72
    go_wp2
    go_ret
    exact ⟨by rw [hfin.out]; rfl, Only.refl _ _⟩

theorem el_dig : El Try.prog 42 35 32 32 := ⟨Try.underlying42, by
  obtain ⟨i, h1, h2, h3, h4⟩ := info_parts (show (Try.prog.info? 35).map (fun i => (i.zero, i.size, i.bytes)) = some (some (.agg Z32), 32, 32) by kernel_rfl)
  exact ⟨i, .agg Z32, h1, h2, h3, h4, by kernel_rfl⟩, by omega⟩
theorem flat_one : ∀ (l : List (List UInt8)), ∀ u ∈ l.flatMap bytes, u.oneCell' = true := by
  intro l u hu
  obtain ⟨d, _, hd⟩ := List.mem_flatMap.1 hu
  exact bytes_one d u hd

set_option maxHeartbeats 400000 in
theorem dclone_any (w : World) (v : Value) (l : List (List UInt8)) (hv : Dgs w v l) (hl : l.length ≤ 100) :
    Calls Try.prog 73 #[v] w fun e w' => ∃ v', e = .returned v' ∧ w'.ownsRow w.heap.size 35 32 v' l.length (l.flatMap bytes) ∧ Only [] w w' := by
  obtain ⟨⟨hl0, a, cap, rfl, h1, h2, h3, h4⟩, h5⟩ := id hv
  have hq := fun (w : World) (a : Option Addr) (n c : Nat) => Lib.run_eql_slice_nil (P := Try.prog) w 42 35 a n c 0 0 Try.underlying42
  cases a with
  | none =>
    have hl : l = [] := by
      rcases h4 with h4 | ⟨b, o, h5, _⟩
      · rw [h4] at hl0
        exact List.eq_nil_of_length_eq_zero (by simp at hl0; omega)
      · cases h5
    subst hl
    go_enter Try.func73, Try.ntmps73
    go_wp2
    go_ret
    exact ⟨_, rfl, World.ownsRow_nil _ _ _ _, Only.refl _ _⟩
  | some ad =>
    go_enter Try.func73, Try.ntmps73
    go_wp2_with (at_builtin; refine wpList_app (by rfl) _ _ 42 (by rfl) w.heap.size 35 32 32 el_dig (by rfl) (World.ownsRow_made w #[] 0 (Nat.le_refl _) (by unfold maxLen; omega) rfl) (by rfl) (hv.1.kept0 ((Only.refl [] w).alloc _)) (flat_one l) (by omega) (by omega) (by simp) ?_; intro v1 w1 hown1 happ1)
    go_ret
    exact ⟨_, rfl, by simpa using hown1, ((Only.refl [] w).alloc _).app happ1 (by simp [Value.ownBlock])⟩
end Go.Proofs.Ytnlmeaijnfjakaa.Sh
/- Names as a map's keys. -/
namespace Go.Proofs.Ytnlmeaijnfjakaa.Sh
set_option linter.unusedSimpArgs false
set_option linter.unusedVariables false
open Go Go.RowKit
open Go.Maps (Keyed)

theorem laidOutK : laidOutB Try.prog = true := by kernel_rfl
theorem wideK : (match Try.prog.underlying 35 with | some (.array _ _) | some (.struct _) => true | _ => false) = true := by rw [Try.underlying35]
theorem rowK : 35 < Try.prog.types.size := by
  have h : decide (35 < Try.prog.types.size) = true := by kernel_rfl
  exact of_decide_eq_true h
set_option maxRecDepth 100000 in
theorem keyed_dig : Keyed Try.prog 35 := Keyed.of_law (deep_law_laid laidOutK (m := 2) (by omega) rowK (by kernel_rfl) wideK)
theorem mapM_some {α β : Type} (f : α → Option β) : ∀ (l : List α), (∀ a ∈ l, ∃ b, f a = some b) → ∃ bs, l.mapM f = some bs
  | [], _ => ⟨[], by simp⟩
  | a :: l, h => by
    obtain ⟨b, hb⟩ := h a (by simp)
    obtain ⟨bs, hbs⟩ := mapM_some f l (fun x hx => h x (by simp [hx]))
    exact ⟨b :: bs, by simp [List.mapM_cons, hb, hbs]⟩
theorem key_dig (d : List UInt8) (hd : d.length = 32) : ∃ l, keyOf Try.prog 35 (vD d) = some l := by
  have hu := Try.underlying35
  have hu8 := Try.underlying5
  have hc : Try.prog.cellsOf 35 = 32 := by kernel_rfl
  have hc8 : Try.prog.cellsOf 5 = 1 := by kernel_rfl
  have hk : Try.prog.keyType 35 = true := by kernel_rfl
  obtain ⟨m, hm⟩ : ∃ m, Try.prog.types.size = m + 1 := Nat.exists_eq_succ_of_ne_zero (by have := rowK; omega)
  have hf : (vD d).formed Try.prog 35 = true := by
    unfold vD Value.formed
    simp only [hu, hc]
    simp [bytes, hd]
  have hcells : (vD d).cells.toList = bytes d := by
    simp [vD, Value.cells]
  have hone : ∀ i ∈ List.range 32, ∃ b, Try.prog.keyLits (m + 1) 5 (((bytes d).drop (i * 1)).take 1) = some b := by
    intro i hi
    have hi := List.mem_range.1 hi
    have hl : i < (bytes d).length := by simp [bytes, hd]; omega
    have hx : ((bytes d).drop (i * 1)).take 1 = [vU8 (d[i]'(by omega))] := by
      rw [Nat.mul_one, List.drop_eq_getElem_cons hl]
      simp [bytes]
    rw [hx]
    unfold Program.keyLits
    simp only [hu8]
    have hw : (Lit.int .u8 ((d[i]'(by omega)).toNat : Int)).wf = true := by
      have := u8_bound (d[i]'(by omega))
      simp only [Lit.wf, Bool.and_eq_true, decide_eq_true_eq]
      have h1 : IntKind.u8.min = 0 := rfl
      have h2 : IntKind.u8.max = 255 := rfl
      omega
    simp [hw]
  obtain ⟨bs, hbs⟩ := mapM_some _ _ hone
  have hkl : Try.prog.keyLits (Try.prog.types.size + 1) 35 (bytes d) = some bs.flatten := by
    rw [hm]
    unfold Program.keyLits
    simp only [hu, hc, hc8]
    rw [if_pos (by simp [bytes, hd]), hbs]
    rfl
  unfold keyOf
  simp only [hu, hk, hf, Bool.and_self, if_true, hcells, hkl, Option.map_some]
  exact ⟨_, rfl⟩
end Go.Proofs.Ytnlmeaijnfjakaa.Sh
/- The keyper's shares in memory: a map by name: asked, written, struck. -/
namespace Go.Proofs.Ytnlmeaijnfjakaa.Sh
set_option linter.unusedSimpArgs false
set_option linter.unusedVariables false
open Go Go.RowKit

@[reducible] def T75 : TypeId := 75
/-- Block mb is the map of the shares, whose bytes lie in blocks of a list. -/
def Shs (w : World) (bs : List Nat) (mb : Nat) (sh : List (List UInt8 × List UInt8)) : Prop :=
  ∃ H : List ((List UInt8 × List UInt8) × Value), H.map (·.1) = sh ∧ Mp Try.prog 35 w mb (H.map fun p => (vD p.1.1, p.2)) ∧ ∀ p ∈ H, Yb w bs p.2 p.1.2

section
variable {w w' : World} {bs ds : List Nat} {mb : Nat} {sh : List (List UInt8 × List UInt8)}
theorem Shs.lt (h : Shs w bs mb sh) : mb < w.heap.size := by
  obtain ⟨H, _, hm, _⟩ := h
  exact hm.lt
theorem Shs.only (h : Shs w bs mb sh) (ho : Only ds w w') (hn : mb ∉ ds) (hd : ∀ k ∈ ds, k ∉ bs ∨ ¬ TyAt w k 5) : Shs w' bs mb sh := by
  obtain ⟨H, h1, hm, h3⟩ := h
  exact ⟨H, h1, hm.kept ho hn, fun p hp => (h3 p hp).only ho hd⟩
theorem Shs.kept0 (h : Shs w bs mb sh) (ho : Only [] w w') : Shs w' bs mb sh := h.only ho (by simp) (by simp)
theorem Shs.mono (h : Shs w bs mb sh) (hs : ∀ k ∈ bs, k ∈ ds) : Shs w ds mb sh := by
  obtain ⟨H, h1, hm, h3⟩ := h
  exact ⟨H, h1, hm, fun p hp => (h3 p hp).mono hs⟩
theorem shs_made (w : World) (bs : List Nat) : Shs (w.alloc (.map #[] 0)) bs w.heap.size [] := ⟨[], rfl, mp_made _ _ w, by simp⟩

theorem keys_of {H : List ((List UInt8 × List UInt8) × Value)} (hn : ((H.map (·.1)).map (·.1)).Nodup) : ((H.map fun p => (vD p.1.1, p.2)).map (·.1)).Nodup := by
  rw [List.map_map] at hn ⊢
  have : H.map ((fun x => x.1) ∘ fun p => (vD p.1.1, p.2)) = (H.map ((fun x => x.1) ∘ fun x => x.1)).map vD := by rw [List.map_map]; rfl
  rw [this]
  exact List.Pairwise.map vD (fun a b hne e => hne (vD_inj e)) hn
theorem keys_not {H : List ((List UInt8 × List UInt8) × Value)} {id : List UInt8} (hn : id ∉ (H.map (·.1)).map (·.1)) : ∀ p ∈ H.map (fun p => (vD p.1.1, p.2)), p.1 ≠ vD id := by
  intro p hp e
  obtain ⟨q, hq, rfl⟩ := List.mem_map.1 hp
  have := vD_inj e
  exact hn (List.mem_map.2 ⟨q.1, List.mem_map.2 ⟨q, hq, rfl⟩, this⟩)

theorem zero75 (w : World) : (zeroValue 27).run Try.prog w = .ok (.slice none 0 0) w := by kernel_rfl

theorem Shs.look_none (h : Shs w bs mb sh) {id : List UInt8} (hd : id.length = 32) (hg : getS sh id = none) (c : Bool) :
    (Instr.lookup T75 (.map (some mb)) (vD id) c).run Try.prog w = .ok (if c then .tuple #[.slice none 0 0, .bool false] else .slice none 0 0) w := by
  obtain ⟨H, rfl, hm, h3⟩ := h
  obtain ⟨l, hl⟩ := key_dig id hd
  exact hm.look_none keyed_dig Try.underlying75 (zero75 w) hl (keys_not (getS_none.1 hg)) c
theorem Shs.look_some (h : Shs w bs mb sh) (hk : (sh.map (·.1)).Nodup) {id s : List UInt8} (hd : id.length = 32) (hg : getS sh id = some s) :
    ∃ v, Yb w bs v s ∧ ∀ W, Only [] w W → ∀ c, (Instr.lookup T75 (.map (some mb)) (vD id) c).run Try.prog W = .ok (if c then .tuple #[v, .bool true] else v) W := by
  obtain ⟨H, rfl, hm, h3⟩ := h
  obtain ⟨l, hl⟩ := key_dig id hd
  have hmem := getS_some hg
  obtain ⟨q, hq, hqe⟩ := List.mem_map.1 hmem
  obtain ⟨i, hi⟩ := List.getElem?_of_mem hq
  have hy := h3 q hq
  rw [hqe] at hy
  refine ⟨q.2, hy, fun W hW c => ?_⟩
  have := (hm.kept0 hW).look_some keyed_dig Try.underlying75 hl (keys_of hk) (i := i) (v := q.2) (by rw [List.getElem?_map, hi]; simp [hqe]) c
  exact this
theorem Shs.len (h : Shs w bs mb sh) (ty : TypeId) : (Builtin.len_ #[T75] ty #[.map (some mb)]).run Try.prog w = .ok (.int .i64 (sh.length : Int)) w := by
  obtain ⟨H, rfl, hm, h3⟩ := h
  have := hm.len Try.underlying75 ty
  simpa using this
theorem Shs.put (h : Shs w bs mb sh) {id s : List UInt8} (hd : id.length = 32) (hg : getS sh id = none) {v : Value} (hv : Yb w bs v s) (hmt : ¬ TyAt w mb 5) :
    ∃ w', (Instr.mapUpdate T75 (.map (some mb)) (vD id) v).run Try.prog w = .ok () w' ∧ Shs w' bs mb (sh ++ [(id, s)]) ∧ Only [mb] w w' ∧ w'.heap.size = w.heap.size := by
  obtain ⟨H, rfl, hm, h3⟩ := h
  obtain ⟨l, hl⟩ := key_dig id hd
  obtain ⟨w', h1, h2, ho, hs⟩ := hm.put_new keyed_dig Try.underlying75 hl (keys_not (getS_none.1 hg)) v
  have hdd : ∀ k ∈ [mb], k ∉ bs ∨ ¬ TyAt w k 5 := fun k hk => .inr (by rw [List.mem_singleton.1 hk]; exact hmt)
  refine ⟨w', h1, ⟨H ++ [((id, s), v)], by simp, by simpa using h2, fun p hp => ?_⟩, ho, hs⟩
  rcases List.mem_append.1 hp with hp | hp
  · exact (h3 p hp).only ho hdd
  · obtain rfl : p = ((id, s), v) := by simpa using hp
    exact hv.only ho hdd
theorem filter_ne_erase {α β : Type} [BEq α] [LawfulBEq α] (f : β → α) : ∀ (l : List β) (i : Nat) (x : α), (l.map f).Nodup → (l.map f)[i]? = some x → l.filter (fun p => f p != x) = l.eraseIdx i
  | [], i, x, _, h => by simp at h
  | p :: l, 0, x, hn, h => by
    simp only [List.map_cons, List.nodup_cons] at hn
    simp only [List.map_cons, List.getElem?_cons_zero, Option.some.injEq] at h
    subst h
    simp only [List.eraseIdx_cons_zero, List.filter_cons, bne_self_eq_false, Bool.false_eq_true, if_false]
    refine List.filter_eq_self.2 (fun q hq => ?_)
    rw [bne_iff_ne]
    intro e
    exact hn.1 (by rw [← e]; exact List.mem_map.2 ⟨q, hq, rfl⟩)
  | p :: l, i + 1, x, hn, h => by
    simp only [List.map_cons, List.nodup_cons] at hn
    have h' : (l.map f)[i]? = some x := by simpa using h
    have hne : (f p != x) = true := by
      rw [bne_iff_ne]
      intro e
      exact hn.1 (by rw [e]; exact List.mem_of_getElem? h')
    simp only [List.eraseIdx_cons_succ, List.filter_cons, hne, if_true]
    rw [filter_ne_erase f l i x hn.2 h']
theorem map_eraseIdx {α β : Type} (f : α → β) : ∀ (l : List α) (i : Nat), (l.eraseIdx i).map f = (l.map f).eraseIdx i
  | [], _ => rfl
  | _ :: _, 0 => rfl
  | a :: l, i + 1 => by simp [map_eraseIdx f l i]
theorem Shs.del (h : Shs w bs mb sh) (hk : (sh.map (·.1)).Nodup) {id : List UInt8} (hd : id.length = 32) (hmt : ¬ TyAt w mb 5) (ty : TypeId) :
    ∃ w', (Builtin.delete_ #[T75, 35] ty #[.map (some mb), vD id]).run Try.prog w = .ok (.tuple #[]) w' ∧ Shs w' bs mb (dropS sh id) ∧ Only [mb] w w' ∧ w'.heap.size = w.heap.size := by
  obtain ⟨H, rfl, hm, h3⟩ := h
  obtain ⟨l, hl⟩ := key_dig id hd
  have hdd : ∀ k ∈ [mb], k ∉ bs ∨ ¬ TyAt w k 5 := fun k hk => .inr (by rw [List.mem_singleton.1 hk]; exact hmt)
  by_cases hmem : id ∈ (H.map (·.1)).map (·.1)
  · obtain ⟨i, hi⟩ := List.getElem?_of_mem hmem
    obtain ⟨q, hq, hqe⟩ : ∃ q, H[i]? = some q ∧ q.1.1 = id := by
      rw [List.getElem?_map, List.getElem?_map] at hi
      obtain ⟨x, hx, hxe⟩ := Option.map_eq_some_iff.1 hi
      obtain ⟨q, hq, rfl⟩ := Option.map_eq_some_iff.1 hx
      exact ⟨q, hq, hxe⟩
    obtain ⟨w', h1, h2, ho, hs⟩ := hm.del_some keyed_dig Try.underlying75 hl (keys_of hk) (i := i) (v := q.2) (by rw [List.getElem?_map, hq, ← hqe]; rfl) ty
    refine ⟨w', h1, ⟨H.eraseIdx i, ?_, ?_, fun p hp => (h3 p (List.mem_of_mem_eraseIdx hp)).only ho hdd⟩, ho, hs⟩
    · unfold dropS
      exact (map_eraseIdx (fun x => x.1) H i).trans (filter_ne_erase (fun (p : List UInt8 × List UInt8) => p.1) (H.map (fun x => x.1)) i id hk hi).symm
    · rw [map_eraseIdx]; exact h2
  · obtain ⟨w', h1, h2, ho, hs⟩ := hm.del_none keyed_dig Try.underlying75 hl (keys_not hmem) ty
    refine ⟨w', h1, ⟨H, ?_, h2, fun p hp => (h3 p hp).only ho hdd⟩, ho, hs⟩
    unfold dropS
    refine (List.filter_eq_self.2 (fun q hq => ?_)).symm
    rw [bne_iff_ne]
    intro e
    exact hmem (by rw [← e]; exact List.mem_map.2 ⟨q, hq, rfl⟩)
end
end Go.Proofs.Ytnlmeaijnfjakaa.Sh
/- Bytes held against bytes (bytes.Equal): walked. -/
namespace Go.Proofs.Ytnlmeaijnfjakaa.Sh
set_option linter.unusedSimpArgs false
set_option linter.unusedVariables false
open Go Go.RowKit

/-- Bytes as a string. -/
def strB (l : List UInt8) : ByteArray := ⟨l.toArray⟩
theorem strB_inj {l m : List UInt8} (h : strB l = strB m) : l = m := by
  have h1 : l.toArray = m.toArray := congrArg ByteArray.data h
  simpa using h1
set_option maxRecDepth 20000 in
theorem conv_bs (w : World) (v : Value) (l : List UInt8) (hv : Bs w v l) : (convert 27 9 v).run Try.prog w = .ok (.string (strB l)) w := by
  obtain ⟨hl, a, cap, rfl, h1, h2, h3, h4⟩ := hv
  by_cases h0 : l = []
  · subst h0
    rw [show ([] : List UInt8).length = 0 from rfl]
    rw [run_convert_bytes_string w 27 9 5 _ 0 cap Try.underlying27 Try.underlying5 Try.underlying9]
    cases a <;> simp [Conv.bytesToString, loadCells]
    all_goals rfl
  · rcases h4 with h4 | ⟨b, o, rfl, h4⟩
    · exact absurd (by simpa [bytes] using h4) h0
    · have := run_convert_bytes_arg (P := Try.prog) w 27 5 Try.underlying27 Try.underlying5 b o l.length cap (l.map fun x => (x.toNat : Int)) (by simp) (fun i hi => by
        rw [h4 i (vU8 l[i]) (bytes_get hi)]
        simp [List.getD, hi]) 9 Try.underlying9
      rw [this]
      have : strOfNums (l.map fun x => (x.toNat : Int)) = strB l := by
        unfold strOfNums strB
        congr 1
        rw [List.map_map]
        congr 1
        conv => rhs; rw [← List.map_id l]
        refine List.map_congr_left (fun x _ => ?_)
        simp
      rw [this]

theorem strB_toList (l : List UInt8) : (strB l).toList = l := by rw [Lib.toList_data]; simp [strB]

set_option maxRecDepth 20000 in
theorem bequal_any (w : World) (v u : Value) (l m : List UInt8) (hv : Bs w v l) (hu : Bs w u m) :
    Calls Try.prog 68 #[v, u] w fun e w' => e = .returned (.bool (decide (l = m))) ∧ w' = w := by
  have c1 := conv_bs w v l hv
  have c2 := conv_bs w u m hu
  obtain ⟨x, hx⟩ : ∃ x, x = strB l := ⟨_, rfl⟩
  obtain ⟨y, hy⟩ : ∃ y, y = strB m := ⟨_, rfl⟩
  have hxy : Hid (x.toList = y.toList ↔ l = m) := by
    show _ ↔ _
    rw [hx, hy, strB_toList, strB_toList]
  rw [← hx] at c1
  rw [← hy] at c2
  clear hx hy
  go_enter Try.func68, Try.ntmps68
  go_wp2
  go_ret
  refine ⟨?_, rfl⟩
  congr 2
  by_cases h : l = m
  · have h2 := hxy.out.2 h
    simp [h, h2]
  · have h2 : ¬ x.toList = y.toList := fun e => h (hxy.out.1 e)
    simp [h, h2]
end Go.Proofs.Ytnlmeaijnfjakaa.Sh
/- The keyper in memory; keep: walked. -/
namespace Go.Proofs.Ytnlmeaijnfjakaa.Sh
set_option linter.unusedSimpArgs false
set_option linter.unusedVariables false
open Go Go.RowKit

/-- A keyper at k: its log at x (own blocks ls), the map of its shares mb; the bytes of these, and the names of its order, in blocks ss. -/
structure Kp (w : World) (k x mb : Nat) (ls ss : List Nat) (m : Km) (f : List UInt8) (rs : List (List UInt8)) : Prop where
  ty : TyAt w k 77
  c0 : w.cell? ⟨k, 0, none⟩ = some (.pointer (some ⟨x, 0, none⟩))
  c1 : w.cell? ⟨k, 1, none⟩ = some (.map (some mb))
  c2 : ∃ ov, (w.cell? ⟨k, 2, none⟩ = some ov ∧ w.frozen? ⟨k, 2, none⟩ = false) ∧ Dgs w ov m.ids ∧ ∀ i, ov.ownBlock = some i → i ∈ ss ∧ TyAt w i 35
  c3 : w.cell? ⟨k, 3, none⟩ = some (.int .u64 (m.slot : Int)) ∧ w.frozen? ⟨k, 3, none⟩ = false
  c4 : w.cell? ⟨k, 4, none⟩ = some (.bool m.told) ∧ w.frozen? ⟨k, 4, none⟩ = false
  log : Lg w x f [] rs ls
  shs : Shs w ss mb m.sh
  nk : k ∉ ls ∧ k ∉ ss ∧ mb ∉ ls ∧ mb ∉ ss ∧ mb ≠ k
  ns : ∀ i ∈ ss, i ∉ ls

section
variable {w w' : World} {k x mb : Nat} {ls ss : List Nat} {m : Km} {f : List UInt8} {rs : List (List UInt8)}
theorem Kp.only (h : Kp w k x mb ls ss m f rs) {ds : List Nat} (ho : Only ds w w') (hd : ∀ i ∈ ds, i ≠ k ∧ i ≠ mb ∧ i ∉ ls ∧ i ∉ ss) : Kp w' k x mb ls ss m f rs := by
  have hk : k ∉ ds := fun hm => (hd k hm).1 rfl
  have hmb : mb ∉ ds := fun hm => (hd mb hm).2.1 rfl
  obtain ⟨ov, o1, o2, o3⟩ := h.c2
  refine ⟨h.ty.only ho hk, ho.cell h.c0 hk, ho.cell h.c1 hk, ⟨ov, cell_kept ho hk o1, o2.kept ho (fun b hb hm => (hd b hm).2.2.2 (o3 b hb).1), fun i hi => ⟨(o3 i hi).1, (o3 i hi).2.only ho (fun hm => (hd i hm).2.2.2 (o3 i hi).1)⟩⟩, cell_kept ho hk h.c3, cell_kept ho hk h.c4,
    h.log.only ho (fun i hi => (hd i hi).2.2.1), h.shs.only ho hmb (fun i hi => .inl (hd i hi).2.2.2), h.nk, h.ns⟩
theorem Kp.kept0 (h : Kp w k x mb ls ss m f rs) (ho : Only [] w w') : Kp w' k x mb ls ss m f rs := h.only ho (by simp)
/-- More blocks. -/
theorem Kp.more (h : Kp w k x mb ls ss m f rs) {ts : List Nat} (hs : ∀ i ∈ ss, i ∈ ts) (ht : ∀ i ∈ ts, i ∉ ls ∧ i ≠ k ∧ i ≠ mb) : Kp w k x mb ls ts m f rs := by
  obtain ⟨ov, o1, o2, o3⟩ := h.c2
  exact ⟨h.ty, h.c0, h.c1, ⟨ov, o1, o2, fun i hi => ⟨hs i (o3 i hi).1, (o3 i hi).2⟩⟩, h.c3, h.c4, h.log, h.shs.mono hs, ⟨h.nk.1, fun hm => (ht k hm).2.1 rfl, h.nk.2.2.1, fun hm => (ht mb hm).2.2 rfl, h.nk.2.2.2.2⟩, fun i hi => (ht i hi).1⟩
theorem Shs.ty {sh : List (List UInt8 × List UInt8)} {bs : List Nat} (h : Shs w bs mb sh) {t : TypeId} : ¬ TyAt w mb t := by
  obtain ⟨H, _, hm, _⟩ := h
  obtain ⟨arr, clock, hb, _⟩ := hm.blk
  rintro ⟨cur, hc⟩
  rw [hb] at hc
  cases hc
/-- The shares went on. -/
theorem Kp.setShs (h : Kp w k x mb ls ss m f rs) (ho : Only [mb] w w') {sh : List (List UInt8 × List UInt8)} (hs : Shs w' ss mb sh) : Kp w' k x mb ls ss { m with sh := sh } f rs := by
  have hk : k ∉ [mb] := by simpa using Ne.symm h.nk.2.2.2.2
  obtain ⟨ov, o1, o2, o3⟩ := h.c2
  refine ⟨h.ty.only ho hk, ho.cell h.c0 hk, ho.cell h.c1 hk, ⟨ov, cell_kept ho hk o1, o2.kept ho (fun b hb hm => h.nk.2.2.2.1 (by rw [← List.mem_singleton.1 hm]; exact (o3 b hb).1)), fun i hi => ⟨(o3 i hi).1, (o3 i hi).2.only ho (fun hm => h.nk.2.2.2.1 (by rw [← List.mem_singleton.1 hm]; exact (o3 i hi).1))⟩⟩, cell_kept ho hk h.c3, cell_kept ho hk h.c4,
    h.log.only ho (fun i hi => by rw [List.mem_singleton.1 hi]; exact h.nk.2.2.1), hs, h.nk, h.ns⟩
end

def KeepPost (w : World) (k x mb : Nat) (ls ss : List Nat) (f : List UInt8) (rs : List (List UInt8)) (r : Nat × Km) (e : Ending) (w' : World) : Prop :=
  e = .returned (.int .i64 (r.1 : Int)) ∧ Kp w' k x mb ls (ss ++ newBs w w') r.2 f rs ∧ Only [mb] w w'

theorem Kp.lt {w : World} {k x mb : Nat} {ls ss : List Nat} {m : Km} {f : List UInt8} {rs : List (List UInt8)} (h : Kp w k x mb ls ss m f rs) : k < w.heap.size ∧ mb < w.heap.size := ⟨h.ty.lt, h.shs.lt⟩
theorem Kp.grow {w w' : World} {k x mb : Nat} {ls ss : List Nat} {m : Km} {f : List UInt8} {rs : List (List UInt8)} {w0 : World} (h : Kp w k x mb ls ss m f rs) (h0 : Kp w0 k x mb ls ss m f rs) (hl : ∀ i ∈ ls, i < w0.heap.size) : Kp w k x mb ls (ss ++ newBs w0 w') m f rs := by
  refine h.more (fun i hi => List.mem_append_left _ hi) (fun i hi => ?_)
  rcases List.mem_append.1 hi with hi | hi
  · exact ⟨h.ns i hi, fun e => h.nk.2.1 (by rw [← e]; exact hi), fun e => h.nk.2.2.2.1 (by rw [← e]; exact hi)⟩
  · have h1 := (mem_newBs.1 hi).1
    have h2 := h0.lt
    exact ⟨fun hm => by have := hl i hm; omega, by omega, by omega⟩

set_option maxRecDepth 20000 in
set_option maxHeartbeats 3200000 in
theorem keep_any (w : World) (k x mb : Nat) (ls ss : List Nat) (m : Km) (f : List UInt8) (rs : List (List UInt8)) (h : Kp w k x mb ls ss m f rs) (hl : ∀ i ∈ ls, i < w.heap.size) (hi : KInv m) (d : List UInt8) (hd : d.length = 32) (sv : Value) (s : List UInt8) (hs : Bs w sv s) (hsl : s.length ≤ 100000) :
    Calls Try.prog 32 #[.pointer (some ⟨k, 0, none⟩), vD d, sv] w (KeepPost w k x mb ls ss f rs (keepK m d s)) := by
  obtain ⟨sa, sc, rfl⟩ := bs_form hs
  have hD := Dv.boxed w d hd 35
  obtain ⟨w1, hw1⟩ : ∃ w1, w1 = w.alloc (Obj.cells (bytes d).toArray 35) := ⟨_, rfl⟩
  have o1 : Only [] w w1 := by rw [hw1]; exact (Only.refl [] w).alloc _
  rw [← hw1] at hD
  obtain ⟨g, hg⟩ : ∃ g, g = w.heap.size := ⟨_, rfl⟩
  rw [← hg] at hD
  have hgl : g < w1.heap.size := by rw [hg, hw1]; simp
  have HG := hid hg
  have od : Only [] w1 w1.drew := (Only.refl [] w1).drew
  have h1 := (h.kept0 o1).kept0 od
  have hs1 := (hs.kept0 o1).kept0 od
  have hrg := hD.range
  have hu := Try.underlying35
  have hin : (Try.prog.info? 35).map (·.size) = some (bytes d).length := by rw [dig_info]; simp [bytes, hd]
  have k1 := (h.kept0 o1).c1
  have hsame : Hid (∀ r : Nat × Km, r.2 = m → ∀ e : Ending, e = .returned (.int .i64 (r.1 : Int)) → KeepPost w k x mb ls ss f rs r e w1.drew) := by
    rintro ⟨c, m'⟩ rfl e rfl
    exact ⟨rfl, h1.grow h hl, (o1.trans0 od).mono (by simp)⟩
  have HI := hid hi
  have HD := hid hd
  rw [show vD d = .agg (bytes d).toArray from rfl]
  unfold keepK
  cases hgs : getS m.sh d with
  | none =>
    have lk := hid (fun W (hW : Only [] w1 W) => (show (Instr.lookup 75 (.map (some mb)) (.agg (bytes d).toArray) true).run Try.prog W = .ok (.tuple #[.slice none 0 0, .bool false]) W from ((h.kept0 o1).shs.kept0 hW).look_none hd hgs true))
    by_cases hbad : s.length < 1 ∨ 32 < s.length
    · rw [if_pos hbad]
      have hpost := hid (hsame.out (1, m) rfl _ rfl)
      clear hgs hd hi
      by_cases h01 : s.length < 1
      all_goals
        first
          | (have hq : s.length < 1 := h01
             clear hbad)
          | (have hq : 32 < s.length := by omega
             clear hbad)
        go_enter Try.func32, Try.ntmps32
        go_wp2_with fail
        rw [← hw1, ← hg]
        clear hw1 hg
        go_region_held3 (fun W => W.cell? ⟨k, 1, none⟩ = some (.map (some mb)) ∧ W.rangeAt g 0 (bytes d) ∧ (Instr.lookup 75 (.map (some mb)) (.agg (bytes d).toArray) true).run Try.prog W = .ok (.tuple #[.slice none 0 0, .bool false]) W) (exact ⟨k1, hrg, lk.out _ od⟩) (fail)
        go_wp2
        go_ret
        exact hpost
    · rw [if_neg hbad]
      have hs1' : 1 ≤ s.length := by omega
      have hs32 : s.length ≤ 32 := by omega
      have hlen := fun ty => h1.shs.len ty
      obtain ⟨N, hN⟩ : ∃ N, N = m.sh.length := ⟨_, rfl⟩
      rw [← hN] at hlen
      rw [← hN]
      have hNf : N ≤ 32 := by rw [hN]; exact hi.few
      have HN := hid hN
      have HGS := hid hgs
      simp only
      clear hgs hd hi hbad hN
      by_cases hfull : 32 ≤ N
      · rw [if_pos hfull]
        have hpost := hid (hsame.out (6, m) rfl _ rfl)
        go_enter Try.func32, Try.ntmps32
        go_wp2_with fail
        rw [← hw1, ← hg]
        clear hw1 hg
        go_region_held3 (fun W => W.cell? ⟨k, 1, none⟩ = some (.map (some mb)) ∧ W.rangeAt g 0 (bytes d) ∧ (Instr.lookup 75 (.map (some mb)) (.agg (bytes d).toArray) true).run Try.prog W = .ok (.tuple #[.slice none 0 0, .bool false]) W) (exact ⟨k1, hrg, lk.out _ od⟩) (fail)
        have k1' := od.cell k1 (by simp)
        go_wp2
        go_ret
        exact hpost
      · rw [if_neg hfull]
        have odd : Only [] w1 w1.drew.drew := od.drew
        have cl := hid (clone_any _ s w1.drew.drew (hs1.kept0 (Only.refl [] _).drew) (by omega))
        have hput := hid (fun W v (hW : Only [] w1 W) (hF : Fresh w1.drew.drew W v s) => (show ∃ W', (Instr.mapUpdate 75 (.map (some mb)) (.agg (bytes d).toArray) v).run Try.prog W = .ok () W' ∧ KeepPost w k x mb ls ss f rs (0, { m with sh := m.sh ++ [(d, s)] }) (.returned (.int .i64 0)) W' ∧ Only [mb] W W' by
          have hk := (h.kept0 o1).kept0 hW
          have howW := o1.trans0 hW
          have hk2 : Kp W k x mb ls (ss ++ newBs w W) m f rs := hk.grow h hl
          have hy : Yb W (ss ++ newBs w W) v s := Yb.own hF (by omega) (fun j hj1 hj2 => List.mem_append_right _ (mem_newBs.2 ⟨by have := o1.size; simp at hj1; omega, hj2⟩))
          obtain ⟨W', hr, hS, hO, hz⟩ := hk2.shs.put HD.out HGS.out hy hk2.shs.ty
          refine ⟨W', hr, ⟨rfl, ?_, howW.trans hO (by simp) (by simp)⟩, hO⟩
          have hnb : newBs w W' = newBs w W := by unfold newBs; rw [hz]
          rw [hnb]
          exact hk2.setShs hO hS))
        clear hsame
        go_enter Try.func32, Try.ntmps32
        go_wp2_with fail
        rw [← hw1, ← hg]
        clear hw1 hg
        go_region_held3 (fun W => W.cell? ⟨k, 1, none⟩ = some (.map (some mb)) ∧ W.rangeAt g 0 (bytes d) ∧ (Instr.lookup 75 (.map (some mb)) (.agg (bytes d).toArray) true).run Try.prog W = .ok (.tuple #[.slice none 0 0, .bool false]) W) (exact ⟨k1, hrg, lk.out _ od⟩) (fail)
        have k1' := od.cell k1 (by simp)
        have HLK := lk
        clear lk
        go_wp2_with fail
        have k2 := odd.cell k1 (by simp)
        have rg : ∀ W, Only [] w1 W → W.rangeAt g 0 (bytes d) := fun W hW j u hj => hW.cell (hrg j u hj) (by simp)
        replace rg := hid rg
        have hmbg : mb ≠ g := by have := h.lt.2; have := HG.out; omega
        have hmbk : k ≠ mb := Ne.symm h.nk.2.2.2.2
        go_region_held3 (fun W => W.cell? ⟨k, 1, none⟩ = some (.map (some mb)) ∧ W.rangeAt g 0 (bytes d)) (first | exact ⟨k2, rg.out _ odd⟩ | exact ⟨p2.cell k1 (by simp), rg.out _ p2⟩ | exact ⟨hO3.cell (p2.cell k1 (by simp)) (by simpa using hmbk), fun j u hj => hO3.cell (rg.out _ p2 j u hj) (by simpa using Ne.symm hmbg)⟩)
          (first
          | (go_at_call 39; refine cl.out.mono ?_; rintro e w2 ⟨v2, rfl, hF2, q2⟩; have p2 : Only [] w1 w2 := odd.trans0 q2; obtain ⟨va, vc, rfl⟩ := own_form hF2; have hp3 := hput.out _ _ p2 hF2; obtain ⟨w3, hr3, hP3, hO3⟩ := hp3; replace hP3 := hid hP3))
        clear hput hr3 hO3
        go_wp2
        go_ret
        exact hP3.out
  | some t =>
    obtain ⟨v, hY, hlk⟩ := (h.kept0 o1).shs.look_some hi.keys hd hgs
    obtain ⟨va, vc, rfl⟩ := bs_form hY.1
    have lk := hid (fun W (hW : Only [] w1 W) => (show (Instr.lookup 75 (.map (some mb)) (.agg (bytes d).toArray) true).run Try.prog W = .ok (.tuple #[.slice va t.length vc, .bool true]) W from hlk W hW true))
    have beq := bequal_any w1.drew _ _ t s (hY.1.kept0 od) hs1
    obtain ⟨tl, htl⟩ : ∃ tl, tl = t.length := ⟨_, rfl⟩
    rw [← htl] at lk beq
    have hsm := hid (hsame.out (1, m) rfl _ rfl)
    have hs8 := hid (hsame.out (8, m) rfl _ rfl)
    have hs16 := hid (hsame.out (16, m) rfl _ rfl)
    clear hlk hY htl hsame hgs hd hi
    by_cases hbad : s.length < 1 ∨ 32 < s.length
    · rw [if_pos hbad]
      clear beq
      by_cases h01 : s.length < 1
      all_goals
        first
          | (have hq : s.length < 1 := h01
             clear hbad)
          | (have hq : 32 < s.length := by omega
             clear hbad)
        go_enter Try.func32, Try.ntmps32
        go_wp2_with fail
        rw [← hw1, ← hg]
        clear hw1 hg
        go_region_held3 (fun W => W.cell? ⟨k, 1, none⟩ = some (.map (some mb)) ∧ W.rangeAt g 0 (bytes d) ∧ (Instr.lookup 75 (.map (some mb)) (.agg (bytes d).toArray) true).run Try.prog W = .ok (.tuple #[.slice va tl vc, .bool true]) W) (exact ⟨k1, hrg, lk.out _ od⟩) (fail)
        go_wp2
        go_ret
        exact hsm
    · rw [if_neg hbad]
      have hs1' : 1 ≤ s.length := by omega
      have hs32 : s.length ≤ 32 := by omega
      simp only
      clear hbad hsm
      by_cases hts : t = s
      all_goals
        first
          | (rw [if_pos hts]; rw [decide_eq_true hts] at beq; have hpost := hs8)
          | (rw [if_neg hts]; rw [decide_eq_false hts] at beq; have hpost := hs16)
        replace beq := hid beq
        clear hts hs8 hs16
        go_enter Try.func32, Try.ntmps32
        go_wp2_with fail
        rw [← hw1, ← hg]
        clear hw1 hg
        go_region_held3 (fun W => W.cell? ⟨k, 1, none⟩ = some (.map (some mb)) ∧ W.rangeAt g 0 (bytes d) ∧ (Instr.lookup 75 (.map (some mb)) (.agg (bytes d).toArray) true).run Try.prog W = .ok (.tuple #[.slice va tl vc, .bool true]) W) (exact ⟨k1, hrg, lk.out _ od⟩) (fail)
        go_wp2_with fail
        refine beq.out.mono ?_
        rintro e w' ⟨rfl, rfl⟩
        go_wp2
        go_ret
        exact hpost
end Go.Proofs.Ytnlmeaijnfjakaa.Sh
/- The keyper: forget: walked. -/
namespace Go.Proofs.Ytnlmeaijnfjakaa.Sh
set_option linter.unusedSimpArgs false
set_option linter.unusedVariables false
open Go Go.RowKit

theorem step_del {P : Program} {ops : Array Oper} {o : Oper} {a : Act} {K : Act → World → Prop} {Q : Exit → Act → World → Prop} {E : Prop} {w w' : World} (hgd : o.guard = none) (m x : Operand) (t k : TypeId)
    (ho : o.op = .call { callee := .builtin .delete, args := #[m, x], argTypes := #[t, k] }) {mv xv : Value} (hm : a.eval m = mv) (hx : a.eval x = xv) (hr : (Builtin.delete_ #[t, k] o.type #[mv, xv]).run P w = .ok (.tuple #[]) w')
    (h : K (a.put o.dst (.tuple #[])) w') : if Region.wanted o (yielded ops a.tmps) = true then Oper.wp P o a w K Q else E := by
  have hw : Region.wanted o (yielded ops a.tmps) = true := by simp [Region.wanted, hgd]
  rw [if_pos hw]
  unfold Oper.wp execOp
  simp only [ho, resolve, invoke, builtin, Sem.run_bind, Sem.run_pure, Result.andThen_ok, List.map_toArray, List.map_cons, List.map_nil, hm, hx, hr]
  exact h

theorem Shs.cell {w : World} {bs : List Nat} {mb : Nat} {sh : List (List UInt8 × List UInt8)} (h : Shs w bs mb sh) {b o : Nat} {v : Value} (hc : w.cell? ⟨b, o, none⟩ = some v) : b ≠ mb := by
  obtain ⟨H, _, hm, _⟩ := h
  obtain ⟨arr, clock, hb, _⟩ := hm.blk
  rintro rfl
  simp [World.cell?, hb] at hc
theorem Dgs.map {w w' : World} {bs : List Nat} {mb : Nat} {sh : List (List UInt8 × List UInt8)} (hs : Shs w bs mb sh) {v : Value} {l : List (List UInt8)} (h : Dgs w v l) (ho : Only [mb] w w') : Dgs w' v l := by
  obtain ⟨⟨hl, a, cap, rfl, h1, h2, h3, h4⟩, h5⟩ := h
  refine ⟨⟨hl, a, cap, rfl, h1, h2, h3, h4.imp (fun h => h) (fun ⟨b, o, e, h⟩ => ⟨b, o, e, fun j u hu => ho.cell (h j u hu) ?_⟩)⟩, h5⟩
  have := hs.cell (h j u hu)
  simpa using this
theorem forgetS_next (sh : List (List UInt8 × List UInt8)) (ids : List (List UInt8)) (k : Nat) (hk : k < ids.length) : forgetS sh (ids.take (k + 1)) = dropS (forgetS sh (ids.take k)) ids[k] := by
  unfold forgetS
  rw [List.take_succ_eq_append_getElem hk, List.foldl_append]
  rfl

def ForgetPost (w : World) (k x mb : Nat) (ls ss : List Nat) (f : List UInt8) (rs : List (List UInt8)) (r : Nat × Km) (e : Ending) (w' : World) : Prop :=
  e = .returned (.int .i64 (r.1 : Int)) ∧ Kp w' k x mb ls ss r.2 f rs ∧ Only [mb] w w'

set_option maxRecDepth 20000 in
set_option maxHeartbeats 3200000 in
theorem forget_any (w : World) (k x mb : Nat) (ls ss : List Nat) (m : Km) (f : List UInt8) (rs : List (List UInt8)) (h : Kp w k x mb ls ss m f rs) (hi : KInv m) (v : Value) (ids : List (List UInt8)) (hv : Dgs w v ids) :
    Calls Try.prog 40 #[.pointer (some ⟨k, 0, none⟩), v] w (ForgetPost w k x mb ls ss f rs (forgetK m ids)) := by
  obtain ⟨a, cap, rfl, h1, h2, h3⟩ := hv.form
  have k1 := h.c1
  have hlen := fun ty => h.shs.len ty
  obtain ⟨N, hN⟩ : ∃ N, N = m.sh.length := ⟨_, rfl⟩
  rw [← hN] at hlen
  have hN32 : N ≤ 32 := by rw [hN]; exact hi.few
  have HN := hid hN
  have HI := hid hi
  have hu := Try.underlying35
  have hmbk : k ≠ mb := Ne.symm h.nk.2.2.2.2
  clear hN hi
  go_enter Try.func40, Try.ntmps40
  go_wp2_with fail
  go_loopw [15] (fun i wr => ∃ j : Nat, j ≤ ids.length ∧ i = .int .i64 j ∧ Hid (Kp wr k x mb ls ss { m with sh := forgetS m.sh (ids.take j) } f rs) ∧ Only [mb] w wr) (fun i _ => ids.length - (intOf i).toNat)
  case atStart => exact ⟨0, Nat.zero_le _, rfl, hid h, Only.refl _ _⟩
  case round =>
    obtain ⟨j, hj, rfl, hK, ho⟩ := hrel
    have kr := ho.cell k1 (by simpa using hmbk)
    by_cases hlt : j < ids.length
    · obtain ⟨b, o, rfl, hr⟩ := (hv.map h.shs ho).at j hlt
      have hl32 := hv.2 ids[j] (List.getElem_mem hlt)
      have hnx := forgetS_next m.sh ids j hlt
      obtain ⟨d, hd⟩ : ∃ d, d = ids[j] := ⟨_, rfl⟩
      rw [← hd] at hr hl32 hnx
      have hin : (Try.prog.info? 35).map (·.size) = some (bytes d).length := by rw [dig_info]; simp [bytes, hl32]
      have HNX := hid hnx
      clear hnx hd
      have oz : Only [] wr (wr.alloc (Obj.cells Z32 35)) := (Only.refl [] wr).alloc _
      have hth := (Dv.fresh wr 35).there
      go_wp2_with (first
        | (refine wpList_load_mid (by rfl) 35 _ (by rfl) b (o + j * 32) (by rfl) _ _ hr hu rfl hin ?_)
        | (refine wpList_alloc_run (by rfl) 35 (by rfl) (alloc_dig _) ?_)
        | (refine wpList_store_dig (by rfl) _ _ (by rfl) wr.heap.size d (bytes d).toArray (by rfl) (by rfl) rfl hl32 hth ?_; intro w2 hD2 q2))
      simp only [Act.put, List.setIfInBounds_toArray, List.set_cons_zero, List.set_cons_succ]
      have q3 : Only [] wr w2 := oz.trans q2 (by simp) (fun y hy => .inr (by rw [List.mem_singleton.1 hy]; exact Nat.le_refl _))
      have od : Only [] wr w2.drew := q3.drew
      have hK2 := hK.out.kept0 od
      obtain ⟨w3, hr3, hS3, hO3, hz3⟩ := hK2.shs.del (sub_inv HI.out (forgetS_sub (ids.take j) m.sh)).keys hl32 hK2.shs.ty 0
      rw [← HNX.out] at hS3
      have hK3 := hid (hK2.setShs hO3 hS3)
      have ho3 : Only [mb] w w3 := (ho.trans od (ds := [mb]) (by simp) (by simp)).trans hO3 (by simp) (by simp)
      have kd := od.cell kr (by simp)
      have hrd : w2.drew.rangeAt wr.heap.size 0 (bytes d) := hD2.range
      have hgm : wr.heap.size ≠ mb := by have := hK.out.lt.2; omega
      have hr3' : (Builtin.delete_ #[75, 35] 0 #[.map (some mb), .agg (bytes d).toArray]).run Try.prog w2.drew = .ok (.tuple #[]) w3 := hr3
      replace hr3' := hid hr3'
      clear hr3 hS3 hK2 hK hr hth hD2 q2
      go_region_held3 (fun W => W.cell? ⟨k, 1, none⟩ = some (.map (some mb)) ∧ W.rangeAt wr.heap.size 0 (bytes d)) (first | exact ⟨kd, hrd⟩ | exact ⟨hO3.cell kd (by simpa using hmbk), fun j u hj => hO3.cell (hrd j u hj) (by simpa using hgm)⟩)
        ((refine step_del (by rfl) _ _ 75 35 (by rfl) (by rfl) (by rfl) hr3'.out ?_))
      go_wp2
      go_roundw
      case rel => exact ⟨j + 1, by omega, by go_num, hK3, ho3⟩
      case measure => simp [intOf]; omega
    · obtain rfl : j = ids.length := by omega
      rw [List.take_length] at hK
      have hlen2 := fun ty => hK.out.shs.len ty
      have hle : (forgetS m.sh ids).length ≤ N := by rw [HN.out]; exact (forgetS_sub ids m.sh).length_le
      obtain ⟨M, hM⟩ : ∃ M, M = (forgetS m.sh ids).length := ⟨_, rfl⟩
      simp only at hlen2
      rw [← hM] at hlen2 hle
      have hpost := hid (show ForgetPost w k x mb ls ss f rs (forgetK m ids) (.returned (.int .i64 ((N - M : Nat) : Int))) wr from ⟨by unfold forgetK; rw [HN.out, hM], hK.out, ho⟩)
      have hsub : IntKind.i64.wrap ((N : Int) - (M : Int)) = ((N - M : Nat) : Int) := by rw [IntKind.wrap_i64]; omega
      clear hM hK
      go_wp2
      go_ret
      exact hpost.out
end Go.Proofs.Ytnlmeaijnfjakaa.Sh
