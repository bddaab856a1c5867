/- Texts of this proof, merged: KqC. -/
import Derived.Test.YtnlmeaijnfjakaaZ7
/- Two keypers that were told shares of the same lengths: plain. -/
namespace Go.Proofs.Ytnlmeaijnfjakaa.Sh
set_option linter.unusedSimpArgs false
set_option linter.unusedVariables false
open Go Go.RowKit

/-- A share, but for what is in it. -/
def shapeS (sh : List (List UInt8 × List UInt8)) : List (List UInt8 × Nat) := sh.map (fun p => (p.1, p.2.length))
structure Like (m m' : Km) : Prop where
  sh : shapeS m.sh = shapeS m'.sh
  slot : m.slot = m'.slot
  ids : m.ids = m'.ids
  told : m.told = m'.told
theorem shape_keys {sh sh' : List (List UInt8 × List UInt8)} (h : shapeS sh = shapeS sh') : sh.map (·.1) = sh'.map (·.1) := by
  have := congrArg (fun l => l.map (·.1)) h
  simpa [shapeS, List.map_map, Function.comp_def] using this
theorem shape_len {sh sh' : List (List UInt8 × List UInt8)} (h : shapeS sh = shapeS sh') : sh.length = sh'.length := by
  have := congrArg List.length h
  simpa [shapeS] using this
theorem shape_get : ∀ {sh sh' : List (List UInt8 × List UInt8)}, shapeS sh = shapeS sh' → ∀ d, (getS sh d).map List.length = (getS sh' d).map List.length
  | [], [], _, d => rfl
  | [], _ :: _, h, d => by simp [shapeS] at h
  | _ :: _, [], h, d => by simp [shapeS] at h
  | p :: sh, q :: sh', h, d => by
    simp only [shapeS, List.map_cons, List.cons.injEq, Prod.mk.injEq] at h
    have ih := shape_get (sh := sh) (sh' := sh') h.2 d
    unfold getS at ih ⊢
    rw [List.find?_cons, List.find?_cons, ← h.1.1]
    by_cases hb : (p.1 == d) = true
    · rw [hb]
      simp [h.1.2]
    · rw [show (p.1 == d) = false by simpa using hb]
      exact ih
theorem shape_drop : ∀ {sh sh' : List (List UInt8 × List UInt8)}, shapeS sh = shapeS sh' → ∀ d, shapeS (dropS sh d) = shapeS (dropS sh' d)
  | [], [], _, d => rfl
  | [], _ :: _, h, d => by simp [shapeS] at h
  | _ :: _, [], h, d => by simp [shapeS] at h
  | p :: sh, q :: sh', h, d => by
    simp only [shapeS, List.map_cons, List.cons.injEq, Prod.mk.injEq] at h
    have ih := shape_drop (sh := sh) (sh' := sh') h.2 d
    unfold dropS at ih ⊢
    rw [List.filter_cons, List.filter_cons, ← h.1.1]
    by_cases hb : (p.1 != d) = true
    · rw [if_pos hb, if_pos hb]
      unfold shapeS at ih ⊢
      rw [List.map_cons, List.map_cons, ih, h.1.1, h.1.2]
    · rw [if_neg hb, if_neg hb]
      exact ih
theorem shape_forget (ids : List (List UInt8)) : ∀ {sh sh' : List (List UInt8 × List UInt8)}, shapeS sh = shapeS sh' → shapeS (forgetS sh ids) = shapeS (forgetS sh' ids) := by
  induction ids with
  | nil => intro sh sh' h; exact h
  | cons d ids ih => intro sh sh' h; exact ih (shape_drop h d)
theorem Like.keep {m m' : Km} (h : Like m m') (d s t : List UInt8) (hl : s.length = t.length) (hn : getS m.sh d = none) : (keepK m d s).1 = (keepK m' d t).1 ∧ Like (keepK m d s).2 (keepK m' d t).2 := by
  have hn' : getS m'.sh d = none := by
    have := shape_get h.sh d
    rw [hn] at this
    simpa using this.symm
  unfold keepK
  rw [hl]
  by_cases h1 : t.length < 1 ∨ 32 < t.length
  · rw [if_pos h1, if_pos h1]; exact ⟨rfl, h⟩
  · rw [if_neg h1, if_neg h1, hn, hn']
    simp only
    rw [shape_len h.sh]
    split
    · exact ⟨rfl, h⟩
    · refine ⟨rfl, ?_, h.slot, h.ids, h.told⟩
      have := h.sh
      unfold shapeS at this ⊢
      simp only [List.map_append, this, List.map_cons, List.map_nil, hl]
theorem Like.commit {m m' : Km} (h : Like m m') (slot : Nat) (ids : List (List UInt8)) : (commitK m slot ids).1 = (commitK m' slot ids).1 ∧ Like (commitK m slot ids).2 (commitK m' slot ids).2 := by
  unfold commitK
  rw [h.slot, h.ids, h.told]
  split
  · exact ⟨rfl, h⟩
  · split
    · exact ⟨rfl, h⟩
    · split
      · split <;> exact ⟨rfl, h⟩
      · exact ⟨rfl, h.sh, rfl, rfl, rfl⟩
theorem Like.forget {m m' : Km} (h : Like m m') (ids : List (List UInt8)) : (forgetK m ids).1 = (forgetK m' ids).1 ∧ Like (forgetK m ids).2 (forgetK m' ids).2 := by
  unfold forgetK
  have h1 := shape_forget ids h.sh
  exact ⟨by simp only [shape_len h.sh, shape_len h1], h1, h.slot, h.ids, h.told⟩

/-- Records of the same lengths. -/
def LenL (rs rs' : List (List UInt8)) : Prop := rs.map List.length = rs'.map List.length
theorem lenL_flat : ∀ {rs rs' : List (List UInt8)}, LenL rs rs' → (flatL rs).length = (flatL rs').length
  | [], [], _ => rfl
  | [], _ :: _, h => by simp [LenL] at h
  | _ :: _, [], h => by simp [LenL] at h
  | r :: rs, r' :: rs', h => by
    simp only [LenL, List.map_cons, List.cons.injEq] at h
    rw [flatL_cons, flatL_cons, List.length_append, List.length_append, frameL_length, frameL_length, lenL_flat (rs := rs) (rs' := rs') h.2, h.1]
theorem LenL.snoc {rs rs' : List (List UInt8)} (h : LenL rs rs') {b b' : List UInt8} (hb : b.length = b'.length) : LenL (rs ++ [b]) (rs' ++ [b']) := by
  unfold LenL at h ⊢
  rw [List.map_append, List.map_append, h]
  simp [hb]

/-- Two keypers' records, alike. -/
structure Blind (rs rs' : List (List UInt8)) : Prop where
  like : Like (openK rs) (openK rs')
  len : LenL rs rs'
theorem blind_nil : Blind [] [] := ⟨⟨rfl, rfl, rfl, rfl⟩, rfl⟩
theorem Blind.keep {rs rs' : List (List UInt8)} (h : Blind rs rs') (d s t : List UInt8) (hd : d.length = 32) (hl : s.length = t.length) (hn : getS (openK rs).sh d = none) :
    (keepK (openK rs) d s).1 = (keepK (openK rs') d t).1 ∧ Blind (keepR rs d s) (keepR rs' d t) := by
  obtain ⟨h1, h2⟩ := h.like.keep d s t hl hn
  refine ⟨h1, ⟨by rw [openK_keepR _ _ _ hd, openK_keepR _ _ _ hd]; exact h2, ?_⟩⟩
  unfold keepR
  rw [← h1]
  split
  · refine h.len.snoc ?_
    simp [rec1, textB, hl]
  · exact h.len
theorem outL_len {sh sh' : List (List UInt8 × List UInt8)} (h : shapeS sh = shapeS sh') (ids : List (List UInt8)) : LenL (outL sh ids) (outL sh' ids) := by
  unfold LenL outL
  rw [List.map_map, List.map_map]
  refine List.map_congr_left (fun d _ => ?_)
  have := shape_get h d
  simp only [Function.comp_apply]
  cases h1 : getS sh d <;> cases h2 : getS sh' d <;> simp_all
theorem Blind.commit {rs rs' : List (List UInt8)} (h : Blind rs rs') (slot : Nat) (hs : slot < 18446744073709551616) (ids : List (List UInt8)) (hd : ∀ d ∈ ids, d.length = 32) :
    (commitK (openK rs) slot ids).1 = (commitK (openK rs') slot ids).1 ∧ Blind (mcommitR rs slot ids) (mcommitR rs' slot ids) ∧ LenL (mcommitL rs slot ids) (mcommitL rs' slot ids) := by
  obtain ⟨h1, h2⟩ := h.like.commit slot ids
  refine ⟨h1, ⟨by rw [openK_commitR _ _ _ hs hd, openK_commitR _ _ _ hs hd]; exact h2, ?_⟩, ?_⟩
  · unfold mcommitR
    rw [← h1]
    split
    · exact h.len.snoc rfl
    · exact h.len
  · unfold mcommitL
    rw [← h1]
    split
    · exact outL_len h.like.sh ids
    · rfl
theorem Blind.forget {rs rs' : List (List UInt8)} (h : Blind rs rs') (ids : List (List UInt8)) (hd : ∀ d ∈ ids, d.length = 32) : (mforgetE rs ids).1 = (mforgetE rs' ids).1 ∧ Blind (mforgetE rs ids).2 (mforgetE rs' ids).2 := by
  obtain ⟨h1, h2⟩ := h.like.forget ids
  unfold mforgetE
  by_cases h24 : 24 < ids.length
  · rw [if_pos h24, if_pos h24]
    exact ⟨rfl, h⟩
  · rw [if_neg h24, if_neg h24]
    simp only
    rw [h1]
    refine ⟨rfl, ?_⟩
    split
    · exact h
    · refine ⟨by rw [openK_snoc, openK_snoc, redo_rec3 _ _ hd (by omega), redo_rec3 _ _ hd (by omega)]; exact h2, h.len.snoc rfl⟩
end Go.Proofs.Ytnlmeaijnfjakaa.Sh
