/- The document's log in memory: what it is, what it keeps. (Printed by gen_rjouc.py.) -/
import Derived.Test.YtlcfmocojakhpaaRJouB
import Derived.Test.YtlcfmocojakhpaaRefC
namespace Go.Proofs.Ytlcfmocojakhpaa.Sh
open Go Go.RowKit

/-- A journal's log at x: its disk's bytes, its records, the blocks that are its own. -/
def RLg (w : World) (x : Nat) (f l : List UInt8) (rs : List (List UInt8)) (bs : List Nat) : Prop :=
  TyAt w x 50 ∧ x ∈ bs ∧ ∃ fv lv rv vs, (w.cell? ⟨x, 0, none⟩ = some fv ∧ w.frozen? ⟨x, 0, none⟩ = false) ∧ (w.cell? ⟨x, 1, none⟩ = some lv ∧ w.frozen? ⟨x, 1, none⟩ = false) ∧ (w.cell? ⟨x, 2, none⟩ = some rv ∧ w.frozen? ⟨x, 2, none⟩ = false) ∧
    Yb w bs fv f ∧ Yb w bs lv l ∧ w.ownsRow 0 22 1 rv rs.length vs ∧ (∀ k, rv.ownBlock = some k → k ∈ bs) ∧ All2 (Yb w bs) vs rs

theorem RLg.only {w w' : World} {x : Nat} {f l : List UInt8} {rs : List (List UInt8)} {bs ds : List Nat} (h : RLg w x f l rs bs) (ho : Only ds w w') (hd : ∀ k ∈ ds, k ∉ bs) : RLg w' x f l rs bs := by
  obtain ⟨ht, hx, fv, lv, rv, vs, c0, c1, c2, h1, h2, h3, h4, h5⟩ := h
  have hxd : x ∉ ds := fun hm => hd x hm hx
  have hd' : ∀ k ∈ ds, k ∉ bs ∨ ¬ TyAt w k 5 := fun k hk => .inl (hd k hk)
  exact ⟨ht.only ho hxd, hx, fv, lv, rv, vs, cell_kept ho hxd c0, cell_kept ho hxd c1, cell_kept ho hxd c2, h1.only ho hd', h2.only ho hd', own_only h3 ho (fun k hk hm => hd k hm (h4 k hk)), h4, h5.imp fun _ _ k => k.only ho hd'⟩

theorem RLg.kept0 {w w' : World} {x : Nat} {f l : List UInt8} {rs : List (List UInt8)} {bs : List Nat} (h : RLg w x f l rs bs) (ho : Only [] w w') : RLg w' x f l rs bs := h.only ho (by simp)

theorem RLg.mono {w : World} {x : Nat} {f l : List UInt8} {rs : List (List UInt8)} {bs ds : List Nat} (h : RLg w x f l rs bs) (hs : ∀ k ∈ bs, k ∈ ds) : RLg w x f l rs ds := by
  obtain ⟨ht, hx, fv, lv, rv, vs, c0, c1, c2, h1, h2, h3, h4, h5⟩ := h
  exact ⟨ht, hs x hx, fv, lv, rv, vs, c0, c1, c2, h1.mono hs, h2.mono hs, h3, fun k hk => hs k (h4 k hk), h5.imp fun _ _ k => k.mono hs⟩

theorem RLg.setDisk {w : World} {x : Nat} {f l f' l' : List UInt8} {rs : List (List UInt8)} {bs : List Nat} {fv' lv' : Value} (h : RLg w x f l rs bs) (hf : Yb w bs fv' f') (hl : Yb w bs lv' l') :
    RLg ((w.setCell ⟨x, 0, none⟩ fv').setCell ⟨x, 1, none⟩ lv') x f' l' rs bs := by
  obtain ⟨ht, hx, fv, lv, rv, vs, c0, c1, c2, h1, h2, h3, h4, h5⟩ := h
  have hO : Only [x] w ((w.setCell ⟨x, 0, none⟩ fv').setCell ⟨x, 1, none⟩ lv') := ((Only.refl _ w).setCell (.inl (by simp)) _).setCell (.inl (by simp)) _
  have hd : ∀ k ∈ [x], k ∉ bs ∨ ¬ TyAt w k 5 := by
    intro k hk
    obtain rfl : k = x := by simpa using hk
    exact .inr (fun h => absurd (h.uniq ht) (by decide))
  refine ⟨(ht.setCell _ _).setCell _ _, hx, fv', lv', rv, vs, ?_, ?_, ?_, hf.only hO hd, hl.only hO hd, own_only h3 hO (fun k hk hm => ?_), h4, h5.imp fun _ _ k => k.only hO hd⟩
  · exact set_cell _ (set_cell _ c0 c1 (by simp)) (same_cell c0) (by simp)
  · exact same_cell (set_cell _ c0 c1 (by simp))
  · exact set_cell _ (set_cell _ c0 c1 (by simp)) (set_cell _ c0 c2 (by simp)) (by simp)
  · obtain rfl : k = x := by simpa using hm
    exact absurd ((own_ty h3 k hk).uniq ht) (by decide)

theorem RLg.setRows {w : World} {x : Nat} {f l : List UInt8} {rs rs' : List (List UInt8)} {bs : List Nat} {rv' : Value} {vs' : List Value} (h : RLg w x f l rs bs) (hr : w.ownsRow 0 22 1 rv' rs'.length vs') (hb : ∀ k, rv'.ownBlock = some k → k ∈ bs) (ha : All2 (Yb w bs) vs' rs') :
    RLg (w.setCell ⟨x, 2, none⟩ rv') x f l rs' bs := by
  obtain ⟨ht, hx, fv, lv, rv, vs, c0, c1, c2, h1, h2, h3, h4, h5⟩ := h
  have hO : Only [x] w (w.setCell ⟨x, 2, none⟩ rv') := (Only.refl _ w).setCell (.inl (by simp)) _
  have hd : ∀ k ∈ [x], k ∉ bs ∨ ¬ TyAt w k 5 := by
    intro k hk
    obtain rfl : k = x := by simpa using hk
    exact .inr (fun h => absurd (h.uniq ht) (by decide))
  refine ⟨ht.setCell _ _, hx, fv, lv, rv', vs', set_cell _ c2 c0 (by simp), set_cell _ c2 c1 (by simp), same_cell c2, h1.only hO hd, h2.only hO hd, own_only hr hO (fun k hk hm => ?_), hb, ha.imp fun _ _ k => k.only hO hd⟩
  obtain rfl : k = x := by simpa using hm
  exact absurd ((own_ty hr k hk).uniq ht) (by decide)

theorem RLg.sees {w : World} {x : Nat} {f l : List UInt8} {rs : List (List UInt8)} {bs : List Nat} (h : RLg w x f l rs bs) :
    ∃ fa fc la lc, (w.cell? ⟨x, 0, none⟩ = some (.slice fa f.length fc) ∧ w.frozen? ⟨x, 0, none⟩ = false) ∧ (w.cell? ⟨x, 1, none⟩ = some (.slice la l.length lc) ∧ w.frozen? ⟨x, 1, none⟩ = false) ∧ Bs w (.slice fa f.length fc) f ∧ Bs w (.slice la l.length lc) l ∧ x < w.heap.size := by
  obtain ⟨ht, hx, fv, lv, rv, vs, c0, c1, c2, h1, h2, h3, h4, h5⟩ := h
  obtain ⟨fa, fc, rfl⟩ := bs_form h1.bs
  obtain ⟨la, lc, rfl⟩ := bs_form h2.bs
  exact ⟨fa, fc, la, lc, c0, c1, h1.bs, h2.bs, ht.lt⟩

theorem rlg_rows {w : World} {x : Nat} {f l : List UInt8} {rs' : List (List UInt8)} {bs : List Nat} {fv lv rv rv' : Value} {vs' : List Value} (ht : TyAt w x 50) (hx : x ∈ bs) (c0 : w.cell? ⟨x, 0, none⟩ = some fv ∧ w.frozen? ⟨x, 0, none⟩ = false) (c1 : w.cell? ⟨x, 1, none⟩ = some lv ∧ w.frozen? ⟨x, 1, none⟩ = false) (c2 : w.cell? ⟨x, 2, none⟩ = some rv ∧ w.frozen? ⟨x, 2, none⟩ = false)
    (h1 : Yb w bs fv f) (h2 : Yb w bs lv l) (hr : w.ownsRow 0 22 1 rv' rs'.length vs') (hb : ∀ k, rv'.ownBlock = some k → k ∈ bs) (ha : All2 (Yb w bs) vs' rs') :
    RLg (w.setCell ⟨x, 2, none⟩ rv') x f l rs' bs := by
  have hO : Only [x] w (w.setCell ⟨x, 2, none⟩ rv') := (Only.refl _ w).setCell (.inl (by simp)) _
  have hd : ∀ k ∈ [x], k ∉ bs ∨ ¬ TyAt w k 5 := by
    intro k hk
    obtain rfl : k = x := by simpa using hk
    exact .inr (fun h => absurd (h.uniq ht) (by decide))
  refine ⟨ht.setCell _ _, hx, fv, lv, rv', vs', set_cell _ c2 c0 (by simp), set_cell _ c2 c1 (by simp), same_cell c2, h1.only hO hd, h2.only hO hd, own_only hr hO (fun k hk hm => ?_), hb, ha.imp fun _ _ k => k.only hO hd⟩
  obtain rfl : k = x := by simpa using hm
  exact absurd ((own_ty hr k hk).uniq ht) (by decide)

end Go.Proofs.Ytlcfmocojakhpaa.Sh
