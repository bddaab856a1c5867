/- A journal's log: fast; how many are; its disk: walked. -/
import Derived.Test.YtnlmeaijnfjakaaJouC
namespace Go.Proofs.Ytnlmeaijnfjakaa.Sh
set_option linter.unusedSimpArgs false
set_option linter.unusedVariables false
open Go Go.RowKit

theorem same_cell {w : World} {p : Addr} {u v : Value} (h : w.cell? p = some u ∧ w.frozen? p = false) : (w.setCell p v).cell? p = some v ∧ (w.setCell p v).frozen? p = false :=
  ⟨World.cell?_setCell_same _ _ _ h.1, by simpa [go_sem] using h.2⟩

theorem Lg.setDisk {w : World} {x : Nat} {f l f' l' : List UInt8} {rs : List (List UInt8)} {bs : List Nat} {fv' lv' : Value} (h : Lg w x f l rs bs) (hf : Yb w bs fv' f') (hl : Yb w bs lv' l') :
    Lg ((w.setCell ⟨x, 0, none⟩ fv').setCell ⟨x, 1, none⟩ lv') x f' l' rs bs := by
  obtain ⟨ht, hx, fv, lv, rv, vs, c0, c1, c2, h1, h2, h3, h4, h5⟩ := h
  have hO : Only [x] w ((w.setCell ⟨x, 0, none⟩ fv').setCell ⟨x, 1, none⟩ lv') := ((Only.refl _ w).setCell (.inl (by simp)) _).setCell (.inl (by simp)) _
  have hd : ∀ k ∈ [x], k ∉ bs ∨ ¬ TyAt w k 5 := by
    intro k hk
    obtain rfl : k = x := by simpa using hk
    exact .inr (fun h => absurd (h.uniq ht) (by decide))
  refine ⟨(ht.setCell _ _).setCell _ _, hx, fv', lv', rv, vs, ?_, ?_, ?_, hf.only hO hd, hl.only hO hd, own_only h3 hO (fun k hk hm => ?_), h4, h5.imp fun _ _ k => k.only hO hd⟩
  · exact set_cell _ (set_cell _ c0 c1 (by simp)) (same_cell c0) (by simp)
  · exact same_cell (set_cell _ c0 c1 (by simp))
  · exact set_cell _ (set_cell _ c0 c1 (by simp)) (set_cell _ c0 c2 (by simp)) (by simp)
  · obtain rfl : k = x := by simpa using hm
    exact absurd ((own_ty h3 k hk).uniq ht) (by decide)

theorem Lg.setRows {w : World} {x : Nat} {f l : List UInt8} {rs rs' : List (List UInt8)} {bs : List Nat} {rv' : Value} {vs' : List Value} (h : Lg w x f l rs bs) (hr : w.ownsRow 0 27 1 rv' rs'.length vs') (hb : ∀ k, rv'.ownBlock = some k → k ∈ bs) (ha : All2 (Yb w bs) vs' rs') :
    Lg (w.setCell ⟨x, 2, none⟩ rv') x f l rs' bs := by
  obtain ⟨ht, hx, fv, lv, rv, vs, c0, c1, c2, h1, h2, h3, h4, h5⟩ := h
  have hO : Only [x] w (w.setCell ⟨x, 2, none⟩ rv') := (Only.refl _ w).setCell (.inl (by simp)) _
  have hd : ∀ k ∈ [x], k ∉ bs ∨ ¬ TyAt w k 5 := by
    intro k hk
    obtain rfl : k = x := by simpa using hk
    exact .inr (fun h => absurd (h.uniq ht) (by decide))
  refine ⟨ht.setCell _ _, hx, fv, lv, rv', vs', set_cell _ c2 c0 (by simp), set_cell _ c2 c1 (by simp), same_cell c2, h1.only hO hd, h2.only hO hd, own_only hr hO (fun k hk hm => ?_), hb, ha.imp fun _ _ k => k.only hO hd⟩
  obtain rfl : k = x := by simpa using hm
  exact absurd ((own_ty hr k hk).uniq ht) (by decide)

theorem Lg.sees {w : World} {x : Nat} {f l : List UInt8} {rs : List (List UInt8)} {bs : List Nat} (h : Lg w x f l rs bs) :
    ∃ fa fc la lc, (w.cell? ⟨x, 0, none⟩ = some (.slice fa f.length fc) ∧ w.frozen? ⟨x, 0, none⟩ = false) ∧ (w.cell? ⟨x, 1, none⟩ = some (.slice la l.length lc) ∧ w.frozen? ⟨x, 1, none⟩ = false) ∧ Bs w (.slice fa f.length fc) f ∧ Bs w (.slice la l.length lc) l ∧ x < w.heap.size := by
  obtain ⟨ht, hx, fv, lv, rv, vs, c0, c1, c2, h1, h2, h3, h4, h5⟩ := h
  obtain ⟨fa, fc, rfl⟩ := bs_form h1.bs
  obtain ⟨la, lc, rfl⟩ := bs_form h2.bs
  exact ⟨fa, fc, la, lc, c0, c1, h1.bs, h2.bs, ht.lt⟩

set_option maxRecDepth 20000 in
set_option maxHeartbeats 1600000 in
theorem lsync_any (w : World) (x : Nat) (f l : List UInt8) (rs : List (List UInt8)) (bs : List Nat) (h : Lg w x f l rs bs) (hlen : f.length + l.length ≤ 500000) :
    Calls Try.prog 70 #[.pointer (some ⟨x, 0, none⟩)] w fun e w' => e = .returned (.tuple #[]) ∧ Lg w' x (f ++ l) [] rs (bs ++ newBs w w') ∧ Only [x] w w' := by
  obtain ⟨fa, fc, la, lc, c0, c1, hf, hl, hx⟩ := h.sees
  obtain ⟨z, hz⟩ : ∃ z, z = f ++ l := ⟨_, rfl⟩
  have hzl : z.length ≤ 500000 := by rw [hz]; simp; omega
  have hs := dsync_any w _ _ f l hf hl hlen
  rw [← hz] at hs ⊢
  replace hs := hid hs
  replace h := hid h
  clear hz
  go_enter Try.func70, Try.ntmps70
  go_wp2_with fail
  with_reducible refine hs.out.mono ?_
  rintro e w2 ⟨v2, rfl, hF, hq⟩
  obtain ⟨va, vc, rfl⟩ := own_form hF
  have hfin := fun W (e : W = (w2.setCell ⟨x, 0, none⟩ (.slice va z.length vc)).setCell ⟨x, 1, none⟩ (.slice none 0 0)) => show Lg W x z [] rs (bs ++ newBs w W) ∧ Only [x] w W by
    have hL2 : Lg w2 x f l rs (bs ++ newBs w w2) := (h.out.kept0 hq).mono (fun k hk => by simp [hk])
    have h3 := hL2.setDisk (fv' := .slice va z.length vc) (f' := z) (lv' := .slice none 0 0) (l' := []) (Yb.own hF (by omega) (fun k h1 h2 => by simp [mem_newBs, h1, h2])) ⟨Bs.empty (by unfold maxLen; omega), fun k hk => by simp [Value.ownBlock] at hk⟩
    rw [e]
    refine ⟨h3.mono (fun k hk => ?_), ((hq.mono (by simp)).setCell (.inl (by simp)) _).setCell (.inl (by simp)) _⟩
    simp only [List.mem_append, mem_newBs] at hk ⊢
    simpa [World.setCell] using hk
  obtain ⟨p0, p1⟩ := cell_kept hq (by simp) c0
  obtain ⟨p2, p3⟩ := cell_kept hq (by simp) c1
  replace hfin := hid hfin
  clear hF hf hl hq
  go_wp2
  go_end0
  exact ⟨rfl, hfin.out _ rfl⟩

set_option maxRecDepth 20000 in
set_option maxHeartbeats 1600000 in
theorem ldisk_any (w : World) (x : Nat) (f l : List UInt8) (rs : List (List UInt8)) (bs : List Nat) (h : Lg w x f l rs bs) (hlen : f.length + l.length ≤ 500000) :
    Calls Try.prog 41 #[.pointer (some ⟨x, 0, none⟩)] w fun e w' => ∃ fv' lv', e = .returned (dskV fv' lv') ∧ Fresh w w' fv' f ∧ Fresh w w' lv' l ∧ Only [] w w' := by
  obtain ⟨fa, fc, la, lc, ⟨c0, _⟩, ⟨c1, _⟩, hf, hl, hx⟩ := h.sees
  obtain ⟨w1, hw1⟩ : ∃ w1, w1 = w.alloc (Obj.cells #[.slice none 0 0, .slice none 0 0] 29) := ⟨_, rfl⟩
  have ho1 : Only [] w w1 := by rw [hw1]; exact (Only.refl [] w).alloc _
  have r0 : w1.cell? ⟨w.heap.size, 0, none⟩ = some (.slice none 0 0) ∧ w1.frozen? ⟨w.heap.size, 0, none⟩ = false := by rw [hw1]; constructor <;> simp [go_sem]
  have r1 : w1.cell? ⟨w.heap.size, 1, none⟩ = some (.slice none 0 0) ∧ w1.frozen? ⟨w.heap.size, 1, none⟩ = false := by rw [hw1]; constructor <;> simp [go_sem]
  have hs1 : w1.heap.size = w.heap.size + 1 := by rw [hw1]; simp
  have hs := write_any w1 _ _ _ f l [] (hf.kept0 ho1) (hl.kept0 ho1) (Bs.empty (cap := 0) (a := none) (by unfold maxLen; omega)) (by simp; omega)
  rw [List.append_nil] at hs
  replace hs := hid hs
  clear h
  go_enter Try.func41, Try.ntmps41
  go_wp2_with fail
  rw [← hw1]
  clear hw1
  with_reducible refine hs.out.mono ?_
  rintro e w2 ⟨v2, u2, rfl, hF, hG, hq⟩
  obtain ⟨va, vc, rfl⟩ := own_form hF
  obtain ⟨ua, uc, rfl⟩ := own_form hG
  obtain ⟨p0, p1⟩ := cell_kept hq (by simp) r0
  obtain ⟨p2, p3⟩ := cell_kept hq (by simp) r1
  have e2 : w2.ownsRow (w.heap.size + 1) 5 1 (.slice va f.length vc) f.length (bytes f) := own_lower hF (by omega)
  have e3 : w2.ownsRow (w.heap.size + 1) 5 1 (.slice ua l.length uc) l.length (bytes l) := own_lower hG (by omega)
  have hO : Only [w.heap.size] w2 ((w2.setCell ⟨w.heap.size, 0, none⟩ (.slice va f.length vc)).setCell ⟨w.heap.size, 1, none⟩ (.slice ua l.length uc)) := ((Only.refl _ w2).setCell (.inl (by simp)) _).setCell (.inl (by simp)) _
  have g2 := hid (own_lower (own_only e2 hO (fun k hk => by have := (e2.lt k hk).1; simp; omega)) (Nat.le_add_right w.heap.size 1))
  have g3 := hid (own_lower (own_only e3 hO (fun k hk => by have := (e3.lt k hk).1; simp; omega)) (Nat.le_add_right w.heap.size 1))
  have hfin := (ho1.trans0 hq).trans hO (ds := []) (by simp) (by simp)
  clear e2 e3 hO hF hG
  go_wp2
  exact bodyPost_ret (v := dskV (.slice va f.length vc) (.slice ua l.length uc)) (by simp [results, Try.results41, go_sem, p0, p2]) rfl ⟨_, _, rfl, g2.out, g3.out, hfin⟩
end Go.Proofs.Ytnlmeaijnfjakaa.Sh
