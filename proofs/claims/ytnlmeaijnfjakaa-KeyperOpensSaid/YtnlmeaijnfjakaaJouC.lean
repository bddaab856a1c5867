/- A journal's log in memory: what it is, what it keeps. -/
import Derived.Test.YtnlmeaijnfjakaaJouB
import Derived.Test.YtnlmeaijnfjakaaCrcE
namespace Go.Proofs.Ytnlmeaijnfjakaa.Sh
set_option linter.unusedSimpArgs false
set_option linter.unusedVariables false
open Go Go.RowKit

/-- A block's elements are of a type. -/
def TyAt (w : World) (k : Nat) (t : TypeId) : Prop := ∃ cur, w.heap[k]? = some (.cells cur t (0, 0))
theorem TyAt.lt {w : World} {k : Nat} {t : TypeId} (h : TyAt w k t) : k < w.heap.size := by
  obtain ⟨_, h⟩ := h
  exact lt_of_block h
theorem TyAt.uniq {w : World} {k : Nat} {t u : TypeId} (h : TyAt w k t) (h' : TyAt w k u) : t = u := by
  obtain ⟨_, h⟩ := h
  obtain ⟨_, h'⟩ := h'
  rw [h] at h'
  simp at h'
  exact h'.2
theorem TyAt.only {w w' : World} {k : Nat} {t : TypeId} (h : TyAt w k t) {bs : List Nat} (ho : Only bs w w') (hn : k ∉ bs) : TyAt w' k t := by
  have hl := h.lt
  obtain ⟨c, h⟩ := h
  exact ⟨c, by rw [ho.block k hl hn]; exact h⟩
theorem TyAt.only0 {w w' : World} {k : Nat} {t : TypeId} (h : TyAt w k t) (ho : Only [] w w') : TyAt w' k t := h.only ho (by simp)
theorem TyAt.setCell {w : World} {k : Nat} {t : TypeId} (h : TyAt w k t) (p : Addr) (v : Value) : TyAt (w.setCell p v) k t := by
  obtain ⟨c, h⟩ := h
  unfold TyAt World.setCell
  simp only [Array.getElem?_modify]
  split
  · rw [h]; exact ⟨_, rfl⟩
  · exact ⟨c, h⟩
theorem TyAt.new (w : World) (c : Array Value) (t : TypeId) : TyAt (w.alloc (.cells c t)) w.heap.size t := ⟨c, by show (w.heap.push _)[w.heap.size]? = _; simp⟩
theorem own_ty {w : World} {B e size : Nat} {v : Value} {n : Nat} {xs : List Value} (h : w.ownsRow B e size v n xs) : ∀ k, v.ownBlock = some k → TyAt w k e := by
  intro k hk
  rcases h.2 with ⟨rfl, _⟩ | ⟨g, cap, cur, rfl, _, hg, _⟩
  · simp [Value.ownBlock] at hk
  · simp [Value.ownBlock] at hk
    subst hk
    exact ⟨cur, hg⟩

/-- The blocks that are new from one world to a later one. -/
def newBs (w w' : World) : List Nat := (List.range w'.heap.size).filter (fun k => w.heap.size ≤ k)
theorem mem_newBs {w w' : World} {k : Nat} : k ∈ newBs w w' ↔ w.heap.size ≤ k ∧ k < w'.heap.size := by
  simp [newBs]; omega

/-- Bytes in a block of bytes of a list. -/
def Yb (w : World) (bs : List Nat) (v : Value) (l : List UInt8) : Prop := Bs w v l ∧ ∀ k, v.ownBlock = some k → k ∈ bs ∧ TyAt w k 5
theorem Yb.bs {w : World} {bs : List Nat} {v : Value} {l : List UInt8} (h : Yb w bs v l) : Bs w v l := h.1
theorem Yb.only {w w' : World} {bs ds : List Nat} {v : Value} {l : List UInt8} (h : Yb w bs v l) (ho : Only ds w w') (hd : ∀ k ∈ ds, k ∉ bs ∨ ¬ TyAt w k 5) : Yb w' bs v l := by
  have hk : ∀ k, v.ownBlock = some k → k ∉ ds := by
    intro k hk hm
    rcases hd k hm with h1 | h1
    · exact h1 (h.2 k hk).1
    · exact h1 (h.2 k hk).2
  exact ⟨h.1.kept ho hk, fun k h1 => ⟨(h.2 k h1).1, (h.2 k h1).2.only ho (hk k h1)⟩⟩
theorem Yb.kept0 {w w' : World} {bs : List Nat} {v : Value} {l : List UInt8} (h : Yb w bs v l) (ho : Only [] w w') : Yb w' bs v l := h.only ho (by simp)
theorem Yb.mono {w : World} {bs ds : List Nat} {v : Value} {l : List UInt8} (h : Yb w bs v l) (hs : ∀ k ∈ bs, k ∈ ds) : Yb w ds v l := ⟨h.1, fun k hk => ⟨hs k (h.2 k hk).1, (h.2 k hk).2⟩⟩
theorem Yb.own {w : World} {B : Nat} {bs : List Nat} {v : Value} {l : List UInt8} (h : w.ownsRow B 5 1 v l.length (bytes l)) (hl : l.length ≤ 9223372036854775807) (hb : ∀ k, B ≤ k → k < w.heap.size → k ∈ bs) : Yb w bs v l :=
  ⟨Cs.of_own h hl, fun k hk => ⟨hb k (h.lt k hk).1 (h.lt k hk).2, own_ty h k hk⟩⟩

theorem Bs.capped {w : World} {a : Option Addr} {n cap : Nat} {l : List UInt8} (h : Bs w (.slice a n cap) l) (hn : l.length = n) : Bs w (.slice a n n) l := by
  obtain ⟨h0, a', c', he, h1, h2, h3, h4⟩ := h
  simp only [Value.slice.injEq] at he
  obtain ⟨rfl, _, rfl⟩ := he
  exact ⟨h0, a, n, by rw [hn], by omega, by omega, h3, h4⟩

/-- A journal's log at x: its disk's bytes, its records, the blocks that are its own. -/
def Lg (w : World) (x : Nat) (f l : List UInt8) (rs : List (List UInt8)) (bs : List Nat) : Prop :=
  TyAt w x 112 ∧ x ∈ bs ∧ ∃ fv lv rv vs, (w.cell? ⟨x, 0, none⟩ = some fv ∧ w.frozen? ⟨x, 0, none⟩ = false) ∧ (w.cell? ⟨x, 1, none⟩ = some lv ∧ w.frozen? ⟨x, 1, none⟩ = false) ∧ (w.cell? ⟨x, 2, none⟩ = some rv ∧ w.frozen? ⟨x, 2, none⟩ = false) ∧
    Yb w bs fv f ∧ Yb w bs lv l ∧ w.ownsRow 0 27 1 rv rs.length vs ∧ (∀ k, rv.ownBlock = some k → k ∈ bs) ∧ All2 (Yb w bs) vs rs

theorem Lg.only {w w' : World} {x : Nat} {f l : List UInt8} {rs : List (List UInt8)} {bs ds : List Nat} (h : Lg w x f l rs bs) (ho : Only ds w w') (hd : ∀ k ∈ ds, k ∉ bs) : Lg w' x f l rs bs := by
  obtain ⟨ht, hx, fv, lv, rv, vs, c0, c1, c2, h1, h2, h3, h4, h5⟩ := h
  have hxd : x ∉ ds := fun hm => hd x hm hx
  have hd' : ∀ k ∈ ds, k ∉ bs ∨ ¬ TyAt w k 5 := fun k hk => .inl (hd k hk)
  exact ⟨ht.only ho hxd, hx, fv, lv, rv, vs, cell_kept ho hxd c0, cell_kept ho hxd c1, cell_kept ho hxd c2, h1.only ho hd', h2.only ho hd', own_only h3 ho (fun k hk hm => hd k hm (h4 k hk)), h4, h5.imp fun _ _ k => k.only ho hd'⟩
theorem Lg.kept0 {w w' : World} {x : Nat} {f l : List UInt8} {rs : List (List UInt8)} {bs : List Nat} (h : Lg w x f l rs bs) (ho : Only [] w w') : Lg w' x f l rs bs := h.only ho (by simp)
theorem Lg.mono {w : World} {x : Nat} {f l : List UInt8} {rs : List (List UInt8)} {bs ds : List Nat} (h : Lg w x f l rs bs) (hs : ∀ k ∈ bs, k ∈ ds) : Lg w x f l rs ds := by
  obtain ⟨ht, hx, fv, lv, rv, vs, c0, c1, c2, h1, h2, h3, h4, h5⟩ := h
  exact ⟨ht, hs x hx, fv, lv, rv, vs, c0, c1, c2, h1.mono hs, h2.mono hs, h3, fun k hk => hs k (h4 k hk), h5.imp fun _ _ k => k.mono hs⟩

set_option maxRecDepth 20000 in
set_option maxHeartbeats 1600000 in
theorem open_any (w : World) (fv lv : Value) (f l : List UInt8) (hf : Bs w fv f) (hl : Bs w lv l) (hlen : f.length + l.length ≤ 500000) :
    Calls Try.prog 29 #[dskV fv lv] w fun e w' => ∃ x, e = .returned (.pointer (some ⟨x, 0, none⟩)) ∧ Lg w' x ((f ++ l).take (allL (f ++ l)).2) [] (allL (f ++ l)).1 (newBs w w') ∧ Only [] w w' := by
  obtain ⟨fa, fc, rfl⟩ := bs_form hf
  obtain ⟨la, lc, rfl⟩ := bs_form hl
  obtain ⟨w1, hw1⟩ : ∃ w1, w1 = w.alloc (Obj.cells #[.slice fa f.length fc, .slice la l.length lc] 29) := ⟨_, rfl⟩
  have ho1 : Only [] w w1 := by rw [hw1]; exact (Only.refl [] w).alloc _
  obtain ⟨z, hz⟩ : ∃ z, z = f ++ l := ⟨_, rfl⟩
  have hzl : z.length ≤ 500000 := by rw [hz]; simp; omega
  have hall := dall_any w1 _ _ f l (hf.kept0 ho1) (hl.kept0 ho1) hlen
  rw [← hz] at hall ⊢
  replace hall := hid hall
  clear hz
  obtain ⟨hr1, hr2⟩ := allL_le _ z (Nat.le_refl _)
  obtain ⟨R, hR⟩ : ∃ R, R = (allL z).1 := ⟨_, rfl⟩
  obtain ⟨n, hn⟩ : ∃ n, n = (allL z).2 := ⟨_, rfl⟩
  have hrec := fun W v (hB : Bs W v z) => all_any v z W hB (by omega)
  unfold AllPost at hrec
  simp only [← hR, ← hn] at hrec hr1 hr2 ⊢
  replace hrec := hid hrec
  clear hR hn
  have hn64 : (n : Int) ≤ (z.length : Int) := by omega
  go_enter Try.func29, Try.ntmps29
  go_wp2_with fail
  rw [← hw1]
  clear hw1
  with_reducible refine hall.out.mono ?_
  rintro e w2 ⟨v2, rfl, hF, hq⟩
  have hB2 := hF.bs (by omega)
  obtain ⟨va, vc, rfl⟩ := own_form hF
  have hs2 := ho1.size
  have ho2 := ho1.trans0 hq
  go_wp2_with fail
  with_reducible refine (hrec.out _ _ hB2).mono ?_
  rintro e w3 ⟨v3, rfl, hO3, hq3⟩
  have hF3 := own_only0 hF hq3
  have ho3 := ho2.trans0 hq3
  obtain ⟨vs, g1, g2⟩ := hO3
  obtain ⟨ra, rc, rfl⟩ := own_form g1
  have hpre := (hB2.kept0 hq3).pre n hr1
  have hvc : z.length ≤ vc := by
    obtain ⟨_, _, _, he, h1, _⟩ := id hB2
    simp only [Value.slice.injEq] at he
    obtain ⟨_, _, rfl⟩ := he
    exact h1
  have hnv : n ≤ vc := by omega
  have hnv2 : (n : Int) ≤ (vc : Int) := by omega
  have hn0 : (0 : Int) ≤ (n : Int) := by omega
  clear hvc
  obtain ⟨w4, hw4⟩ : ∃ w4, w4 = w3.alloc (Obj.cells #[.slice va n n, .slice none 0 0, .slice ra R.length rc] 112) := ⟨_, rfl⟩
  have hoA : Only [] w3 w4 := by rw [hw4]; exact (Only.refl [] w3).alloc _
  have hsz4 : w4.heap.size = w3.heap.size + 1 := by rw [hw4]; simp
  have hsz3 := ho3.size
  have hnb : ∀ k, w.heap.size ≤ k → k < w4.heap.size → k ∈ newBs w w4 := fun k h1 h2 => mem_newBs.2 ⟨h1, h2⟩
  have hfin : Hid (Lg w4 w3.heap.size (z.take n) [] R (newBs w w4)) := by
    refine ⟨by rw [hw4]; exact TyAt.new _ _ _, hnb _ (by omega) (by omega), .slice va n n, .slice none 0 0, .slice ra R.length rc, vs, ?_, ?_, ?_, ?_, ?_, ?_, ?_, ?_⟩
    · rw [hw4]; constructor <;> simp [go_sem]
    · rw [hw4]; constructor <;> simp [go_sem]
    · rw [hw4]; constructor <;> simp [go_sem]
    · refine ⟨(Bs.capped hpre (by simp; omega)).kept0 hoA, fun k hk => ?_⟩
      have hk' : (Value.slice va z.length vc).ownBlock = some k := by cases va <;> exact hk
      have := (hF3.lt k hk')
      exact ⟨hnb k (by omega) (by omega), (own_ty hF3 k hk').only0 hoA⟩
    · exact ⟨Bs.empty (by unfold maxLen; omega), fun k hk => by simp [Value.ownBlock] at hk⟩
    · exact own_lower (own_only0 g1 hoA) (Nat.zero_le _)
    · intro k hk
      have := g1.lt k hk
      have := ho2.size
      exact hnb k (by omega) (by omega)
    · refine g2.imp fun u y h => Yb.own (B := w2.heap.size) (own_only0 h.1 hoA) h.2 (fun k h1 h2 => hnb k ?_ h2)
      have := ho2.size
      omega
  have hoF := ho3.trans0 hoA
  clear hpre hB2 hF hF3 g1 g2 hoA hnb hsz4 ho2 ho3
  go_wp2_with fail
  go_ret
  rw [← hw4]
  exact ⟨_, rfl, hfin.out, hoF⟩
end Go.Proofs.Ytnlmeaijnfjakaa.Sh
