/- A journal's log that is new since a world: its calls. -/
import Derived.Test.YtnlmeaijnfjakaaJouF
namespace Go.Proofs.Ytnlmeaijnfjakaa.Sh
set_option linter.unusedSimpArgs false
set_option linter.unusedVariables false
open Go Go.RowKit

theorem Only.own {a b c : World} {bs : List Nat} (h : Only [] a b) (k : Only bs b c) (hb : ∀ x ∈ bs, a.heap.size ≤ x) : Only [] a c := h.trans k (by simp) (fun x hx => .inr (hb x hx))

/-- A log whose blocks are all new since w. -/
def LgN (w W : World) (x : Nat) (f l : List UInt8) (rs : List (List UInt8)) : Prop :=
  ∃ bs, Lg W x f l rs bs ∧ (∀ k ∈ bs, w.heap.size ≤ k ∧ k < W.heap.size) ∧ Only [] w W

theorem LgN.o {w W : World} {x : Nat} {f l : List UInt8} {rs : List (List UInt8)} (h : LgN w W x f l rs) : Only [] w W := by
  obtain ⟨_, _, _, h⟩ := h
  exact h
theorem LgN.kept0 {w W W' : World} {x : Nat} {f l : List UInt8} {rs : List (List UInt8)} (h : LgN w W x f l rs) (ho : Only [] W W') : LgN w W' x f l rs := by
  obtain ⟨bs, h1, h2, h3⟩ := h
  have := ho.size
  exact ⟨bs, h1.kept0 ho, fun k hk => ⟨(h2 k hk).1, by have := (h2 k hk).2; omega⟩, h3.trans0 ho⟩
theorem LgN.went {w W W' : World} {x : Nat} {f l : List UInt8} {rs : List (List UInt8)} {bs : List Nat} (h : Lg W' x f l rs (bs ++ newBs W W')) (hb : ∀ k ∈ bs, w.heap.size ≤ k ∧ k < W.heap.size) (ho : Only [] w W) (hp : Only bs W W') : LgN w W' x f l rs := by
  have h1 := hp.size
  have h2 := ho.size
  refine ⟨_, h, fun k hk => ?_, ho.own hp (fun k hk => (hb k hk).1)⟩
  rcases List.mem_append.1 hk with h | h
  · have := hb k h; omega
  · have := mem_newBs.1 h; omega

theorem nopen_any (w W : World) (ho : Only [] w W) (fv lv : Value) (f l : List UInt8) (hf : Bs W fv f) (hl : Bs W lv l) (hlen : f.length + l.length ≤ 500000) :
    Calls Try.prog 29 #[dskV fv lv] W fun e w' => ∃ x, e = .returned (.pointer (some ⟨x, 0, none⟩)) ∧ LgN w w' x ((f ++ l).take (allL (f ++ l)).2) [] (allL (f ++ l)).1 ∧ Only [] W w' := by
  refine (open_any W fv lv f l hf hl hlen).mono ?_
  rintro e w' ⟨x, rfl, hL, hp⟩
  exact ⟨x, rfl, LgN.went (bs := []) (by simpa using hL) (by simp) ho hp, hp⟩

theorem nsync_any (w W : World) (x : Nat) (f l : List UInt8) (rs : List (List UInt8)) (h : LgN w W x f l rs) (hlen : f.length + l.length ≤ 500000) :
    Calls Try.prog 70 #[.pointer (some ⟨x, 0, none⟩)] W fun e w' => e = .returned (.tuple #[]) ∧ LgN w w' x (f ++ l) [] rs := by
  obtain ⟨bs, h1, h2, h3⟩ := h
  refine (lsync_any W x f l rs bs h1 hlen).mono ?_
  rintro e w' ⟨rfl, hL, hp⟩
  refine ⟨rfl, LgN.went hL h2 h3 (hp.mono (fun k hk => .inl ?_))⟩
  obtain rfl : k = x := by simpa using hk
  exact h1.2.1

theorem nappend_good (w W : World) (x : Nat) (f l b : List UInt8) (rs : List (List UInt8)) (h : LgN w W x f l rs) (bv : Value) (hb : Bs w bv b) (hl1 : 1 ≤ b.length) (hl2 : b.length ≤ 1000) (hlen : f.length + l.length ≤ 400000) (hrs : rs.length ≤ 1000000) :
    Calls Try.prog 69 #[.pointer (some ⟨x, 0, none⟩), bv] W fun e w' => e = .returned (.int .i64 0) ∧ LgN w w' x f (l ++ frameL b) (rs ++ [b]) := by
  obtain ⟨bs, h1, h2, h3⟩ := h
  have hold : ∀ k, bv.ownBlock = some k → b = [] ∨ k ∉ bs := by
    intro k hk
    refine .inr (fun hm => ?_)
    obtain ⟨b', o, c, rfl, _, _, _, h4⟩ := hb.form (by omega)
    simp [Value.ownBlock] at hk
    subst hk
    have h5 := h4 0 (vU8 b[0]) (bytes_get (by omega))
    have := lt_cell (by simpa using h5)
    have := (h2 _ hm).1
    omega
  refine (lappend_good W x f l b rs bs h1 bv (hb.kept0 h3) hold hl1 hl2 hlen hrs).mono ?_
  rintro e w' ⟨rfl, hL, hp⟩
  exact ⟨rfl, LgN.went hL h2 h3 hp⟩

theorem nappend_new (w W : World) (x : Nat) (f l b : List UInt8) (rs : List (List UInt8)) (h : LgN w W x f l rs) (o : Obj) (n c : Nat) (hb : Bs (W.alloc o) (.slice (some ⟨W.heap.size, 0, none⟩) n c) b) (hl1 : 1 ≤ b.length) (hl2 : b.length ≤ 1000) (hlen : f.length + l.length ≤ 400000) (hrs : rs.length ≤ 1000000) :
    Calls Try.prog 69 #[.pointer (some ⟨x, 0, none⟩), .slice (some ⟨W.heap.size, 0, none⟩) n c] (W.alloc o) fun e w' => e = .returned (.int .i64 0) ∧ LgN w w' x f (l ++ frameL b) (rs ++ [b]) := by
  have hk := h.kept0 ((Only.refl [] W).alloc o)
  obtain ⟨bs, h1, h2, h3⟩ := h
  have hoA := (Only.refl [] W).alloc o
  have hs := hoA.size
  refine (lappend_good (W.alloc o) x f l b rs bs (h1.kept0 hoA) _ hb (fun k hk => .inr (fun hm => ?_)) hl1 hl2 hlen hrs).mono ?_
  · simp [Value.ownBlock] at hk
    have := (h2 k hm).2
    omega
  · rintro e w' ⟨rfl, hL, hp⟩
    exact ⟨rfl, LgN.went hL (fun k hk => ⟨(h2 k hk).1, by have := (h2 k hk).2; omega⟩) (h3.trans0 hoA) hp⟩

theorem nrecords_any (w W : World) (x : Nat) (f l : List UInt8) (rs : List (List UInt8)) (h : LgN w W x f l rs) (hr : rs.length ≤ 1000000) (hb : ∀ r ∈ rs, r.length ≤ 1000000) :
    Calls Try.prog 30 #[.pointer (some ⟨x, 0, none⟩)] W fun e w' => ∃ v', e = .returned v' ∧ OwnBss W.heap.size w' v' rs ∧ Only [] W w' := by
  obtain ⟨bs, h1, _⟩ := h
  exact lrecords_any W x f l rs bs h1 hr hb
theorem ndisk_any (w W : World) (x : Nat) (f l : List UInt8) (rs : List (List UInt8)) (h : LgN w W x f l rs) (hlen : f.length + l.length ≤ 500000) :
    Calls Try.prog 41 #[.pointer (some ⟨x, 0, none⟩)] W fun e w' => ∃ fv' lv', e = .returned (dskV fv' lv') ∧ Fresh W w' fv' f ∧ Fresh W w' lv' l ∧ Only [] W w' := by
  obtain ⟨bs, h1, _⟩ := h
  exact ldisk_any W x f l rs bs h1 hlen
end Go.Proofs.Ytnlmeaijnfjakaa.Sh
