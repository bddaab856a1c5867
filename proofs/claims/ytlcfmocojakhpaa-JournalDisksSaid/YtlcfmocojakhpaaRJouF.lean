/- Is a disk the document's? walked; two logs, the program's and the document's, side by side. -/
import Derived.Test.YtlcfmocojakhpaaRJouE
import Derived.Test.YtlcfmocojakhpaaJouL
namespace Go.Proofs.Ytlcfmocojakhpaa.Sh
open Go Go.RowKit

set_option maxRecDepth 20000 in
set_option maxHeartbeats 1600000 in
theorem same12_any (w : World) (fv lv fv' lv' : Value) (f l : List UInt8) (hf : Bs w fv f) (hl : Bs w lv l) (hf' : Bs w fv' f) (hl' : Bs w lv' l) :
    Calls Try.prog 14 #[dskV fv lv, dskV fv' lv'] w fun e w' => e = .returned (.bool true) ∧ Only [] w w' := by
  obtain ⟨fa, fc, rfl⟩ := bs_form hf
  obtain ⟨la, lc, rfl⟩ := bs_form hl
  obtain ⟨fa', fc', rfl⟩ := bs_form hf'
  obtain ⟨la', lc', rfl⟩ := bs_form hl'
  obtain ⟨w1, hw1⟩ : ∃ w1, w1 = (w.alloc (Obj.cells #[.slice fa f.length fc, .slice la l.length lc] 26)).alloc (Obj.cells #[.slice fa' f.length fc', .slice la' l.length lc'] 24) := ⟨_, rfl⟩
  have o1 : Only [] w w1 := by rw [hw1]; exact ((Only.refl [] w).alloc _).alloc _
  have c1 : w1.cell? ⟨w.heap.size, 1, none⟩ = some (.slice la l.length lc) := by rw [hw1]; simp [go_sem]
  have d1 : w1.cell? ⟨w.heap.size + 1, 1, none⟩ = some (.slice la' l.length lc') := by rw [hw1]; simp [go_sem]
  have s1 := same_any _ _ f f w1 (hf.kept0 o1) (hf'.kept0 o1)
  rw [decide_eq_true rfl] at s1
  have s2 := fun W (h : Only [] w1 W) => same_any _ _ l l W ((hl.kept0 o1).kept0 h) ((hl'.kept0 o1).kept0 h)
  rw [decide_eq_true rfl] at s2
  replace s1 := hid s1
  replace s2 := hid s2
  go_enter Try.func14, Try.ntmps14
  go_wp2_with fail
  rw [← hw1]
  clear hw1
  refine s1.out.mono ?_
  rintro e w2 ⟨rfl, o2⟩
  replace c1 := o2.cell c1 (by simp)
  replace d1 := o2.cell d1 (by simp)
  go_wp2_with fail
  refine (s2.out _ o2).mono ?_
  rintro e w3 ⟨rfl, o3⟩
  go_wp2
  go_ret
  exact ⟨rfl, (o1.trans0 o2).trans0 o3⟩

/-- Two logs, the program's at x, the document's at y, alike, both new since w. -/
def Two (w W : World) (x y : Nat) (f l : List UInt8) (rs : List (List UInt8)) : Prop :=
  ∃ bs cs, Lg W x f l rs bs ∧ RLg W y f l rs cs ∧ (∀ k ∈ bs, w.heap.size ≤ k ∧ k < W.heap.size) ∧ (∀ k ∈ cs, w.heap.size ≤ k ∧ k < W.heap.size) ∧ (∀ k ∈ bs, k ∉ cs) ∧ Only [] w W

theorem Two.o {w W : World} {x y : Nat} {f l : List UInt8} {rs : List (List UInt8)} (h : Two w W x y f l rs) : Only [] w W := by
  obtain ⟨_, _, _, _, _, _, _, h⟩ := h
  exact h
theorem Two.kept0 {w W W' : World} {x y : Nat} {f l : List UInt8} {rs : List (List UInt8)} (h : Two w W x y f l rs) (ho : Only [] W W') : Two w W' x y f l rs := by
  obtain ⟨bs, cs, h1, h2, h3, h4, h5, h6⟩ := h
  have := ho.size
  exact ⟨bs, cs, h1.kept0 ho, h2.kept0 ho, fun k hk => ⟨(h3 k hk).1, by have := (h3 k hk).2; omega⟩, fun k hk => ⟨(h4 k hk).1, by have := (h4 k hk).2; omega⟩, h5, h6.trans0 ho⟩
theorem Two.lgn {w W : World} {x y : Nat} {f l : List UInt8} {rs : List (List UInt8)} (h : Two w W x y f l rs) : LgN w W x f l rs := by
  obtain ⟨bs, cs, h1, h2, h3, h4, h5, h6⟩ := h
  exact ⟨bs, h1, h3, h6⟩
theorem Two.rlg {w W : World} {x y : Nat} {f l : List UInt8} {rs : List (List UInt8)} (h : Two w W x y f l rs) : ∃ cs, RLg W y f l rs cs := by
  obtain ⟨bs, cs, h1, h2, h3, h4, h5, h6⟩ := h
  exact ⟨cs, h2⟩

/-- The program's log went on, the document's not yet. -/
def Mid (w W : World) (x y : Nat) (f l : List UInt8) (rs : List (List UInt8)) (f' l' : List UInt8) (rs' : List (List UInt8)) : Prop :=
  ∃ bs cs, Lg W x f' l' rs' bs ∧ RLg W y f l rs cs ∧ (∀ k ∈ bs, w.heap.size ≤ k ∧ k < W.heap.size) ∧ (∀ k ∈ cs, w.heap.size ≤ k ∧ k < W.heap.size) ∧ (∀ k ∈ bs, k ∉ cs) ∧ Only [] w W
theorem Mid.kept0 {w W W' : World} {x y : Nat} {f l f' l' : List UInt8} {rs rs' : List (List UInt8)} (h : Mid w W x y f l rs f' l' rs') (ho : Only [] W W') : Mid w W' x y f l rs f' l' rs' := by
  obtain ⟨bs, cs, h1, h2, h3, h4, h5, h6⟩ := h
  have := ho.size
  exact ⟨bs, cs, h1.kept0 ho, h2.kept0 ho, fun k hk => ⟨(h3 k hk).1, by have := (h3 k hk).2; omega⟩, fun k hk => ⟨(h4 k hk).1, by have := (h4 k hk).2; omega⟩, h5, h6.trans0 ho⟩
theorem Mid.o {w W : World} {x y : Nat} {f l f' l' : List UInt8} {rs rs' : List (List UInt8)} (h : Mid w W x y f l rs f' l' rs') : Only [] w W := by
  obtain ⟨_, _, _, _, _, _, _, h⟩ := h
  exact h

theorem mid_of {w W W' : World} {x y : Nat} {f l f' l' : List UInt8} {rs rs' : List (List UInt8)} {bs cs ds : List Nat} (h2 : RLg W y f l rs cs) (h3 : ∀ k ∈ bs, w.heap.size ≤ k ∧ k < W.heap.size) (h4 : ∀ k ∈ cs, w.heap.size ≤ k ∧ k < W.heap.size) (h5 : ∀ k ∈ bs, k ∉ cs) (h6 : Only [] w W)
    (hL : Lg W' x f' l' rs' (bs ++ newBs W W')) (hd : ∀ k ∈ ds, k ∈ bs) (hp : Only ds W W') : Mid w W' x y f l rs f' l' rs' := by
  have s1 := h6.size
  have s2 := hp.size
  refine ⟨_, cs, hL, h2.only hp (fun k hk => h5 k (hd k hk)), fun k hk => ?_, fun k hk => ?_, fun k hk hc => ?_, h6.own hp (fun k hk => (h3 k (hd k hk)).1)⟩
  · rcases List.mem_append.1 hk with h | h
    · have := h3 k h; omega
    · have := mem_newBs.1 h; omega
  · have := h4 k hk; omega
  · rcases List.mem_append.1 hk with h | h
    · exact h5 k h hc
    · have := mem_newBs.1 h
      have := h4 k hc
      omega

theorem two_of {w W W' : World} {x y : Nat} {f' l' : List UInt8} {rs' : List (List UInt8)} {bs cs : List Nat} (h1 : Lg W x f' l' rs' bs) (h3 : ∀ k ∈ bs, w.heap.size ≤ k ∧ k < W.heap.size) (h4 : ∀ k ∈ cs, w.heap.size ≤ k ∧ k < W.heap.size) (h5 : ∀ k ∈ bs, k ∉ cs) (h6 : Only [] w W) (hy : y ∈ cs)
    (hR : RLg W' y f' l' rs' (cs ++ newBs W W')) (hp : Only [y] W W') : Two w W' x y f' l' rs' := by
  have s1 := h6.size
  have s2 := hp.size
  refine ⟨bs, _, h1.only hp (fun k hk hb => ?_), hR, fun k hk => ?_, fun k hk => ?_, fun k hb hk => ?_, h6.own hp (fun k hk => ?_)⟩
  · obtain rfl : k = y := by simpa using hk
    exact h5 k hb hy
  · have := h3 k hk; omega
  · rcases List.mem_append.1 hk with h | h
    · have := h4 k h; omega
    · have := mem_newBs.1 h; omega
  · rcases List.mem_append.1 hk with h | h
    · exact h5 k hb h
    · have := mem_newBs.1 h
      have := h3 k hb
      omega
  · obtain rfl : k = y := by simpa using hk
    exact (h4 k hy).1

theorem old_not {w : World} {bv : Value} {b : List UInt8} (hb : Bs w bv b) {bs : List Nat} (h : ∀ k ∈ bs, w.heap.size ≤ k) : ∀ k, bv.ownBlock = some k → b = [] ∨ k ∉ bs := by
  intro k hk
  by_cases hl : 0 < b.length
  · refine .inr (fun hm => ?_)
    obtain ⟨b', o, c, rfl, _, _, _, h4⟩ := hb.form hl
    simp [Value.ownBlock] at hk
    subst hk
    have h5 := h4 0 (vU8 b[0]) (bytes_get hl)
    have := lt_cell (by simpa using h5)
    have := h _ hm
    omega
  · exact .inl (List.eq_nil_of_length_eq_zero (by omega))

theorem tappend1 (w V W : World) (x y : Nat) (f l b : List UInt8) (rs : List (List UInt8)) (h : Two w V x y f l rs) (hV : Only [] V W) (bv : Value) (hb : Bs w bv b) (hl1 : 1 ≤ b.length) (hl2 : b.length ≤ 1000) (hlen : f.length + l.length ≤ 400000) (hrs : rs.length ≤ 1000000) :
    Calls Try.prog 17 #[.pointer (some ⟨x, 0, none⟩), bv] W fun e w' => e = .returned (.int .i64 0) ∧ Mid w w' x y f l rs f (l ++ frameL b) (rs ++ [b]) ∧ ∃ ds, Only ds W w' ∧ ∀ k ∈ ds, k < V.heap.size := by
  have hVs := h
  have hlt : ∃ bs cs, Lg W x f l rs bs ∧ RLg W y f l rs cs ∧ (∀ k ∈ bs, w.heap.size ≤ k ∧ k < W.heap.size) ∧ (∀ k ∈ cs, w.heap.size ≤ k ∧ k < W.heap.size) ∧ (∀ k ∈ bs, k ∉ cs) ∧ Only [] w W ∧ ∀ k ∈ bs, k < V.heap.size := by
    obtain ⟨bs, cs, h1, h2, h3, h4, h5, h6⟩ := h
    have := hV.size
    exact ⟨bs, cs, h1.kept0 hV, h2.kept0 hV, fun k hk => ⟨(h3 k hk).1, by have := (h3 k hk).2; omega⟩, fun k hk => ⟨(h4 k hk).1, by have := (h4 k hk).2; omega⟩, h5, h6.trans0 hV, fun k hk => (h3 k hk).2⟩
  obtain ⟨bs, cs, h1, h2, h3, h4, h5, h6, h7⟩ := hlt
  refine (lappend_good W x f l b rs bs h1 bv (hb.kept0 h6) (old_not hb (fun k hk => (h3 k hk).1)) hl1 hl2 hlen hrs).mono ?_
  rintro e w' ⟨rfl, hL, hp⟩
  exact ⟨rfl, mid_of h2 h3 h4 h5 h6 hL (fun k hk => hk) hp, bs, hp, h7⟩
theorem tappend2 (w W : World) (x y : Nat) (f l b : List UInt8) (rs : List (List UInt8)) (h : Mid w W x y f l rs f (l ++ frameL b) (rs ++ [b])) (bv : Value) (hb : Bs w bv b) (hl1 : 1 ≤ b.length) (hl2 : b.length ≤ 1000) (hlen : f.length + l.length ≤ 400000) (hrs : rs.length ≤ 1000000) :
    Calls Try.prog 26 #[.pointer (some ⟨y, 0, none⟩), bv] W fun e w' => e = .returned (.int .i64 0) ∧ Two w w' x y f (l ++ frameL b) (rs ++ [b]) ∧ Only [y] W w' := by
  obtain ⟨bs, cs, h1, h2, h3, h4, h5, h6⟩ := h
  refine (rappend_good W y f l b rs cs h2 bv (hb.kept0 h6) (fun k hk => ?_) hl1 hl2 hlen hrs).mono ?_
  · rcases old_not hb (bs := [y]) (fun j hj => by obtain rfl : j = y := (by simpa using hj); exact (h4 j h2.2.1).1) k hk with h9 | h9
    · exact .inl h9
    · exact .inr (by simpa using h9)
  rintro e w' ⟨rfl, hL, hp⟩
  exact ⟨rfl, two_of h1 h3 h4 h5 h6 h2.2.1 hL hp, hp⟩
theorem tcompact1 (w V W : World) (x y : Nat) (f l b : List UInt8) (rs : List (List UInt8)) (h : Two w V x y f l rs) (hV : Only [] V W) (bv : Value) (hb : Bs w bv b) (hl1 : 1 ≤ b.length) (hl2 : b.length ≤ 1000) :
    Calls Try.prog 28 #[.pointer (some ⟨x, 0, none⟩), bv] W fun e w' => e = .returned (.int .i64 0) ∧ Mid w w' x y f l rs (frameL b) [] [b] ∧ ∃ ds, Only ds W w' ∧ ∀ k ∈ ds, k < V.heap.size := by
  have hVs := h
  have hlt : ∃ bs cs, Lg W x f l rs bs ∧ RLg W y f l rs cs ∧ (∀ k ∈ bs, w.heap.size ≤ k ∧ k < W.heap.size) ∧ (∀ k ∈ cs, w.heap.size ≤ k ∧ k < W.heap.size) ∧ (∀ k ∈ bs, k ∉ cs) ∧ Only [] w W ∧ ∀ k ∈ bs, k < V.heap.size := by
    obtain ⟨bs, cs, h1, h2, h3, h4, h5, h6⟩ := h
    have := hV.size
    exact ⟨bs, cs, h1.kept0 hV, h2.kept0 hV, fun k hk => ⟨(h3 k hk).1, by have := (h3 k hk).2; omega⟩, fun k hk => ⟨(h4 k hk).1, by have := (h4 k hk).2; omega⟩, h5, h6.trans0 hV, fun k hk => (h3 k hk).2⟩
  obtain ⟨bs, cs, h1, h2, h3, h4, h5, h6, h7⟩ := hlt
  refine (lcompact_good W x f l b rs bs h1 bv (hb.kept0 h6) (old_not hb (fun k hk => (h3 k hk).1)) hl1 hl2).mono ?_
  rintro e w' ⟨rfl, hL, hp⟩
  exact ⟨rfl, mid_of h2 h3 h4 h5 h6 hL (fun k hk => hk) hp, bs, hp, h7⟩
theorem tcompact2 (w W : World) (x y : Nat) (f l b : List UInt8) (rs : List (List UInt8)) (h : Mid w W x y f l rs (frameL b) [] [b]) (bv : Value) (hb : Bs w bv b) (hl1 : 1 ≤ b.length) (hl2 : b.length ≤ 1000) :
    Calls Try.prog 29 #[.pointer (some ⟨y, 0, none⟩), bv] W fun e w' => e = .returned (.int .i64 0) ∧ Two w w' x y (frameL b) [] [b] ∧ Only [y] W w' := by
  obtain ⟨bs, cs, h1, h2, h3, h4, h5, h6⟩ := h
  refine (rcompact_good W y f l b rs cs h2 bv (hb.kept0 h6) (fun k hk => ?_) hl1 hl2).mono ?_
  · rcases old_not hb (bs := [y]) (fun j hj => by obtain rfl : j = y := (by simpa using hj); exact (h4 j h2.2.1).1) k hk with h9 | h9
    · exact .inl h9
    · exact .inr (by simpa using h9)
  rintro e w' ⟨rfl, hL, hp⟩
  exact ⟨rfl, two_of h1 h3 h4 h5 h6 h2.2.1 hL hp, hp⟩
theorem tsync1 (w W : World) (x y : Nat) (f l : List UInt8) (rs : List (List UInt8)) (h : Two w W x y f l rs) (hlen : f.length + l.length ≤ 500000) :
    Calls Try.prog 18 #[.pointer (some ⟨x, 0, none⟩)] W fun e w' => e = .returned (.tuple #[]) ∧ Mid w w' x y f l rs (f ++ l) [] rs := by
  obtain ⟨bs, cs, h1, h2, h3, h4, h5, h6⟩ := h
  refine (lsync_any W x f l rs bs h1 hlen).mono ?_
  rintro e w' ⟨rfl, hL, hp⟩
  exact ⟨rfl, mid_of h2 h3 h4 h5 h6 hL (fun k hk => by obtain rfl : k = x := (by simpa using hk); exact h1.2.1) hp⟩
theorem tsync2 (w W : World) (x y : Nat) (f l : List UInt8) (rs : List (List UInt8)) (h : Mid w W x y f l rs (f ++ l) [] rs) (hlen : f.length + l.length ≤ 500000) :
    Calls Try.prog 27 #[.pointer (some ⟨y, 0, none⟩)] W fun e w' => e = .returned (.tuple #[]) ∧ Two w w' x y (f ++ l) [] rs := by
  obtain ⟨bs, cs, h1, h2, h3, h4, h5, h6⟩ := h
  refine (rsync_any W y f l rs cs h2 hlen).mono ?_
  rintro e w' ⟨rfl, hL, hp⟩
  exact ⟨rfl, two_of h1 h3 h4 h5 h6 h2.2.1 hL hp⟩

theorem Two.ref {w W : World} {x y : Nat} {f l : List UInt8} {rs : List (List UInt8)} (h : Two w W x y f l rs) (hr : rs.length ≤ 1000000) : ∃ fa fc la lc ra rc, W.cell? ⟨y, 0, none⟩ = some (.slice fa f.length fc) ∧ W.cell? ⟨y, 1, none⟩ = some (.slice la l.length lc) ∧ W.cell? ⟨y, 2, none⟩ = some (.slice ra rs.length rc) ∧ Bs W (.slice fa f.length fc) f ∧ Bs W (.slice la l.length lc) l ∧ Bss W (.slice ra rs.length rc) rs ∧ y < W.heap.size := by
  obtain ⟨bs, cs, h1, h2, h3, h4, h5, h6⟩ := h
  obtain ⟨fa, fc, la, lc, ⟨c0, _⟩, ⟨c1, _⟩, hf, hl, hy⟩ := h2.sees
  obtain ⟨ra, rc, vs, ⟨c2, _⟩, r2, _, r4⟩ := h2.rows
  exact ⟨fa, fc, la, lc, ra, rc, c0, c1, c2, hf, hl, ⟨vs, Cs.of_own r2 (by omega), r4.imp fun _ _ h => h.bs⟩, hy⟩

/-- Both opened, one behind the other. -/
theorem two_open {w W V : World} {x y : Nat} {f l : List UInt8} {rs : List (List UInt8)} {bs cs : List Nat} {W0 W1 : World} (ho : Only [] w W0) (hb : ∀ k ∈ bs, W0.heap.size ≤ k ∧ k < W.heap.size) (h1 : Lg W x f l rs bs) (o1 : Only [] W0 W) (o2 : Only [] W W1) (o3 : Only [] W1 V) (h2 : RLg V y f l rs cs) (hc : ∀ k ∈ cs, W1.heap.size ≤ k ∧ k < V.heap.size) : Two w V x y f l rs := by
  have s0 := ho.size
  have s1 := o1.size
  have s2 := o2.size
  have s3 := o3.size
  refine ⟨bs, cs, (h1.kept0 o2).kept0 o3, h2, fun k hk => ?_, fun k hk => ?_, fun k hk hk2 => ?_, ((ho.trans0 o1).trans0 o2).trans0 o3⟩
  · have := hb k hk; omega
  · have := hc k hk; omega
  · have := hb k hk; have := hc k hk2; omega
end Go.Proofs.Ytlcfmocojakhpaa.Sh
