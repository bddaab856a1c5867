/- Texts of this proof, merged: KpP, KpQ, KpR, KpS, KpT, KpU, KpV, KpW, KpX, KpY, KpZ, KqA. -/
import Derived.Test.YtnlmeaijnfjakaaZ2
import Derived.Test.YtnlmeaijnfjakaaCodecD
/- Redo's reading closure: walked. -/
namespace Go.Proofs.Ytnlmeaijnfjakaa.Sh
set_option linter.unusedSimpArgs false
set_option linter.unusedVariables false
open Go Go.RowKit

inductive Do where
  | no
  | keep (d s : List UInt8)
  | com (slot : Nat) (ids : List (List UInt8))
  | forg (ids : List (List UInt8))

/-- What a record's first byte and the rest are read as: the error, what is to be done, what is left. -/
def redoP (c : UInt8) (r : List UInt8) : Nat × Do × List UInt8 :=
  if c = 1 then
    (if (digL r).1 = 0 then
      (if (textL 32 (digL r).2.2).1 = 0 then (0, .keep (digL r).2.1 (textL 32 (digL r).2.2).2.1, (textL 32 (digL r).2.2).2.2) else ((textL 32 (digL r).2.2).1, .no, []))
     else ((digL r).1, .no, []))
  else if c = 2 then
    (if (numL 18446744073709551615 r).1 = 0 then
      (if (listL 8 (numL 18446744073709551615 r).2.2).1 = 0 then (0, .com (numL 18446744073709551615 r).2.1 (listL 8 (numL 18446744073709551615 r).2.2).2.1, (listL 8 (numL 18446744073709551615 r).2.2).2.2) else ((listL 8 (numL 18446744073709551615 r).2.2).1, .no, []))
     else ((numL 18446744073709551615 r).1, .no, []))
  else if c = 3 then
    (if (listL 24 r).1 = 0 then (0, .forg (listL 24 r).2.1, (listL 24 r).2.2) else ((listL 24 r).1, .no, []))
  else (0, .no, r)
def doK (m : Km) : Do → Km
  | .no => m
  | .keep d s => (keepK m d s).2
  | .com slot ids => (commitK m slot ids).2
  | .forg ids => (forgetK m ids).2
theorem redoB_P (m : Km) (c : UInt8) (r : List UInt8) : redoB m c r = if (redoP c r).1 = 0 ∧ (redoP c r).2.2 = [] then doK m (redoP c r).2.1 else m := by
  unfold redoB redoP
  split
  · by_cases h1 : (digL r).1 = 0
    · by_cases h2 : (textL 32 (digL r).2.2).1 = 0
      · simp [h1, h2, doK]
      · simp [h1, h2, doK]
    · simp [h1, doK]
  · split
    · by_cases h1 : (numL 18446744073709551615 r).1 = 0
      · by_cases h2 : (listL 8 (numL 18446744073709551615 r).2.2).1 = 0
        · simp [h1, h2, doK]
        · simp [h1, h2, doK]
      · simp [h1, doK]
    · split
      · by_cases h1 : (listL 24 r).1 = 0
        · simp [h1, doK]
        · simp [h1, doK]
      · simp [doK]

/-- What stands in the variable of what is to be done. B: what was made stands from here on. -/
def DoAt (w : World) (B kx dn : Nat) : Do → Prop
  | .no => w.cell? ⟨dn, 0, none⟩ = some .nilFunc
  | .keep d s => ∃ dx sx v, w.cell? ⟨dn, 0, none⟩ = some (.func (.func 63) #[] #[.pointer (some ⟨kx, 0, none⟩), .pointer (some ⟨dx, 0, none⟩), .pointer (some ⟨sx, 0, none⟩)]) ∧ B ≤ dx ∧ Dv w dx d ∧ B ≤ sx ∧ w.cell? ⟨sx, 0, none⟩ = some v ∧ w.ownsRow B 5 1 v s.length (bytes s)
  | .com slot ids => ∃ sx ix v, w.cell? ⟨dn, 0, none⟩ = some (.func (.func 66) #[] #[.pointer (some ⟨kx, 0, none⟩), .pointer (some ⟨sx, 0, none⟩), .pointer (some ⟨ix, 0, none⟩)]) ∧ B ≤ sx ∧ w.cell? ⟨sx, 0, none⟩ = some (.int .u64 (slot : Int)) ∧ B ≤ ix ∧ w.cell? ⟨ix, 0, none⟩ = some v ∧ OwnD B w v ids
  | .forg ids => ∃ ix v, w.cell? ⟨dn, 0, none⟩ = some (.func (.func 67) #[] #[.pointer (some ⟨kx, 0, none⟩), .pointer (some ⟨ix, 0, none⟩)]) ∧ B ≤ ix ∧ w.cell? ⟨ix, 0, none⟩ = some v ∧ OwnD B w v ids

def RedoPost (rb fb kx dn : Nat) (p : Nat × Do × List UInt8) (w : World) (e : Ending) (w' : World) : Prop :=
  Only [rb, dn] w w' ∧ (∃ l', Rd w' rb fb l') ∧ (p.1 = 0 ∧ e = .returned (.tuple #[]) ∧ Rd w' rb fb p.2.2 ∧ DoAt w' w.heap.size kx dn p.2.1 ∨ p.1 ≠ 0 ∧ e = .panicked (ownEnd rb p.1))

theorem store_func (P : Program) (w : World) (b : Nat) (u : Value) (hc : w.cell? ⟨b, 0, none⟩ = some u) (hz : w.frozen? ⟨b, 0, none⟩ = false) (f : Fn) (xs cs : Array Value) :
    (store ⟨b, 0, none⟩ (.func f xs cs)).run P w = .ok () (w.setCell ⟨b, 0, none⟩ (.func f xs cs)) := by
  rw [run_store P w _ _ _ rfl]
  simp [hc, hz]

section
variable (rb fb bb kx dn q o n cap : Nat) (c : UInt8) (l : List UInt8) (w : World)

set_option maxRecDepth 20000 in
set_option maxHeartbeats 3200000 in
theorem redo1_3 (h : Rd w rb fb l) (hb : w.cell? ⟨bb, 0, none⟩ = some (.slice (some ⟨q, o, none⟩) n cap)) (hn : 0 < n) (hq : w.cell? ⟨q, o, none⟩ = some (vU8 3)) (hd : w.cell? ⟨dn, 0, none⟩ = some .nilFunc) (hz : w.frozen? ⟨dn, 0, none⟩ = false) (h1 : dn ≠ rb) (h2 : dn ≠ fb) :
    Calls Try.prog 60 #[.pointer (some ⟨rb, 0, none⟩), .pointer (some ⟨bb, 0, none⟩), .pointer (some ⟨kx, 0, none⟩), .pointer (some ⟨dn, 0, none⟩)] w (RedoPost rb fb kx dn (redoP 3 l) w) := by
  obtain ⟨p, hp⟩ : ∃ p, p = redoP 3 l := ⟨_, rfl⟩
  have HP := hid (show p = (if (listL 24 l).1 = 0 then (0, .forg (listL 24 l).2.1, (listL 24 l).2.2) else ((listL 24 l).1, .no, [])) from hp)
  rw [← hp]
  clear hp
  have hmf : ∀ (fn : Fn) (first cap : Array Value) (w : World), (Instr.makeFunc fn first cap).run Try.prog w = .ok (.func fn first cap) w := fun _ _ _ _ => rfl
  have hla := hid (list_any rb fb 24 l w h (by omega))
  have hdl : dn < w.heap.size := World.block_lt_of_cell? w _ hd
  have hv3 : vU8 3 = .int .u8 3 := rfl
  rw [hv3] at hq
  clear hv3
  go_enter Try.func60, Try.ntmps60
  go_wp2_with fail
  refine hla.out.mono ?_
  rintro e w1 ⟨o1, hr1, hcase⟩
  have s1 := o1.size
  rcases hcase with ⟨hc, ⟨v, rfl, ho⟩, hrd⟩ | ⟨hc, rfl⟩
  · have HQ := hid (show p = (0, .forg (listL 24 l).2.1, (listL 24 l).2.2) by rw [HP.out, if_pos hc])
    obtain ⟨ids, hids⟩ : ∃ ids, ids = (listL 24 l).2.1 := ⟨_, rfl⟩
    obtain ⟨l', hl'⟩ : ∃ l', l' = (listL 24 l).2.2 := ⟨_, rfl⟩
    rw [← hids, ← hl'] at HQ
    rw [← hids] at ho
    rw [← hl'] at hrd
    have hd1 := o1.cell hd (by simpa using h1)
    have hz1 : w1.frozen? ⟨dn, 0, none⟩ = false := by rw [o1.frozen' hdl (by simpa using h1)]; exact hz
    obtain ⟨va, vc, rfl⟩ := own_form ho.1
    have hdl1 : dn < w1.heap.size := by omega
    have hne1 : dn ≠ w1.heap.size := by omega
    obtain ⟨w2, hw2⟩ : ∃ w2, w2 = w1.alloc (Obj.cells #[.slice va ids.length vc] 42) := ⟨_, rfl⟩
    have o2 : Only [] w1 w2 := by rw [hw2]; exact (Only.refl [] w1).alloc _
    have hd2 := o2.cell hd1 (by simp)
    have hz2 : w2.frozen? ⟨dn, 0, none⟩ = false := by rw [o2.frozen' hdl1 (by simp)]; exact hz1
    have hi2 : w2.cell? ⟨w1.heap.size, 0, none⟩ = some (.slice va ids.length vc) := by rw [hw2]; simp [go_sem]
    have s2 := o2.size
    clear hla hr1 hc hids hl' HP
    go_wp2
    rw [← hw2]
    clear hw2
    have hst := store_func Try.prog w2 dn .nilFunc hd2 hz2
    rw [hst]
    go_wp2
    go_end0
    have q3 := (Only.refl [dn] w2).setCell (p := ⟨dn, 0, none⟩) (.inl (by simp)) (.func (.func 67) #[] #[.pointer (some ⟨kx, 0, none⟩), .pointer (some ⟨w1.heap.size, 0, none⟩)])
    have hr3 := (hrd.kept0 o2).kept q3 (by simpa using Ne.symm h1) (.inr (by simpa using Ne.symm h2))
    refine ⟨(o1.trans o2 (ds := [rb]) (by simp) (by simp)).trans q3 (ds := [rb, dn]) (by simp) (by simp), ⟨_, hr3⟩, .inl ⟨by rw [HQ.out], rfl, by rw [HQ.out]; exact hr3, ?_⟩⟩
    rw [HQ.out]
    exact ⟨w1.heap.size, _, World.cell?_setCell_same _ _ _ hd2, by omega, q3.cell hi2 (by simpa using Ne.symm hne1), (ho.only o2 (by simp)).only q3 (fun i hi hm => by have e1 := (ho.1.lt i hi).1; rw [List.mem_singleton] at hm; omega)⟩
  · have HQ := hid (show p = ((listL 24 l).1, .no, []) by rw [HP.out, if_neg hc])
    exact ⟨rfl, o1.mono (fun x hx => .inl (by simp at hx; simp [hx])), hr1, .inr ⟨by rw [HQ.out]; exact hc, by rw [HQ.out]⟩⟩
end
end Go.Proofs.Ytnlmeaijnfjakaa.Sh
/- Redo's reading closure, the commit's record: walked. -/
namespace Go.Proofs.Ytnlmeaijnfjakaa.Sh
set_option linter.unusedSimpArgs false
set_option linter.unusedVariables false
open Go Go.RowKit
section
variable (rb fb bb kx dn q o n cap : Nat) (l : List UInt8) (w : World)

set_option maxRecDepth 20000 in
set_option maxHeartbeats 3200000 in
theorem redo1_2 (h : Rd w rb fb l) (hb : w.cell? ⟨bb, 0, none⟩ = some (.slice (some ⟨q, o, none⟩) n cap)) (hn : 0 < n) (hq : w.cell? ⟨q, o, none⟩ = some (vU8 2)) (hd : w.cell? ⟨dn, 0, none⟩ = some .nilFunc) (hz : w.frozen? ⟨dn, 0, none⟩ = false) (h1 : dn ≠ rb) (h2 : dn ≠ fb) :
    Calls Try.prog 60 #[.pointer (some ⟨rb, 0, none⟩), .pointer (some ⟨bb, 0, none⟩), .pointer (some ⟨kx, 0, none⟩), .pointer (some ⟨dn, 0, none⟩)] w (RedoPost rb fb kx dn (redoP 2 l) w) := by
  obtain ⟨p, hp⟩ : ∃ p, p = redoP 2 l := ⟨_, rfl⟩
  obtain ⟨nl, hnl⟩ : ∃ nl, nl = numL 18446744073709551615 l := ⟨_, rfl⟩
  have HP := hid (show p = (if nl.1 = 0 then
      (if (listL 8 nl.2.2).1 = 0 then (0, .com nl.2.1 (listL 8 nl.2.2).2.1, (listL 8 nl.2.2).2.2) else ((listL 8 nl.2.2).1, .no, []))
     else (nl.1, .no, [])) by rw [hp, hnl]; rfl)
  rw [← hp]
  clear hp
  have hmf : ∀ (fn : Fn) (first cap : Array Value) (w : World), (Instr.makeFunc fn first cap).run Try.prog w = .ok (.func fn first cap) w := fun _ _ _ _ => rfl
  have hnu := hid (number_any rb fb 18446744073709551615 l w h (by omega))
  have hdl : dn < w.heap.size := World.block_lt_of_cell? w _ hd
  have hv3 : vU8 2 = .int .u8 2 := rfl
  rw [hv3] at hq
  clear hv3
  unfold NumPost at hnu
  rw [← hnl] at hnu
  clear hnl
  go_enter Try.func60, Try.ntmps60
  go_wp2_with fail
  refine hnu.out.mono ?_
  rintro e w1 ⟨o1, hr1, hcase⟩
  have s1 := o1.size
  rcases hcase with ⟨hc, rfl, hrd⟩ | ⟨hc, rfl⟩
  · have hla := hid (list_any rb fb 8 nl.2.2 w1 hrd (by omega))
    have HQ := hid (show p = (if (listL 8 nl.2.2).1 = 0 then (0, .com nl.2.1 (listL 8 nl.2.2).2.1, (listL 8 nl.2.2).2.2) else ((listL 8 nl.2.2).1, .no, [])) by rw [HP.out, if_pos hc])
    obtain ⟨slot, hslot⟩ : ∃ slot, slot = nl.2.1 := ⟨_, rfl⟩
    obtain ⟨l1, hl1⟩ : ∃ l1, l1 = nl.2.2 := ⟨_, rfl⟩
    rw [← hslot, ← hl1] at HQ
    rw [← hl1] at hla hrd
    rw [← hslot]
    clear hnu HP hslot hl1 hc hr1
    go_wp2_with fail
    refine hla.out.mono ?_
    rintro e w2 ⟨o2, hr2, hcase⟩
    have s2 := o2.size
    rcases hcase with ⟨hc, ⟨v, rfl, ho⟩, hrd2⟩ | ⟨hc, rfl⟩
    · have HR := hid (show p = (0, .com slot (listL 8 l1).2.1, (listL 8 l1).2.2) by rw [HQ.out, if_pos hc])
      obtain ⟨ids, hids⟩ : ∃ ids, ids = (listL 8 l1).2.1 := ⟨_, rfl⟩
      obtain ⟨l', hl'⟩ : ∃ l', l' = (listL 8 l1).2.2 := ⟨_, rfl⟩
      rw [← hids, ← hl'] at HR
      rw [← hids] at ho
      rw [← hl'] at hrd2
      have o12 := o1.trans o2 (ds := [rb]) (by simp) (by simp)
      have hd2 := o12.cell hd (by simpa using h1)
      have hz2 : w2.frozen? ⟨dn, 0, none⟩ = false := by rw [o12.frozen' hdl (by simpa using h1)]; exact hz
      obtain ⟨va, vc, rfl⟩ := own_form ho.1
      have hdl2 : dn < w2.heap.size := by omega
      obtain ⟨w3, hw3⟩ : ∃ w3, w3 = (w2.alloc (Obj.cells #[.int .u64 (slot : Int)] 30)).alloc (Obj.cells #[.slice va ids.length vc] 42) := ⟨_, rfl⟩
      have o3 : Only [] w2 w3 := by rw [hw3]; exact ((Only.refl [] w2).alloc _).alloc _
      have hd3 := o3.cell hd2 (by simp)
      have hz3 : w3.frozen? ⟨dn, 0, none⟩ = false := by rw [o3.frozen' hdl2 (by simp)]; exact hz2
      have hx3 : w3.cell? ⟨w2.heap.size, 0, none⟩ = some (.int .u64 (slot : Int)) := by rw [hw3]; simp [go_sem]
      have hi3 : w3.cell? ⟨w2.heap.size + 1, 0, none⟩ = some (.slice va ids.length vc) := by rw [hw3]; simp [go_sem]
      clear hla hr2 hc hids hl' HQ
      go_wp2
      rw [← hw3]
      clear hw3
      have hst := store_func Try.prog w3 dn .nilFunc hd3 hz3
      rw [hst]
      go_wp2
      go_end0
      have q3 := (Only.refl [dn] w3).setCell (p := ⟨dn, 0, none⟩) (.inl (by simp)) (.func (.func 66) #[] #[.pointer (some ⟨kx, 0, none⟩), .pointer (some ⟨w2.heap.size, 0, none⟩), .pointer (some ⟨w2.heap.size + 1, 0, none⟩)])
      have hr3 := (hrd2.kept0 o3).kept q3 (by simpa using Ne.symm h1) (.inr (by simpa using Ne.symm h2))
      refine ⟨(o12.trans o3 (ds := [rb]) (by simp) (by simp)).trans q3 (ds := [rb, dn]) (by simp) (by simp), ⟨_, hr3⟩, .inl ⟨by rw [HR.out], rfl, by rw [HR.out]; exact hr3, ?_⟩⟩
      rw [HR.out]
      refine ⟨w2.heap.size, w2.heap.size + 1, _, World.cell?_setCell_same _ _ _ hd3, by omega, q3.cell hx3 (by simp; omega), by omega, q3.cell hi3 (by simp; omega), ?_⟩
      have ho' : OwnD w.heap.size w2 (.slice va ids.length vc) ids := ⟨own_lower ho.1 s1, ho.2⟩
      exact (ho'.only o3 (by simp)).only q3 (fun i hi hm => by have e1 := (ho.1.lt i hi).1; rw [List.mem_singleton] at hm; omega)
    · have HR := hid (show p = ((listL 8 l1).1, .no, []) by rw [HQ.out, if_neg hc])
      have o12 := o1.trans o2 (ds := [rb]) (by simp) (by simp)
      exact ⟨rfl, o12.mono (fun x hx => .inl (by simp at hx; simp [hx])), hr2, .inr ⟨by rw [HR.out]; exact hc, by rw [HR.out]⟩⟩
  · have HQ := hid (show p = (nl.1, .no, []) by rw [HP.out, if_neg hc])
    exact ⟨rfl, o1.mono (fun x hx => .inl (by simp at hx; simp [hx])), hr1, .inr ⟨by rw [HQ.out]; exact hc, by rw [HQ.out]⟩⟩
end
end Go.Proofs.Ytnlmeaijnfjakaa.Sh
/- Redo's reading closure, the keep's record and what is no record: walked. -/
namespace Go.Proofs.Ytnlmeaijnfjakaa.Sh
set_option linter.unusedSimpArgs false
set_option linter.unusedVariables false
open Go Go.RowKit
section
variable (rb fb bb kx dn q o n cap : Nat) (l : List UInt8) (w : World)

set_option maxRecDepth 20000 in
set_option maxHeartbeats 3200000 in
theorem redo1_0 (c : UInt8) (hc1 : c ≠ 1) (hc2 : c ≠ 2) (hc3 : c ≠ 3) (h : Rd w rb fb l) (hb : w.cell? ⟨bb, 0, none⟩ = some (.slice (some ⟨q, o, none⟩) n cap)) (hn : 0 < n) (hq : w.cell? ⟨q, o, none⟩ = some (vU8 c)) (hd : w.cell? ⟨dn, 0, none⟩ = some .nilFunc) :
    Calls Try.prog 60 #[.pointer (some ⟨rb, 0, none⟩), .pointer (some ⟨bb, 0, none⟩), .pointer (some ⟨kx, 0, none⟩), .pointer (some ⟨dn, 0, none⟩)] w (RedoPost rb fb kx dn (redoP c l) w) := by
  have hfin := hid (show RedoPost rb fb kx dn (redoP c l) w (.returned (.tuple #[])) w by
    have hp : redoP c l = (0, .no, l) := by unfold redoP; rw [if_neg hc1, if_neg hc2, if_neg hc3]
    rw [hp]
    exact ⟨Only.refl _ w, ⟨_, h⟩, .inl ⟨rfl, rfl, h, hd⟩⟩)
  obtain ⟨p, hp⟩ : ∃ p, p = redoP c l := ⟨_, rfl⟩
  rw [← hp] at hfin ⊢
  clear hp
  have e1 : ¬ ((c.toNat : Int) = 1) := fun e => hc1 (UInt8.toNat_inj.1 (by show c.toNat = 1; omega))
  have e2 : ¬ ((c.toNat : Int) = 2) := fun e => hc2 (UInt8.toNat_inj.1 (by show c.toNat = 2; omega))
  have e3 : ¬ ((c.toNat : Int) = 3) := fun e => hc3 (UInt8.toNat_inj.1 (by show c.toNat = 3; omega))
  have hv3 : vU8 c = .int .u8 (c.toNat : Int) := rfl
  rw [hv3] at hq
  have hlt := u8_bound c
  clear hv3 h hd hc1 hc2 hc3
  go_enter Try.func60, Try.ntmps60
  go_wp2
  go_end0
  exact hfin.out

set_option maxRecDepth 20000 in
set_option maxHeartbeats 3200000 in
theorem redo1_1 (h : Rd w rb fb l) (hb : w.cell? ⟨bb, 0, none⟩ = some (.slice (some ⟨q, o, none⟩) n cap)) (hn : 0 < n) (hq : w.cell? ⟨q, o, none⟩ = some (vU8 1)) (hd : w.cell? ⟨dn, 0, none⟩ = some .nilFunc) (hz : w.frozen? ⟨dn, 0, none⟩ = false) (h1 : dn ≠ rb) (h2 : dn ≠ fb) :
    Calls Try.prog 60 #[.pointer (some ⟨rb, 0, none⟩), .pointer (some ⟨bb, 0, none⟩), .pointer (some ⟨kx, 0, none⟩), .pointer (some ⟨dn, 0, none⟩)] w (RedoPost rb fb kx dn (redoP 1 l) w) := by
  obtain ⟨p, hp⟩ : ∃ p, p = redoP 1 l := ⟨_, rfl⟩
  obtain ⟨nl, hnl⟩ : ∃ nl, nl = digL l := ⟨_, rfl⟩
  have HP := hid (show p = (if nl.1 = 0 then
      (if (textL 32 nl.2.2).1 = 0 then (0, .keep nl.2.1 (textL 32 nl.2.2).2.1, (textL 32 nl.2.2).2.2) else ((textL 32 nl.2.2).1, .no, []))
     else (nl.1, .no, [])) by rw [hp, hnl]; rfl)
  rw [← hp]
  clear hp
  have hmf : ∀ (fn : Fn) (first cap : Array Value) (w : World), (Instr.makeFunc fn first cap).run Try.prog w = .ok (.func fn first cap) w := fun _ _ _ _ => rfl
  have hnu := hid (dig_any rb fb l w h)
  have hl32 : (digL l).1 = 0 → Hid ((digL l).2.1.length = 32) := fun hz => by
    show _ = _
    unfold digL at hz ⊢
    split at hz
    · cases hz
    · rename_i h9
      rw [if_neg h9]
      simp; omega
  have hdl : dn < w.heap.size := World.block_lt_of_cell? w _ hd
  have hv3 : vU8 1 = .int .u8 1 := rfl
  rw [hv3] at hq
  clear hv3
  unfold DigPost at hnu
  rw [← hnl] at hnu hl32
  clear hnl
  go_enter Try.func60, Try.ntmps60
  go_wp2_with fail
  refine hnu.out.mono ?_
  rintro e w1 ⟨o1, hr1, hcase⟩
  have s1 := o1.size
  rcases hcase with ⟨hc, rfl, hrd⟩ | ⟨hc, rfl⟩
  · have hla := hid (text_any rb fb 32 nl.2.2 w1 hrd (by omega))
    have hlen := (hl32 hc).out
    have HQ := hid (show p = (if (textL 32 nl.2.2).1 = 0 then (0, .keep nl.2.1 (textL 32 nl.2.2).2.1, (textL 32 nl.2.2).2.2) else ((textL 32 nl.2.2).1, .no, [])) by rw [HP.out, if_pos hc])
    obtain ⟨d, hdd⟩ : ∃ d, d = nl.2.1 := ⟨_, rfl⟩
    obtain ⟨l1, hl1⟩ : ∃ l1, l1 = nl.2.2 := ⟨_, rfl⟩
    rw [← hdd, ← hl1] at HQ
    rw [← hl1] at hla hrd
    rw [← hdd] at hlen ⊢
    clear hnu HP hdd hl1 hc hr1 hl32
    go_wp2_with fail
    refine hla.out.mono ?_
    rintro e w2 ⟨o2, hr2, hcase⟩
    have s2 := o2.size
    rcases hcase with ⟨hc, ⟨v, rfl, ho⟩, hrd2⟩ | ⟨hc, rfl⟩
    · have HR := hid (show p = (0, .keep d (textL 32 l1).2.1, (textL 32 l1).2.2) by rw [HQ.out, if_pos hc])
      obtain ⟨t, ht⟩ : ∃ t, t = (textL 32 l1).2.1 := ⟨_, rfl⟩
      obtain ⟨l', hl'⟩ : ∃ l', l' = (textL 32 l1).2.2 := ⟨_, rfl⟩
      rw [← ht, ← hl'] at HR
      rw [← ht] at ho
      rw [← hl'] at hrd2
      have o12 := o1.trans o2 (ds := [rb]) (by simp) (by simp)
      have hd2 := o12.cell hd (by simpa using h1)
      have hz2 : w2.frozen? ⟨dn, 0, none⟩ = false := by rw [o12.frozen' hdl (by simpa using h1)]; exact hz
      obtain ⟨va, vc, rfl⟩ := own_form ho
      have hdl2 : dn < w2.heap.size := by omega
      have oa : Only [] w2 ((w2.alloc (Obj.cells Z32 35)).alloc (Obj.cells #[.slice none 0 0] 27)) := ((Only.refl [] w2).alloc _).alloc _
      have hDa := (Dv.fresh w2 35).kept0 ((Only.refl [] (w2.alloc (Obj.cells Z32 35))).alloc (Obj.cells #[.slice none 0 0] 27))
      have hta := hDa.there
      have hca : ((w2.alloc (Obj.cells Z32 35)).alloc (Obj.cells #[.slice none 0 0] 27)).cell? ⟨w2.heap.size + 1, 0, none⟩ = some (.slice none 0 0) := by simp [go_sem]
      have hza : ((w2.alloc (Obj.cells Z32 35)).alloc (Obj.cells #[.slice none 0 0] 27)).frozen? ⟨w2.heap.size + 1, 0, none⟩ = false := by simp [go_sem]
      have hsa : ((w2.alloc (Obj.cells Z32 35)).alloc (Obj.cells #[.slice none 0 0] 27)).heap.size = w2.heap.size + 2 := by simp
      clear hla hr2 hc ht hl' HQ
      rw [show vD d = .agg (bytes d).toArray from rfl]
      go_wp2_with (first
        | (refine wpList_store_dig (by rfl) _ _ (by rfl) w2.heap.size d (bytes d).toArray (by rfl) (by rfl) rfl hlen hta ?_; intro w3 hD3 q3; have hc3 := q3.cell hca (by simp); have hz3 := (q3.frozen' (p := ⟨w2.heap.size + 1, 0, none⟩) (by simp) (by simp)).trans hza))
      have o3 : Only [] w2 w3 := oa.trans q3 (by simp) (by simp)
      have hd3 := o3.cell hd2 (by simp)
      have hz4 : w3.frozen? ⟨dn, 0, none⟩ = false := by rw [o3.frozen' hdl2 (by simp)]; exact hz2
      have r4 := (Only.refl [w2.heap.size + 1] w3).setCell (p := ⟨w2.heap.size + 1, 0, none⟩) (.inl (by simp)) (.slice va t.length vc)
      obtain ⟨w4, hw4⟩ : ∃ w4, w4 = w3.setCell ⟨w2.heap.size + 1, 0, none⟩ (.slice va t.length vc) := ⟨_, rfl⟩
      have s3 := q3.size
      have hc4 : w4.cell? ⟨w2.heap.size + 1, 0, none⟩ = some (.slice va t.length vc) := by rw [hw4]; exact World.cell?_setCell_same _ _ _ hc3
      rw [← hw4] at r4
      have o4 : Only [] w2 w4 := o3.trans r4 (by simp) (by simp)
      have hd4 := o4.cell hd2 (by simp)
      have hz5 : w4.frozen? ⟨dn, 0, none⟩ = false := by rw [o4.frozen' hdl2 (by simp)]; exact hz2
      have hD4 := hD3.kept r4 (by simp)
      go_wp2
      rw [← hw4]
      clear hw4
      have hst := store_func Try.prog w4 dn .nilFunc hd4 hz5
      rw [hst]
      go_wp2
      go_end0
      have q5 := (Only.refl [dn] w4).setCell (p := ⟨dn, 0, none⟩) (.inl (by simp)) (.func (.func 63) #[] #[.pointer (some ⟨kx, 0, none⟩), .pointer (some ⟨w2.heap.size, 0, none⟩), .pointer (some ⟨w2.heap.size + 1, 0, none⟩)])
      have hr3 := (hrd2.kept0 o4).kept q5 (by simpa using Ne.symm h1) (.inr (by simpa using Ne.symm h2))
      refine ⟨(o12.trans o4 (ds := [rb]) (by simp) (by simp)).trans q5 (ds := [rb, dn]) (by simp) (by simp), ⟨_, hr3⟩, .inl ⟨by rw [HR.out], rfl, by rw [HR.out]; exact hr3, ?_⟩⟩
      rw [HR.out]
      refine ⟨w2.heap.size, w2.heap.size + 1, _, World.cell?_setCell_same _ _ _ hd4, by omega, hD4.kept q5 (by simp; omega), by omega, q5.cell hc4 (by simp; omega), ?_⟩
      exact own_only (own_only (own_lower ho s1) o4 (by simp)) q5 (fun i hi hm => by have e1 := (ho.lt i hi).1; rw [List.mem_singleton] at hm; omega)
    · have HR := hid (show p = ((textL 32 l1).1, .no, []) by rw [HQ.out, if_neg hc])
      have o12 := o1.trans o2 (ds := [rb]) (by simp) (by simp)
      exact ⟨rfl, o12.mono (fun x hx => .inl (by simp at hx; simp [hx])), hr2, .inr ⟨by rw [HR.out]; exact hc, by rw [HR.out]⟩⟩
  · have HQ := hid (show p = (nl.1, .no, []) by rw [HP.out, if_neg hc])
    exact ⟨rfl, o1.mono (fun x hx => .inl (by simp at hx; simp [hx])), hr1, .inr ⟨by rw [HQ.out]; exact hc, by rw [HQ.out]⟩⟩
end
end Go.Proofs.Ytnlmeaijnfjakaa.Sh
/- Redo's reading closure, whole; and what it is to the codec's Read. -/
namespace Go.Proofs.Ytnlmeaijnfjakaa.Sh
set_option linter.unusedSimpArgs false
set_option linter.unusedVariables false
open Go Go.RowKit
section
variable (rb fb bb kx dn q o n cap : Nat) (l : List UInt8) (w : World)

theorem redo1_any (c : UInt8) (h : Rd w rb fb l) (hb : w.cell? ⟨bb, 0, none⟩ = some (.slice (some ⟨q, o, none⟩) n cap)) (hn : 0 < n) (hq : w.cell? ⟨q, o, none⟩ = some (vU8 c)) (hd : w.cell? ⟨dn, 0, none⟩ = some .nilFunc) (hz : w.frozen? ⟨dn, 0, none⟩ = false) (h1 : dn ≠ rb) (h2 : dn ≠ fb) :
    Calls Try.prog 60 #[.pointer (some ⟨rb, 0, none⟩), .pointer (some ⟨bb, 0, none⟩), .pointer (some ⟨kx, 0, none⟩), .pointer (some ⟨dn, 0, none⟩)] w (RedoPost rb fb kx dn (redoP c l) w) := by
  by_cases e1 : c = 1
  · subst e1; exact redo1_1 rb fb bb kx dn q o n cap l w h hb hn hq hd hz h1 h2
  by_cases e2 : c = 2
  · subst e2; exact redo1_2 rb fb bb kx dn q o n cap l w h hb hn hq hd hz h1 h2
  by_cases e3 : c = 3
  · subst e3; exact redo1_3 rb fb bb kx dn q o n cap l w h hb hn hq hd hz h1 h2
  exact redo1_0 rb fb bb kx dn q o n cap l w c e1 e2 e3 h hb hn hq hd

/-- What was read stands on where only old cells change. -/
theorem DoAt.only {w w' : World} {B kx dn : Nat} {x : Do} (h : DoAt w B kx dn x) {bs : List Nat} (ho : Only bs w w') (hd : dn ∉ bs) (hb : ∀ i ∈ bs, i < B) : DoAt w' B kx dn x := by
  have hn : ∀ i, B ≤ i → i ∉ bs := fun i hi hm => by have := hb i hm; omega
  cases x with
  | no => exact ho.cell h hd
  | keep d s =>
    obtain ⟨dx, sx, v, h1, h2, h3, h4, h5, h6⟩ := h
    exact ⟨dx, sx, v, ho.cell h1 hd, h2, h3.kept ho (hn _ h2), h4, ho.cell h5 (hn _ h4), own_only h6 ho (fun i hi => hn i (h6.lt i hi).1)⟩
  | com slot ids =>
    obtain ⟨sx, ix, v, h1, h2, h3, h4, h5, h6⟩ := h
    exact ⟨sx, ix, v, ho.cell h1 hd, h2, ho.cell h3 (hn _ h2), h4, ho.cell h5 (hn _ h4), h6.only ho (fun i hi => hn i (h6.1.lt i hi).1)⟩
  | forg ids =>
    obtain ⟨ix, v, h1, h2, h3, h4⟩ := h
    exact ⟨ix, v, ho.cell h1 hd, h2, ho.cell h3 (hn _ h2), h4.only ho (fun i hi => hn i (h4.1.lt i hi).1)⟩
end
end Go.Proofs.Ytnlmeaijnfjakaa.Sh
/- What codec.Read makes of redo's reading closure. -/
namespace Go.Proofs.Ytnlmeaijnfjakaa.Sh
set_option linter.unusedSimpArgs false
set_option linter.unusedVariables false
open Go Go.RowKit

theorem enter_redo1 : ∀ (args : Array Value) (w : World), (callFunc 60 args).run Try.prog w = .ok (.enter 60 args) w := fun _ _ => rfl

def RReadPost (kx dn : Nat) (p : Nat × Do × List UInt8) (w : World) (e : Ending) (w' : World) : Prop :=
  Only [dn] w w' ∧ ∃ z : Nat, e = .returned (.int .i64 (z : Int)) ∧ z ≤ 100 ∧ (z = 0 ↔ p.1 = 0 ∧ p.2.2 = []) ∧ (p.1 = 0 → DoAt w' (w.heap.size + 3) kx dn p.2.1)

set_option maxRecDepth 20000 in
set_option maxHeartbeats 1600000 in
theorem redoRead_any (fb bb kx dn q o n cap : Nat) (l : List UInt8) (w : World) (c : UInt8) (v : Value) (hB : Bs w v l) (hfb : ∀ b, v.ownBlock = some b → l = [] ∨ b = fb) (hfn : fb ≠ w.heap.size + 1)
    (hcode : (redoP c l).1 ≤ 100)
    (hb : w.cell? ⟨bb, 0, none⟩ = some (.slice (some ⟨q, o, none⟩) n cap)) (hn : 0 < n) (hq : w.cell? ⟨q, o, none⟩ = some (vU8 c)) (hd : w.cell? ⟨dn, 0, none⟩ = some .nilFunc) (hz : w.frozen? ⟨dn, 0, none⟩ = false) (h2 : dn ≠ fb) :
    Calls Try.prog 59 #[v, .func (.func 60) #[] #[.pointer (some ⟨bb, 0, none⟩), .pointer (some ⟨kx, 0, none⟩), .pointer (some ⟨dn, 0, none⟩)]] w (RReadPost kx dn (redoP c l) w) := by
  have hdl : dn < w.heap.size := World.block_lt_of_cell? w _ hd
  refine read_any v l fb 60 _ w _ hB hfb hfn enter_redo1 ?_
  intro w2 hp2 hs2 hr2
  refine (redo1_any (w.heap.size + 1) fb bb kx dn q o n cap l w2 c hr2 (hp2.cell hb (by simp)) hn (hp2.cell hq (by simp)) (hp2.cell hd (by simp)) (by rw [hp2.frozen' hdl (by simp)]; exact hz) (by omega) h2).mono ?_
  rintro e w3 ⟨o3, ⟨l', hr'⟩, hcase⟩
  have hO : ∀ w4, Only [w.heap.size, w.heap.size + 1, w.heap.size + 1 + 1] w3 w4 → Only [dn] w w4 := fun w4 h4 =>
    (hp2.trans o3 (ds := [dn]) (by simp) (by simp)).trans h4 (ds := [dn]) (by simp) (by simp; omega)
  have hbs : ∃ bs, Only bs w2 w3 ∧ w.heap.size ∉ bs ∧ w.heap.size + 1 + 1 ∉ bs := ⟨_, o3, by simp; omega, by simp; omega⟩
  refine ⟨hbs, ?_⟩
  rcases hcase with ⟨h0, rfl, hrd, hdo⟩ | ⟨h0, rfl⟩
  · refine .inl ⟨_, rfl, hrd, fun w4 h4 => ⟨hO w4 h4, (if (redoP c l).2.2 = [] then 0 else 3), ?_, ?_, ?_, fun _ => ?_⟩⟩
    · split <;> rfl
    · split <;> omega
    · by_cases he : (redoP c l).2.2 = [] <;> simp [he, h0]
    · rw [← hs2]
      exact hdo.only h4 (by simp; omega) (by simp; omega)
  · refine .inr (.inl ⟨_, _, rfl, hr', fun w4 h4 => ⟨hO w4 h4, _, rfl, hcode, ⟨fun e => absurd e h0, fun e => absurd e.1 h0⟩, fun e => absurd e h0⟩⟩)
end Go.Proofs.Ytnlmeaijnfjakaa.Sh
/- redo: walked. -/
namespace Go.Proofs.Ytnlmeaijnfjakaa.Sh
set_option linter.unusedSimpArgs false
set_option linter.unusedVariables false
open Go Go.RowKit

theorem numF_code : ∀ (k acc : Nat) (l : List UInt8), (numF k acc l).1 ≤ 100 := by
  intro k acc l
  induction l generalizing k acc with
  | nil => simp [numF]
  | cons c l ih =>
    unfold numF
    repeat' split
    all_goals first | exact ih _ _ | (simp; done) | omega
theorem numL_code (m : Nat) (l : List UInt8) : (numL m l).1 ≤ 100 := by
  unfold numL
  split
  · simp
  · exact numF_code 0 0 l
theorem digL_code (l : List UInt8) : (digL l).1 ≤ 100 := by
  unfold digL
  split <;> simp
theorem textL_code (m : Nat) (l : List UInt8) : (textL m l).1 ≤ 100 := by
  unfold textL
  split
  · exact numL_code m l
  · split <;> simp
theorem digsL_code : ∀ (k : Nat) (l : List UInt8), (digsL k l).1 ≤ 100
  | 0, _ => by simp [digsL]
  | k + 1, l => by
    unfold digsL
    split
    · exact digsL_code k _
    · exact digL_code l
theorem listL_code (m : Nat) (l : List UInt8) : (listL m l).1 ≤ 100 := by
  unfold listL
  split
  · exact digsL_code _ _
  · exact numL_code m l
theorem redoP_code (c : UInt8) (l : List UInt8) : (redoP c l).1 ≤ 100 := by
  unfold redoP
  repeat' split
  all_goals first | (simp; done) | exact digL_code _ | exact textL_code _ _ | exact numL_code _ _ | exact listL_code _ _
end Go.Proofs.Ytnlmeaijnfjakaa.Sh
/- redo: walked. -/
namespace Go.Proofs.Ytnlmeaijnfjakaa.Sh
set_option linter.unusedSimpArgs false
set_option linter.unusedVariables false
open Go Go.RowKit

theorem neq_nil2 (w : World) : (binOp .neq 1 .nilFunc .nilFunc).run Try.prog w = .ok (.bool false) w := by kernel_rfl
theorem neq_nil3 (f : Fn) (x c : Array Value) (w : World) : (binOp .neq 1 (.func f x c) .nilFunc).run Try.prog w = .ok (.bool true) w := by kernel_rfl

theorem textL_len (m : Nat) (l : List UInt8) : (textL m l).2.1.length ≤ m := by
  unfold textL
  split
  · simp
  · rename_i h
    split
    · simp
    · have := numL_most m l (by simpa using h)
      simp only [List.length_take]
      omega
/-- What is small in what is to be done. -/
def DoFew : Do → Prop
  | .no => True
  | .keep _ s => s.length ≤ 32
  | .com slot _ => slot < 18446744073709551616
  | .forg _ => True
theorem redoP_few (c : UInt8) (l : List UInt8) : DoFew (redoP c l).2.1 := by
  unfold redoP
  repeat' split
  all_goals first | trivial | skip
  · exact textL_len _ _
  · rename_i h _
    have := numL_most _ _ h
    exact show _ < 18446744073709551616 by omega

theorem Kp.wide {w0 w2 w' : World} {k x mb : Nat} {ls ss : List Nat} {m : Km} {f : List UInt8} {rs : List (List UInt8)} (h : Kp w' k x mb ls (ss ++ newBs w2 w') m f rs) (h02 : w0.heap.size ≤ w2.heap.size) (hk : k < w0.heap.size) (hm : mb < w0.heap.size) (hl : ∀ i ∈ ls, i < w0.heap.size) : Kp w' k x mb ls (ss ++ newBs w0 w') m f rs := by
  refine h.more (fun i hi => ?_) (fun i hi => ?_)
  · rcases List.mem_append.1 hi with hi | hi
    · exact List.mem_append_left _ hi
    · have := mem_newBs.1 hi
      exact List.mem_append_right _ (mem_newBs.2 ⟨by omega, this.2⟩)
  · rcases List.mem_append.1 hi with hi | hi
    · have hi := List.mem_append_left (newBs w2 w') hi
      exact ⟨h.ns i hi, fun e => h.nk.2.1 (by rw [← e]; exact hi), fun e => h.nk.2.2.2.1 (by rw [← e]; exact hi)⟩
    · have h1 := (mem_newBs.1 hi).1
      exact ⟨fun hn => by have := hl i hn; omega, by omega, by omega⟩
theorem Kp.wide0 {w0 w' : World} {k x mb : Nat} {ls ss : List Nat} {m : Km} {f : List UInt8} {rs : List (List UInt8)} (h : Kp w' k x mb ls ss m f rs) (hk : k < w0.heap.size) (hm : mb < w0.heap.size) (hl : ∀ i ∈ ls, i < w0.heap.size) : Kp w' k x mb ls (ss ++ newBs w0 w') m f rs := by
  refine h.more (fun i hi => List.mem_append_left _ hi) (fun i hi => ?_)
  rcases List.mem_append.1 hi with hi | hi
  · exact ⟨h.ns i hi, fun e => h.nk.2.1 (by rw [← e]; exact hi), fun e => h.nk.2.2.2.1 (by rw [← e]; exact hi)⟩
  · have h1 := (mem_newBs.1 hi).1
    exact ⟨fun hn => by have := hl i hn; omega, by omega, by omega⟩

set_option maxRecDepth 20000 in
set_option maxHeartbeats 1600000 in
theorem redo_any (w : World) (k x mb : Nat) (ls ss : List Nat) (m : Km) (f : List UInt8) (rs : List (List UInt8)) (h : Kp w k x mb ls ss m f rs) (hl : ∀ i ∈ ls, i < w.heap.size) (hi : KInv m) (q o cap : Nat) (c : UInt8) (l : List UInt8) (hB : Bs w (.slice (some ⟨q, o, none⟩) (c :: l).length cap) (c :: l)) (hql : q < w.heap.size) (hq : w.cell? ⟨q, o, none⟩ = some (vU8 c)) :
    Calls Try.prog 31 #[.pointer (some ⟨k, 0, none⟩), .slice (some ⟨q, o, none⟩) (c :: l).length cap] w fun e w' => e = .returned (.tuple #[]) ∧ Kp w' k x mb ls (ss ++ newBs w w') (redoB m c l) f rs ∧ Only [k, mb] w w' := by
  have hmf : ∀ (fn : Fn) (first cap : Array Value) (w : World), (Instr.makeFunc fn first cap).run Try.prog w = .ok (.func fn first cap) w := fun _ _ _ _ => rfl
  have htail := hB.tail 1 (by simp)
  have hcap : (c :: l).length ≤ cap := by obtain ⟨_, a, cap', e, h1, h2, h3, _⟩ := _root_.id hB; cases e; first | exact h1 | exact h2 | exact h3 | omega
  have hlen : (c :: l).length = l.length + 1 := rfl
  rw [hlen] at hB htail hcap ⊢
  rw [show (c :: l).drop 1 = l from rfl, show l.length + 1 - 1 = l.length by omega] at htail
  obtain ⟨w1, hw1⟩ : ∃ w1, w1 = ((w.alloc (Obj.cells #[.pointer (some ⟨k, 0, none⟩)] 25)).alloc (Obj.cells #[.slice (some ⟨q, o, none⟩) (l.length + 1) cap] 27)).alloc (Obj.cells #[.nilFunc] 1) := ⟨_, rfl⟩
  have o1 : Only [] w w1 := by rw [hw1]; exact (((Only.refl [] w).alloc _).alloc _).alloc _
  have hk1 : w1.cell? ⟨w.heap.size, 0, none⟩ = some (.pointer (some ⟨k, 0, none⟩)) := by rw [hw1]; simp [go_sem]
  have hb1 : w1.cell? ⟨w.heap.size + 1, 0, none⟩ = some (.slice (some ⟨q, o, none⟩) (l.length + 1) cap) := by rw [hw1]; simp [go_sem]
  have hd1 : w1.cell? ⟨w.heap.size + 1 + 1, 0, none⟩ = some .nilFunc := by rw [hw1]; simp [go_sem]
  have hz1 : w1.frozen? ⟨w.heap.size + 1 + 1, 0, none⟩ = false := by rw [hw1]; simp [go_sem]
  have hs1 : w1.heap.size = w.heap.size + 3 := by rw [hw1]; simp
  have hlt := h.lt
  by_cases hc1 : cap = 1
  case' pos =>
    go_enter Try.func31, Try.ntmps31
    have hc2 : cap - 1 = 0 := by omega
    have hl0 : l.length = 0 := by omega
    have hBe : Bs w1 (.slice (some ⟨q, o, none⟩) 0 0) l := by
      rw [List.eq_nil_of_length_eq_zero hl0]
      exact Bs.empty (by omega)
    rw [show l.length + 1 = 1 by omega, hc1] at hw1 hb1
    clear htail
    go_wp2_with fail
    rw [← hw1]
    clear hw1
    refine (redoRead_any q (w.heap.size + 1) w.heap.size (w.heap.size + 1 + 1) q o 1 1 l w1 c _ hBe (fun b hb => .inr (by simpa [Value.ownBlock] using hb.symm)) (by omega) (redoP_code c l) hb1 (by omega) (o1.cell hq (by simp)) hd1 hz1 (by omega)).mono ?_
    clear hBe hc1 hc2 hl0
  case' neg =>
    go_enter Try.func31, Try.ntmps31
    have hc2 : ¬ cap - 1 = 0 := by omega
    go_wp2_with fail
    rw [← hw1]
    clear hw1
    refine (redoRead_any q (w.heap.size + 1) w.heap.size (w.heap.size + 1 + 1) q o (l.length + 1) cap l w1 c _ (htail.kept0 o1) (fun b hb => .inr (by simpa [Value.ownBlock] using hb.symm)) (by omega) (redoP_code c l) hb1 (by omega) (o1.cell hq (by simp)) hd1 hz1 (by omega)).mono ?_
    clear htail hc1 hc2
  all_goals
    clear hcap hlen
    rintro e w2 ⟨o2, z, rfl, hz100, hz0, hdo⟩
    have s2 := o2.size
    have o12 : Only [] w w2 := o1.trans o2 (by simp) (by simp; omega)
    have hsz := o12.size
    by_cases h0 : z = 0
    · subst h0
      have hp := hz0.1 rfl
      have hyes := hid (show redoB m c l = doK m (redoP c l).2.1 by rw [redoB_P, if_pos hp])
      have hda := hdo hp.1
      have hfew := redoP_few c l
      have hK2 := h.only o12 (by simp)
      have hl2 : ∀ i ∈ ls, i < w2.heap.size := fun i hm => by have := hl i hm; omega
      have hk2 := o2.cell hk1 (by simp; omega)
      have hg2 := hK2.grow (w' := w2) h hl
      obtain ⟨y, hx⟩ : ∃ y, y = (redoP c l).2.1 := ⟨_, rfl⟩
      rw [← hx] at hda hyes hfew
      clear hz0 hdo hp hx hB hk1 hb1 hd1 hz1 hs1 o1 o2 hq
      cases y with
      | no =>
        have hdn : w2.cell? ⟨w.heap.size + 1 + 1, 0, none⟩ = some .nilFunc := hda
        clear hda
        have hfin := hid (show Kp w2 k x mb ls (ss ++ newBs w w2) (redoB m c l) f rs ∧ Only [k, mb] w w2 from ⟨by rw [hyes]; exact hg2, o12.mono (by simp)⟩)
        have hnf : (binOp .neq 1 .nilFunc .nilFunc).run Try.prog w2 = .ok (.bool false) w2 := neq_nil2 w2
        clear hg2 hK2 hyes h
        go_wp2
        go_end0
        exact ⟨rfl, hfin.out.1, hfin.out.2⟩
      | forg ids =>
        obtain ⟨ix, v, hdn, hix, hv, hown⟩ := hda
        have hnl : ids.length ≤ 9223372036854775807 := by
          rcases hown.1.2 with ⟨_, h9⟩ | ⟨_, _, _, _, _, _, h9, h8, _⟩
          · omega
          · unfold maxLen at h8; omega
        have hcl := hid (redo13_any w2 k x mb ls ss m f rs hK2 hi w.heap.size ix v ids hk2 hv (Dgs.of_own hown.1 hown.2 hnl))
        have hnf := neq_nil3 (.func 67) #[] #[.pointer (some ⟨w.heap.size, 0, none⟩), .pointer (some ⟨ix, 0, none⟩)] w2
        have hny := hid hyes
        clear hg2 hK2 hyes hown hv hnl
        go_wp2_with fail
        refine hcl.out.mono ?_
        rintro e w3 ⟨rfl, h3, o3⟩
        have hfin := hid (show Kp w3 k x mb ls (ss ++ newBs w w3) (redoB m c l) f rs ∧ Only [k, mb] w w3 from ⟨by rw [hny.out]; exact h3.wide0 hlt.1 hlt.2 hl, (o12.trans o3 (ds := [k, mb]) (by simp) (by simp))⟩)
        go_wp2
        go_end0
        exact ⟨rfl, hfin.out.1, hfin.out.2⟩
      | com slot ids =>
        obtain ⟨sx, ix, v, hdn, hsx, hs, hix, hv, hown⟩ := hda
        have hnl : ids.length ≤ 9223372036854775807 := by
          rcases hown.1.2 with ⟨_, h9⟩ | ⟨_, _, _, _, _, _, h9, h8, _⟩
          · omega
          · unfold maxLen at h8; omega
        have hcl := hid (redo12_any w2 k x mb ls ss m f rs hK2 hl2 hi w.heap.size sx ix slot hfew v ids hk2 hs hv (Dgs.of_own hown.1 hown.2 hnl))
        have hnf := neq_nil3 (.func 66) #[] #[.pointer (some ⟨w.heap.size, 0, none⟩), .pointer (some ⟨sx, 0, none⟩), .pointer (some ⟨ix, 0, none⟩)] w2
        have hny := hid hyes
        clear hg2 hK2 hyes hown hv hnl hs hfew
        go_wp2_with fail
        refine hcl.out.mono ?_
        rintro e w3 ⟨rfl, h3, o3⟩
        have hfin := hid (show Kp w3 k x mb ls (ss ++ newBs w w3) (redoB m c l) f rs ∧ Only [k, mb] w w3 from ⟨by rw [hny.out]; exact h3.wide hsz hlt.1 hlt.2 hl, (o12.trans o3 (ds := [k, mb]) (by simp) (by simp))⟩)
        go_wp2
        go_end0
        exact ⟨rfl, hfin.out.1, hfin.out.2⟩
      | keep d s =>
        obtain ⟨dx, sx, v, hdn, hdx, hD, hsx, hv, hown⟩ := hda
        have hsl : s.length ≤ 32 := hfew
        have hcl := hid (redo11_any w2 k x mb ls ss m f rs hK2 hl2 hi w.heap.size dx sx d s v hk2 hD hv (Cs.of_own hown (by omega)) (by omega))
        have hnf := neq_nil3 (.func 63) #[] #[.pointer (some ⟨w.heap.size, 0, none⟩), .pointer (some ⟨dx, 0, none⟩), .pointer (some ⟨sx, 0, none⟩)] w2
        have hny := hid hyes
        clear hg2 hK2 hyes hown hv hsl hD hfew
        go_wp2_with fail
        refine hcl.out.mono ?_
        rintro e w3 ⟨rfl, h3, o3⟩
        have hfin := hid (show Kp w3 k x mb ls (ss ++ newBs w w3) (redoB m c l) f rs ∧ Only [k, mb] w w3 from ⟨by rw [hny.out]; exact h3.wide hsz hlt.1 hlt.2 hl, (o12.trans o3 (ds := [k, mb]) (by simp) (by simp))⟩)
        go_wp2
        go_end0
        exact ⟨rfl, hfin.out.1, hfin.out.2⟩
    · have hno : redoB m c l = m := by rw [redoB_P, if_neg (fun e => h0 (hz0.2 e))]
      have hzz : ¬ ((z : Int) = 0) := by omega
      have hfin := hid (show Kp w2 k x mb ls (ss ++ newBs w w2) m f rs ∧ Only [k, mb] w w2 from ⟨(h.only o12 (by simp)).grow h hl, o12.mono (by simp)⟩)
      clear hz0 hdo h hB hi
      go_wp2
      go_end0
      exact ⟨rfl, by first | (rw [hno.out]; exact hfin.out.1) | (rw [hno]; exact hfin.out.1) | (rw [hno]; exact hfin.1), by first | exact hfin.out.2 | exact hfin.2⟩
end Go.Proofs.Ytnlmeaijnfjakaa.Sh
/- The keyper opened: walked. -/
namespace Go.Proofs.Ytnlmeaijnfjakaa.Sh
set_option linter.unusedSimpArgs false
set_option linter.unusedVariables false
open Go Go.RowKit

theorem Shs.made (w : World) (bs : List Nat) : Shs (w.alloc (.map #[] 0)) bs w.heap.size [] := ⟨[], rfl, by simpa using mp_made Try.prog 35 w, by simp⟩
theorem redoK_cons (m : Km) (c : UInt8) (l : List UInt8) : redoK m (c :: l) = redoB m c l := rfl
theorem foldl_inv (rs : List (List UInt8)) (i : Nat) : KInv ((rs.take i).foldl redoK km0) := open_inv (rs.take i)
theorem foldl_succ (rs : List (List UInt8)) (i : Nat) (h : i < rs.length) : (rs.take (i + 1)).foldl redoK km0 = redoK ((rs.take i).foldl redoK km0) rs[i] := by
  rw [List.take_succ_eq_append_getElem h, List.foldl_append]
  rfl

/-- A fresh keyper. -/
theorem Kp.made {w : World} {k x mb : Nat} {ls : List Nat} {f : List UInt8} {rs : List (List UInt8)} (hlog : Lg w x f [] rs ls) (hls : ∀ i ∈ ls, i < mb) (hmb : mb < k) (hs : Shs w [] mb []) (ht : TyAt w k 77)
    (c0 : w.cell? ⟨k, 0, none⟩ = some (.pointer (some ⟨x, 0, none⟩))) (c1 : w.cell? ⟨k, 1, none⟩ = some (.map (some mb)))
    (c2 : w.cell? ⟨k, 2, none⟩ = some (.slice none 0 0) ∧ w.frozen? ⟨k, 2, none⟩ = false) (c3 : w.cell? ⟨k, 3, none⟩ = some (.int .u64 0) ∧ w.frozen? ⟨k, 3, none⟩ = false) (c4 : w.cell? ⟨k, 4, none⟩ = some (.bool false) ∧ w.frozen? ⟨k, 4, none⟩ = false) :
    Kp w k x mb ls [] km0 f rs :=
  ⟨ht, c0, c1, ⟨_, c2, ⟨⟨rfl, none, 0, rfl, by simp [km0], by simp [maxLen], by simp [km0], .inl rfl⟩, by simp [km0]⟩, by simp [Value.ownBlock]⟩, c3, c4, hlog, hs,
    ⟨fun hm => by have := hls k hm; omega, by simp, fun hm => by have := hls mb hm; omega, by simp, by omega⟩, by simp⟩

theorem OwnBss.away {B : Nat} {w w' : World} {v : Value} {ls : List (List UInt8)} (h : OwnBss B w v ls) {bs : List Nat} (ho : Only bs w w') (hn : ∀ i ∈ bs, i < B) : OwnBss B w' v ls := by
  obtain ⟨vs, h1, h2⟩ := h
  exact ⟨vs, own_only h1 ho (fun k hk hm => by have := (h1.lt k hk).1; have := hn k hm; omega), h2.imp fun _ _ k => ⟨own_only k.1 ho (fun j hj hm => by have := (k.1.lt j hj).1; have := hn j hm; omega), k.2⟩⟩

def KOpenPost (w : World) (z : List UInt8) (e : Ending) (w' : World) : Prop :=
  ∃ k, e = .returned (.pointer (some ⟨k, 0, none⟩)) ∧ KB w' k (allL z).1 (newBs w w') ∧ Only [] w w'

set_option maxRecDepth 20000 in
set_option maxHeartbeats 3200000 in
theorem kopen_any (w : World) (fv lv : Value) (f l : List UInt8) (hf : Bs w fv f) (hl : Bs w lv l) (hlen : f.length + l.length ≤ 500000) :
    Calls Try.prog 11 #[dskV fv lv] w (KOpenPost w (f ++ l)) := by
  obtain ⟨fa, fc, rfl⟩ := bs_form hf
  obtain ⟨la, lc, rfl⟩ := bs_form hl
  obtain ⟨w1, hw1⟩ : ∃ w1, w1 = w.alloc (Obj.cells #[.slice fa f.length fc, .slice la l.length lc] 29) := ⟨_, rfl⟩
  have ho1 : Only [] w w1 := by rw [hw1]; exact (Only.refl [] w).alloc _
  have hop := open_any w1 _ _ f l (hf.kept0 ho1) (hl.kept0 ho1) hlen
  obtain ⟨z, hz⟩ : ∃ z, z = f ++ l := ⟨_, rfl⟩
  have hzl : z.length ≤ 500000 := by rw [hz]; simp; omega
  rw [← hz] at hop ⊢
  clear hz
  obtain ⟨hflat, hrl⟩ := allL_flat _ z (Nat.le_refl _)
  rw [← hflat] at hop
  obtain ⟨hr1, hr2⟩ := allL_le _ z (Nat.le_refl _)
  unfold KOpenPost
  obtain ⟨R, hR⟩ : ∃ R, R = (allL z).1 := ⟨_, rfl⟩
  rw [← hR] at hop hrl hr2 ⊢
  have hRl : R.length ≤ 500000 := by omega
  replace hop := hid hop
  replace hrl := hid hrl
  have hmm := @run_makeMap Try.prog
  clear hR hflat hr1 hr2
  go_enter Try.func11, Try.ntmps11
  go_wp2_with fail
  rw [← hw1]
  clear hw1
  refine hop.out.mono ?_
  rintro e w2 ⟨x, rfl, hL, o2⟩
  have s1 := ho1.size
  have s2 := o2.size
  go_wp2_with fail
  obtain ⟨w3, hw3⟩ : ∃ w3, w3 = (w2.alloc (.map #[] 0)).alloc (Obj.cells #[.pointer (some ⟨x, 0, none⟩), .map (some w2.heap.size), .slice none 0 0, .int .u64 0, .bool false] 77) := ⟨_, rfl⟩
  have o3 : Only [] w2 w3 := by rw [hw3]; exact ((Only.refl [] w2).alloc _).alloc _
  have s3 : w3.heap.size = w2.heap.size + 2 := by rw [hw3]; simp
  rw [← hw3]
  have hK3 : Kp w3 (w2.heap.size + 1) x w2.heap.size (newBs w1 w2) [] km0 (flatL R) R := by
    refine Kp.made (hL.kept0 o3) (fun i hi => (mem_newBs.1 hi).2) (by omega) ?_ ?_ ?_ ?_ ?_ ?_ ?_
    · rw [hw3]; exact (shs_made w2 []).kept0 ((Only.refl [] _).alloc _)
    · rw [hw3]; have := TyAt.new (w2.alloc (.map #[] 0)) #[.pointer (some ⟨x, 0, none⟩), .map (some w2.heap.size), .slice none 0 0, .int .u64 0, .bool false] 77; simpa using this
    · rw [hw3]; simp [go_sem]
    · rw [hw3]; simp [go_sem]
    · rw [hw3]; constructor <;> simp [go_sem]
    · rw [hw3]; constructor <;> simp [go_sem]
    · rw [hw3]; constructor <;> simp [go_sem]
  have hx3 := hK3.c0
  have hrec := hid (lrecords_any w3 x _ [] R _ hK3.log (by omega) (fun r hr => by have := (hrl.out r hr).2; omega))
  clear hop hmm
  go_wp2_with fail
  refine hrec.out.mono ?_
  rintro e w4 ⟨v4, rfl, hO4, o4⟩
  have s4 := o4.size
  obtain ⟨va, vc, rfl, _⟩ := (hO4.bss (by omega)).form
  have hK4 := hK3.kept0 o4
  obtain ⟨k, hk⟩ : ∃ k, k = w2.heap.size + 1 := ⟨_, rfl⟩
  obtain ⟨mb, hmb⟩ : ∃ mb, mb = w2.heap.size := ⟨_, rfl⟩
  rw [← hk, ← hmb] at hK4
  rw [← hk]
  have o34 : Only [] w w4 := ((ho1.trans0 o2).trans0 o3).trans0 o4
  have HK := hid hk
  have HM := hid hmb
  have L1 : k < w3.heap.size := by omega
  have L2 : mb < w3.heap.size := by omega
  have L3 : w.heap.size ≤ k := by omega
  have L4 : w.heap.size ≤ mb := by omega
  have L5 : w.heap.size ≤ w1.heap.size := by omega
  have hLl := hid (fun i (hi : i ∈ newBs w1 w2) => (⟨(mem_newBs.1 hi).1, by have := (mem_newBs.1 hi).2; omega⟩ : w1.heap.size ≤ i ∧ i < w3.heap.size))
  clear hrec hx3 hK3 hw3 hL hk hmb
  obtain ⟨ls, hls⟩ : ∃ ls, ls = newBs w1 w2 := ⟨_, rfl⟩
  rw [← hls] at hK4 hLl
  clear hls
  go_wp2_with fail
  go_loopw [17] (fun i wr => ∃ (n : Nat) (ss : List Nat), n ≤ R.length ∧ i = .int .i64 n ∧ Kp wr k x mb ls ss ((R.take n).foldl redoK km0) (flatL R) R ∧ Hid (∀ j ∈ ss, w.heap.size ≤ j ∧ j < wr.heap.size) ∧ Only [k, mb] w4 wr) (fun i _ => R.length - (intOf i).toNat)
  case atStart => exact ⟨0, [], Nat.zero_le _, rfl, hK4, by simp [Hid], Only.refl _ _⟩
  case round =>
    obtain ⟨n, ss, hn, rfl, hK, hss, ho⟩ := hrel
    have sr := ho.size
    by_cases hlt : n < R.length
    · have hOn := (hO4.away ho (by simp; omega)).bss (by omega)
      obtain ⟨b, o, xv, rfl, c1, hx⟩ := hOn.at n hlt
      have hrn := hrl.out R[n] (List.getElem_mem hlt)
      have hsucc := hid (foldl_succ R n hlt)
      obtain ⟨r, hr⟩ : ∃ r, r = R[n] := ⟨_, rfl⟩
      rw [← hr] at hx hrn hsucc
      clear hr hOn
      obtain ⟨c, l, rfl⟩ : ∃ c l, r = c :: l := by
        cases r with
        | nil => simp at hrn
        | cons c l => exact ⟨c, l, rfl⟩
      obtain ⟨q, p, cap, rfl, _⟩ := hx.form (by simp)
      obtain ⟨q', p', he, hc⟩ := hx.at 0 (by simp)
      simp only [Option.some.injEq, Addr.mk.injEq] at he
      obtain ⟨rfl, rfl, _⟩ := he
      simp only [Nat.add_zero, List.getElem_cons_zero] at hc
      have hql : q < wr.heap.size := World.block_lt_of_cell? wr _ hc
      have hlw : ∀ i ∈ ls, i < wr.heap.size := fun i hi => by have := (hLl.out i hi).2; omega
      have rd := hid (redo_any wr k x mb ls ss _ _ _ hK hlw (foldl_inv R n) q p cap c l hx hql hc)
      obtain ⟨N, hN⟩ : ∃ N, N = (c :: l).length := ⟨_, rfl⟩
      rw [← hN] at rd c1
      obtain ⟨M, hM⟩ : ∃ M, M = (R.take n).foldl redoK km0 := ⟨_, rfl⟩
      rw [← hM] at rd hsucc
      have hkc := hK.c0
      clear hN hM hx hK hc hlw hrn
      go_wp2_with fail
      refine rd.out.mono ?_
      rintro e w5 ⟨rfl, hK5, o5⟩
      have s5 := o5.size
      clear rd
      go_wp2
      go_roundw
      case rel =>
        refine ⟨n + 1, ss ++ newBs wr w5, by omega, by go_num, ?_, fun j hj => ?_, ho.trans o5 (by simp) (by simp)⟩
        · rw [hsucc.out]; exact hK5
        · rcases List.mem_append.1 hj with h | h
          · have := hss.out j h; omega
          · have := mem_newBs.1 h; omega
      case measure => simp [intOf]; omega
    · obtain rfl : n = R.length := by omega
      rw [List.take_length] at hK
      go_wp2
      go_ret
      refine ⟨k, rfl, ⟨x, mb, ls, ss, hK, ⟨mem_newBs.2 ⟨L3, by omega⟩, mem_newBs.2 ⟨L4, by omega⟩, fun i hi => mem_newBs.2 (by have := hLl.out i hi; omega), fun i hi => mem_newBs.2 (hss.out i hi)⟩, fun i hi => (mem_newBs.1 hi).2, hrl.out⟩, o34.trans ho (ds := []) (by simp) (by simp; omega)⟩
end Go.Proofs.Ytnlmeaijnfjakaa.Sh
/- What a keyper has: told: walked. A nil keyper. -/
namespace Go.Proofs.Ytnlmeaijnfjakaa.Sh
set_option linter.unusedSimpArgs false
set_option linter.unusedVariables false
open Go Go.RowKit

theorem neq_some8 (p : Addr) (n c : Nat) (w : World) : (binOp .neq 27 (.slice (some p) n c) (.slice none 0 0)).run Try.prog w = .ok (.bool true) w := by kernel_rfl
theorem neq_none8 (w : World) : (binOp .neq 27 (.slice none 0 0) (.slice none 0 0)).run Try.prog w = .ok (.bool false) w := by kernel_rfl

section
variable (W : World) (k : Nat) (rs : List (List UInt8)) (B : List Nat)
set_option maxRecDepth 20000 in
set_option maxHeartbeats 1600000 in
theorem mlen_any (h : KB W k rs B) :
    Calls Try.prog 18 #[.pointer (some ⟨k, 0, none⟩)] W fun e w' => e = .returned (.int .i64 ((openK rs).sh.length : Int)) ∧ w' = W := by
  obtain ⟨x, mb, ls, ss, hK, _⟩ := h
  have k1 := hK.c1
  have hlen := fun ty => hK.shs.len ty
  obtain ⟨n, hn⟩ : ∃ n, n = (openK rs).sh.length := ⟨_, rfl⟩
  rw [← hn] at hlen ⊢
  clear hn hK
  go_enter Try.func18, Try.ntmps18
  go_wp2
  go_ret
  exact ⟨rfl, rfl⟩

set_option maxRecDepth 20000 in
set_option maxHeartbeats 1600000 in
theorem mslot_any (h : KB W k rs B) :
    Calls Try.prog 24 #[.pointer (some ⟨k, 0, none⟩)] W fun e w' => e = .returned (.tuple #[.int .u64 ((openK rs).slot : Int), .bool (openK rs).told]) ∧ Only [] W w' := by
  obtain ⟨x, mb, ls, ss, hK, _⟩ := h
  have k3 := hK.c3.1
  have k4 := hK.c4.1
  obtain ⟨n, hn⟩ : ∃ n, n = (openK rs).slot := ⟨_, rfl⟩
  obtain ⟨t, ht⟩ : ∃ t, t = (openK rs).told := ⟨_, rfl⟩
  rw [← hn] at k3 ⊢
  rw [← ht] at k4 ⊢
  clear hn ht hK
  have od : Only [] W W.drew := (Only.refl [] W).drew
  go_enter Try.func24, Try.ntmps24
  go_wp2_with fail
  go_region_held3 (fun w' => w'.cell? ⟨k, 3, none⟩ = some (.int .u64 (n : Int)) ∧ w'.cell? ⟨k, 4, none⟩ = some (.bool t)) (exact ⟨k3, k4⟩) (fail)
  go_wp2
  go_ret2
  exact ⟨rfl, od⟩

set_option maxRecDepth 20000 in
set_option maxHeartbeats 1600000 in
theorem mdisk_any (h : KB W k rs B) (hf : (flatL rs).length ≤ 400000) :
    Calls Try.prog 19 #[.pointer (some ⟨k, 0, none⟩)] W fun e w' => ∃ fv lv, e = .returned (dskV fv lv) ∧ Fresh W w' fv (flatL rs) ∧ Fresh W w' lv [] ∧ Only [] W w' := by
  obtain ⟨x, mb, ls, ss, hK, _⟩ := h
  obtain ⟨w1, hw1⟩ : ∃ w1, w1 = W.alloc (Obj.cells #[.slice none 0 0, .slice none 0 0] 29) := ⟨_, rfl⟩
  have o1 : Only [] W w1 := by rw [hw1]; exact (Only.refl [] W).alloc _
  have hs1 : w1.heap.size = W.heap.size + 1 := by rw [hw1]; simp
  have r0 : w1.cell? ⟨W.heap.size, 0, none⟩ = some (.slice none 0 0) ∧ w1.frozen? ⟨W.heap.size, 0, none⟩ = false := by rw [hw1]; constructor <;> simp [go_sem]
  have r1 : w1.cell? ⟨W.heap.size, 1, none⟩ = some (.slice none 0 0) ∧ w1.frozen? ⟨W.heap.size, 1, none⟩ = false := by rw [hw1]; constructor <;> simp [go_sem]
  have k0 := hK.c0
  have hd := hid (ldisk_any w1 x _ [] rs ls (hK.log.kept0 o1) (by simp; omega))
  obtain ⟨F, hF⟩ : ∃ F, F = flatL rs := ⟨_, rfl⟩
  rw [← hF] at hd ⊢
  clear hK hF hf
  go_enter Try.func19, Try.ntmps19
  go_wp2_with fail
  rw [← hw1]
  clear hw1
  refine hd.out.mono ?_
  rintro e w2 ⟨fv, lv, rfl, hf2, hl2, q2⟩
  obtain ⟨va, vc, rfl⟩ := own_form hf2
  obtain ⟨ua, uc, rfl⟩ := own_form hl2
  obtain ⟨p0, p1⟩ := cell_kept q2 (by simp) r0
  obtain ⟨p2, p3⟩ := cell_kept q2 (by simp) r1
  have hO : Only [W.heap.size] w2 ((w2.setCell ⟨W.heap.size, 0, none⟩ (.slice va F.length vc)).setCell ⟨W.heap.size, 1, none⟩ (.slice ua 0 uc)) := ((Only.refl _ w2).setCell (.inl (by simp)) _).setCell (.inl (by simp)) _
  have g2 := hid (own_lower (own_only hf2 hO (fun k hk => by have := (hf2.lt k hk).1; simp; omega)) (show W.heap.size ≤ w1.heap.size by omega))
  have g3 := hid (own_lower (own_only hl2 hO (fun k hk => by have := (hl2.lt k hk).1; simp; omega)) (show W.heap.size ≤ w1.heap.size by omega))
  have hfin := (o1.trans0 q2).trans hO (ds := []) (by simp) (by simp)
  clear hO hf2 hl2 hd
  go_wp2
  exact bodyPost_ret (v := dskV (.slice va F.length vc) (.slice ua 0 uc)) (by simp [results, Try.results19, go_sem, p0, p2]) rfl ⟨_, _, rfl, g2.out, g3.out, hfin⟩

set_option maxRecDepth 20000 in
set_option maxHeartbeats 1600000 in
theorem mhas_any (h : KB W k rs B) (d : List UInt8) (hd : d.length = 32) :
    Calls Try.prog 12 #[.pointer (some ⟨k, 0, none⟩), vD d] W fun e w' => e = .returned (.bool (getS (openK rs).sh d).isSome) ∧ Only [] W w' := by
  obtain ⟨x, mb, ls, ss, hK, _⟩ := h
  have hD := Dv.boxed W d hd 35
  obtain ⟨w1, hw1⟩ : ∃ w1, w1 = W.alloc (Obj.cells (bytes d).toArray 35) := ⟨_, rfl⟩
  have o1 : Only [] W w1 := by rw [hw1]; exact (Only.refl [] W).alloc _
  rw [← hw1] at hD
  obtain ⟨g, hg⟩ : ∃ g, g = W.heap.size := ⟨_, rfl⟩
  rw [← hg] at hD
  have hrg := hD.range
  have hu := Try.underlying35
  have hin : (Try.prog.info? 35).map (·.size) = some (bytes d).length := by rw [dig_info]; simp [bytes, hd]
  have k1 := (hK.kept0 o1).c1
  have od : Only [] w1 w1.drew := (Only.refl [] w1).drew
  have HO := hid (o1.trans0 od)
  have hn8 := neq_none8
  have hs8 := neq_some8
  have hpn : ∀ (w : World), (binOp .neq 25 (.pointer (some ⟨k, 0, none⟩)) (.pointer none)).run Try.prog w = .ok (.bool true) w := fun w => by kernel_rfl
  rw [show vD d = .agg (bytes d).toArray from rfl]
  cases hgs : getS (openK rs).sh d with
  | none =>
    have lk := hid (show (Instr.lookup 75 (.map (some mb)) (.agg (bytes d).toArray) false).run Try.prog w1.drew = .ok (.slice none 0 0) w1.drew from ((hK.kept0 o1).shs.kept0 od).look_none hd hgs false)
    clear hgs hK hd
    go_enter Try.func12, Try.ntmps12
    go_wp2_with fail
    rw [← hw1, ← hg]
    clear hw1 hg
    go_region_held3 (fun V => V.cell? ⟨k, 1, none⟩ = some (.map (some mb)) ∧ V.rangeAt g 0 (bytes d) ∧ (Instr.lookup 75 (.map (some mb)) (.agg (bytes d).toArray) false).run Try.prog V = .ok (.slice none 0 0) V) (exact ⟨k1, hrg, lk.out⟩) (fail)
    go_wp2
    go_ret
    exact ⟨rfl, HO.out⟩
  | some t =>
    obtain ⟨v, hY, hlk⟩ := (hK.kept0 o1).shs.look_some (open_inv rs).keys hd hgs
    have ht : 1 ≤ t.length := ((open_inv rs).len _ (getS_some hgs)).2.1
    obtain ⟨b, o, c, rfl, _⟩ := hY.1.form (by omega)
    have lk := hid (show (Instr.lookup 75 (.map (some mb)) (.agg (bytes d).toArray) false).run Try.prog w1.drew = .ok (.slice (some ⟨b, o, none⟩) t.length c) w1.drew from hlk _ od false)
    obtain ⟨n, hn⟩ : ∃ n, n = t.length := ⟨_, rfl⟩
    rw [← hn] at lk
    clear hgs hK hd hY hlk hn ht
    go_enter Try.func12, Try.ntmps12
    go_wp2_with fail
    rw [← hw1, ← hg]
    clear hw1 hg
    go_region_held3 (fun V => V.cell? ⟨k, 1, none⟩ = some (.map (some mb)) ∧ V.rangeAt g 0 (bytes d) ∧ (Instr.lookup 75 (.map (some mb)) (.agg (bytes d).toArray) false).run Try.prog V = .ok (.slice (some ⟨b, o, none⟩) n c) V) (exact ⟨k1, hrg, lk.out⟩) (fail)
    go_wp2
    go_ret
    exact ⟨rfl, HO.out⟩
end

/-! a nil keyper -/
section
variable (w : World)
theorem nil_len : Calls Try.prog 18 #[.pointer none] w fun e w' => e = .returned (.int .i64 0) ∧ w' = w := by
  go_enter Try.func18, Try.ntmps18
  go_wp2
  go_ret
  exact ⟨rfl, rfl⟩
theorem nil_slot : Calls Try.prog 24 #[.pointer none] w fun e w' => e = .returned (.tuple #[.int .u64 0, .bool false]) ∧ w' = w := by
  go_enter Try.func24, Try.ntmps24
  go_wp2
  go_ret2
  exact ⟨rfl, rfl⟩
set_option maxRecDepth 20000 in
theorem nil_disk : Calls Try.prog 19 #[.pointer none] w fun e w' => e = .returned (dskV (.slice none 0 0) (.slice none 0 0)) ∧ Only [] w w' := by
  have HO := hid ((Only.refl [] w).alloc (Obj.cells #[.slice none 0 0, .slice none 0 0] 29))
  go_enter Try.func19, Try.ntmps19
  go_wp2
  exact bodyPost_ret (v := dskV (.slice none 0 0) (.slice none 0 0)) (by simp [results, Try.results19, go_sem]) rfl ⟨rfl, HO.out⟩
set_option maxRecDepth 20000 in
theorem nil_has (d : List UInt8) (hd : d.length = 32) : Calls Try.prog 12 #[.pointer none, vD d] w fun e w' => e = .returned (.bool false) ∧ Only [] w w' := by
  have hD := Dv.boxed w d hd 35
  have HO := hid ((Only.refl [] w).alloc (Obj.cells (bytes d).toArray 35))
  rw [show vD d = .agg (bytes d).toArray from rfl]
  go_enter Try.func12, Try.ntmps12
  go_wp2_with fail
  have hpn : ∀ (w : World), (binOp .neq 25 (.pointer none) (.pointer none)).run Try.prog w = .ok (.bool false) w := fun w => by kernel_rfl
  go_quiet (fail)
  go_wp2
  go_ret
  exact ⟨rfl, HO.out.trans0 (only_drewN _ _ _)⟩
theorem nil_forget (v : Value) : Calls Try.prog 17 #[.pointer none, v] w fun e w' => e = .returned (.tuple #[.int .i64 0, .int .i64 1]) ∧ w' = w := by
  go_enter Try.func17, Try.ntmps17
  go_wp2
  go_ret2
  exact ⟨rfl, rfl⟩
theorem nil_commit (s : Int) (v : Value) : Calls Try.prog 15 #[.pointer none, .int .u64 s, v] w fun e w' => e = .returned (.tuple #[.slice none 0 0, .int .i64 1]) ∧ w' = w := by
  go_enter Try.func15, Try.ntmps15
  go_wp2
  go_ret2
  exact ⟨rfl, rfl⟩
set_option maxRecDepth 20000 in
theorem nil_keep (d : List UInt8) (hd : d.length = 32) (v : Value) : Calls Try.prog 14 #[.pointer none, vD d, v] w fun e w' => e = .returned (.int .i64 1) ∧ Only [] w w' := by
  have HO := hid ((Only.refl [] w).alloc (Obj.cells (bytes d).toArray 35))
  rw [show vD d = .agg (bytes d).toArray from rfl]
  go_enter Try.func14, Try.ntmps14
  go_wp2
  go_ret
  exact ⟨rfl, HO.out⟩
end
end Go.Proofs.Ytnlmeaijnfjakaa.Sh
/- The law's names; its limits; awake: walked. -/
namespace Go.Proofs.Ytnlmeaijnfjakaa.Sh
set_option linter.unusedSimpArgs false
set_option linter.unusedVariables false
open Go Go.RowKit

/-- The name of a byte. -/
def nm (b : UInt8) : List UInt8 := b :: (List.replicate 30 0 ++ [1])
theorem nm_len (b : UInt8) : (nm b).length = 32 := by simp [nm]
theorem nm_inj {a b : UInt8} (h : nm a = nm b) : a = b := by
  simp only [nm, List.cons.injEq] at h
  exact h.1
theorem nms_inj : ∀ {a b : List UInt8}, a.map nm = b.map nm → a = b
  | [], [], _ => rfl
  | [], _ :: _, h => by simp at h
  | _ :: _, [], h => by simp at h
  | x :: a, y :: b, h => by
    simp only [List.map_cons, List.cons.injEq] at h
    rw [nm_inj h.1, nms_inj h.2]

theorem wpList_build2 {P : Program} {ops : Array Oper} {rest : List Oper} {o : Oper} {a : Act} {Q : Exit → Act → World → Prop} {w : World} (hgd : o.guard = none) (t : TypeId) (x y : Operand) (ho : o.op = .build t #[(0, x), (31, y)]) {u v r : Value} (hx : a.eval x = u) (hy : a.eval y = v)
    (hr : (Instr.build t #[(0, u), (31, v)]).run P w = .ok r w) (h : wpList P ops Q rest (a.put o.dst r) w) : wpList P ops Q (o :: rest) a w := by
  refine wpList_plain hgd fun K hK => ?_
  unfold Oper.wp execOp
  simp only [ho, hx, hy, hr, List.map_toArray, List.map_cons, List.map_nil, Sem.run_bind, Sem.run_pure, Result.andThen_ok]
  exact hK _ _ h
theorem build_nm (b : UInt8) (w : World) : (Instr.build 35 #[(0, vU8 b), (31, .int .u8 1)]).run Try.prog w = .ok (.agg (bytes (nm b)).toArray) w := by kernel_rfl

set_option maxRecDepth 20000 in
set_option maxHeartbeats 1600000 in
theorem name_any (w : World) (b : UInt8) :
    Calls Try.prog 13 #[vU8 b] w fun e w' => e = .returned (vD (nm b)) ∧ Only [] w w' := by
  go_enter Try.func13, Try.ntmps13
  go_wp2_with (first
    | (refine wpList_alloc_run (by rfl) 35 (by rfl) (alloc_dig _) ?_)
    | (refine wpList_build2 (by rfl) 35 _ _ (by rfl) (by rfl) (by rfl) (build_nm b _) ?_)
    | (refine wpList_store_dig (by rfl) _ _ (by rfl) w.heap.size (nm b) _ (by rfl) (by rfl) rfl (nm_len b) (Dv.fresh w 35).there ?_; intro w2 hD2 hp2))
  refine bodyPost_ret (results_dig rfl _ _ rfl hD2) rfl ?_
  exact ⟨rfl, ((Only.refl [] w).alloc _).trans hp2 (by simp) (by simp)⟩
end Go.Proofs.Ytnlmeaijnfjakaa.Sh
/- The law's names, made: walked. A keyper that is newer than a world; each call on it. -/
namespace Go.Proofs.Ytnlmeaijnfjakaa.Sh
set_option linter.unusedSimpArgs false
set_option linter.unusedVariables false
open Go Go.RowKit

set_option maxRecDepth 20000 in
set_option maxHeartbeats 1600000 in
theorem names_any (w : World) (v : Value) (l : List UInt8) (hv : Bs w v l) (hl : l.length ≤ 1000) :
    Calls Try.prog 16 #[v] w fun e w' => ∃ u, e = .returned u ∧ OwnD w.heap.size w' u (l.map nm) ∧ Only [] w w' := by
  obtain ⟨a, cap, rfl⟩ := bs_form hv
  go_enter Try.func16, Try.ntmps16
  go_wp2_with fail
  go_loopw [3, 7] (fun ov i wr => ∃ (j : Nat), j ≤ l.length ∧ i = .int .i64 j ∧ OwnD w.heap.size wr ov ((l.take j).map nm) ∧ Only [] w wr) (fun _ i _ => l.length - (intOf i).toNat)
  case atStart => exact ⟨0, Nat.zero_le _, rfl, ⟨World.ownsRow_nil _ _ _ _, by simp⟩, Only.refl _ _⟩
  case round =>
    obtain ⟨j, hj, rfl, hown, ho⟩ := hrel
    obtain ⟨oa, oc, rfl⟩ := own_form hown.1
    have s2 := ho.size
    by_cases hlt : j < l.length
    · obtain ⟨b, o, rfl, hc⟩ := (hv.kept0 ho).at j hlt
      have hts : (l.take (j + 1)).map nm = (l.take j).map nm ++ [nm l[j]] := by rw [List.take_succ_eq_append_getElem hlt, List.map_append]; rfl
      obtain ⟨x, hx⟩ : ∃ x, x = l[j] := ⟨_, rfl⟩
      rw [← hx] at hc hts
      obtain ⟨ids, hids⟩ : ∃ ids, ids = (l.take j).map nm := ⟨_, rfl⟩
      have hil : ids.length = j := by rw [hids]; simp; omega
      rw [← hids] at hown hts
      rw [← hids, hil]
      have hid1 := hid hil
      have HTS := hid hts
      have HN := hid hown
      have hna := hid (name_any wr x)
      clear hx hids hts hil hown
      go_wp2_with fail
      refine hna.out.mono ?_
      rintro e w3 ⟨rfl, q3⟩
      have own3 := HN.out.only q3 (by simp)
      have s3 := q3.size
      have hl32 := nm_len x
      obtain ⟨d, hd⟩ : ∃ d, d = nm x := ⟨_, rfl⟩
      rw [← hd] at hl32 ⊢
      have HD := hid hd
      have own3j := hid own3.1
      have own3k : w3.ownsRow w.heap.size 35 32 (.slice oa j oc) j (ids.flatMap bytes) := by
        have := own3.1
        rw [hid1.out] at this
        exact this
      clear hd hna own3
      go_wp2_with (first
        | (refine wpList_name1 15 d hl32 (by rfl) ?_)
        | (at_builtin; refine wpList_app1 (by rfl) _ _ 42 (by rfl) w.heap.size 35 32 32 el_dig (by rfl) own3k ([d].flatMap bytes) (by rfl) (by simp [bytes, hl32]) (by simpa using bytes_one d) (by omega) (by omega) (by omega) ?_; intro v4 w4 own4 app4))
      have q4 : Only [] w w4 := (ho.trans0 q3).app app4 (fun i hi => .inr (own3k.lt i hi).1)
      obtain ⟨va, vc, rfl⟩ := own_form own4
      go_wp2
      go_roundw
      case rel =>
        refine ⟨j + 1, by omega, by go_num, ⟨own_cast own4 (by simp; omega) ?_, ?_⟩, q4⟩
        · rw [HTS.out, ← HD.out, List.flatMap_append]
        · intro y hy
          obtain ⟨z, _, rfl⟩ := List.mem_map.1 hy
          exact nm_len z
      case measure => simp [intOf]; omega
    · obtain rfl : j = l.length := by omega
      have e : (l.take l.length).map nm = l.map nm := by rw [List.take_length]
      go_wp2
      go_ret
      exact ⟨_, rfl, by rw [← e]; exact hown, ho⟩

/-- The size of what is recorded, behind n calls. -/
def Few (n : Nat) (rs : List (List UInt8)) : Prop := (flatL rs).length ≤ 7000 + 1006 * n ∧ rs.length ≤ 1000 + n
theorem Few.nil : Few 0 [] := ⟨by simp [flatL], by simp⟩
theorem Few.same {n : Nat} {rs : List (List UInt8)} (h : Few n rs) : Few (n + 1) rs := ⟨by have := h.1; omega, by have := h.2; omega⟩
theorem Few.snoc {n : Nat} {rs : List (List UInt8)} {b : List UInt8} (h : Few n rs) (hb : b.length ≤ 1000) : Few (n + 1) (rs ++ [b]) := by
  refine ⟨?_, by have := h.2; simp; omega⟩
  rw [flatL_snoc, List.length_append, frameL_length]
  have := h.1
  omega
theorem Few.mono {n m : Nat} {rs : List (List UInt8)} (h : Few n rs) (hm : n ≤ m) : Few m rs := ⟨by have := h.1; omega, by have := h.2; omega⟩

/-- A keyper at k, with its blocks B, that is newer than w. -/
structure Ky (w W : World) (k : Nat) (rs : List (List UInt8)) (B : List Nat) : Prop where
  kb : KB W k rs B
  new : ∀ i ∈ B, w.heap.size ≤ i
  only : Only [] w W
theorem KB.one {W : World} {k : Nat} {rs : List (List UInt8)} {B : List Nat} (h : KB W k rs B) : ∀ r ∈ rs, 1 ≤ r.length ∧ r.length ≤ 1000 := by
  obtain ⟨_, _, _, _, _, _, _, h6⟩ := h
  exact h6
theorem Ky.kept0 {w W W' : World} {k : Nat} {rs : List (List UInt8)} {B : List Nat} (h : Ky w W k rs B) (ho : Only [] W W') : Ky w W' k rs B := ⟨h.kb.kept0 ho, h.new, h.only.trans0 ho⟩
theorem Ky.away {w W W' : World} {k : Nat} {rs : List (List UInt8)} {B ds : List Nat} (h : Ky w W k rs B) (ho : Only ds W W') (hd : ∀ i ∈ ds, i ∉ B ∧ w.heap.size ≤ i) : Ky w W' k rs B := ⟨h.kb.only ho (fun i hi => (hd i hi).1), h.new, h.only.trans ho (by simp) (fun i hi => .inr (hd i hi).2)⟩
theorem Few.step {n : Nat} {W : World} {k : Nat} {rs rs' : List (List UInt8)} {B : List Nat} (h : Few n rs) (hk : KB W k rs' B) (hc : rs' = rs ∨ ∃ b, rs' = rs ++ [b]) : Few (n + 1) rs' := by
  rcases hc with rfl | ⟨b, rfl⟩
  · exact h.same
  · exact h.snoc (hk.one b (by simp)).2
theorem keepR_case (rs : List (List UInt8)) (d s : List UInt8) : keepR rs d s = rs ∨ ∃ b, keepR rs d s = rs ++ [b] := by
  unfold keepR
  split
  · exact .inr ⟨_, rfl⟩
  · exact .inl rfl
theorem mcommitR_case (rs : List (List UInt8)) (slot : Nat) (ids : List (List UInt8)) : mcommitR rs slot ids = rs ∨ ∃ b, mcommitR rs slot ids = rs ++ [b] := by
  unfold mcommitR
  split
  · exact .inr ⟨_, rfl⟩
  · exact .inl rfl
theorem mforgetE_case (rs ids : List (List UInt8)) : (mforgetE rs ids).2 = rs ∨ ∃ b, (mforgetE rs ids).2 = rs ++ [b] := by
  unfold mforgetE
  split
  · exact .inl rfl
  · simp only
    split
    · exact .inl rfl
    · exact .inr ⟨_, rfl⟩

/-- What a call on a keyper leaves: the keyper, with new blocks; nothing else is changed. -/
def KyPost (w W : World) (k : Nat) (B : List Nat) (rs : List (List UInt8)) (n : Nat) (w' : World) : Prop :=
  ∃ B', Ky w w' k rs B' ∧ (∀ i ∈ B', i ∈ B ∨ W.heap.size ≤ i) ∧ Only B W w' ∧ Few (n + 1) rs

section
variable (w W : World) (k : Nat) (rs : List (List UInt8)) (B : List Nat) (n : Nat)
theorem ky_post {rs' : List (List UInt8)} {w' : World} (h : Ky w W k rs B) (hn : Few n rs) (hk : KB w' k rs' (B ++ newBs W w')) (ho : Only B W w') (hc : rs' = rs ∨ ∃ b, rs' = rs ++ [b]) : KyPost w W k B rs' n w' := by
  have hs := h.only.size
  refine ⟨_, ⟨hk, fun i hi => ?_, h.only.trans ho (by simp) (fun i hi => .inr (h.new i hi))⟩, fun i hi => ?_, ho, hn.step hk hc⟩
  · rcases List.mem_append.1 hi with hi | hi
    · exact h.new i hi
    · have := (mem_newBs.1 hi).1; omega
  · rcases List.mem_append.1 hi with hi | hi
    · exact .inl hi
    · exact .inr (mem_newBs.1 hi).1

theorem ky_open (ho : Only [] w W) (fv lv : Value) (f l : List UInt8) (hf : Bs W fv f) (hl : Bs W lv l) (hlen : f.length + l.length ≤ 500000) :
    Calls Try.prog 11 #[dskV fv lv] W fun e w' => ∃ k B, e = .returned (.pointer (some ⟨k, 0, none⟩)) ∧ Ky w w' k (allL (f ++ l)).1 B ∧ (∀ i ∈ B, W.heap.size ≤ i) ∧ Only [] W w' := by
  refine (kopen_any W fv lv f l hf hl hlen).mono ?_
  rintro e w' ⟨k, rfl, hk, o⟩
  have hs := ho.size
  exact ⟨k, _, rfl, ⟨hk, fun i hi => by have := (mem_newBs.1 hi).1; omega, ho.trans0 o⟩, fun i hi => (mem_newBs.1 hi).1, o⟩

theorem ky_keep (h : Ky w W k rs B) (hn : Few n rs) (hn2 : n ≤ 200) (d : List UInt8) (hd : d.length = 32) (sv : Value) (s : List UInt8) (hs : Bs W sv s) (hsl : s.length ≤ 1000) :
    Calls Try.prog 14 #[.pointer (some ⟨k, 0, none⟩), vD d, sv] W fun e w' => e = .returned (.int .i64 ((keepK (openK rs) d s).1 : Int)) ∧ KyPost w W k B (keepR rs d s) n w' := by
  have h1 := hn.1
  have h2 := hn.2
  refine (mkeep_any W k rs B h.kb d hd sv s hs hsl (by omega) (by omega)).mono ?_
  rintro e w' ⟨rfl, hk, o⟩
  exact ⟨rfl, ky_post w W k rs B n h hn hk o (keepR_case _ _ _)⟩

theorem ky_forget (h : Ky w W k rs B) (hn : Few n rs) (hn2 : n ≤ 200) (u : Value) (ids : List (List UInt8)) (hu : Dgs W u ids) :
    Calls Try.prog 17 #[.pointer (some ⟨k, 0, none⟩), u] W fun e w' => e = .returned (.tuple #[.int .i64 ((mforgetE rs ids).1.1 : Int), .int .i64 ((mforgetE rs ids).1.2 : Int)]) ∧ KyPost w W k B (mforgetE rs ids).2 n w' := by
  have h1 := hn.1
  have h2 := hn.2
  refine (mforget_any W k rs B h.kb u ids hu (by omega) (by omega)).mono ?_
  rintro e w' ⟨rfl, hk, o⟩
  exact ⟨rfl, ky_post w W k rs B n h hn hk o (mforgetE_case _ _)⟩

theorem ky_commit (h : Ky w W k rs B) (hn : Few n rs) (hn2 : n ≤ 200) (slot : Nat) (hslot : slot < 18446744073709551616) (u : Value) (ids : List (List UInt8)) (hu : Dgs W u ids) (huB : ∀ i, u.ownBlock = some i → ids = [] ∨ i ∉ B) :
    Calls Try.prog 15 #[.pointer (some ⟨k, 0, none⟩), .int .u64 (slot : Int), u] W fun e w' => ∃ ov V B', e = .returned (.tuple #[ov, .int .i64 ((commitK (openK rs) slot ids).1.2 : Int)]) ∧ Ky w w' k (mcommitR rs slot ids) B' ∧ OwnBss V w' ov (mcommitL rs slot ids) ∧ W.heap.size ≤ V ∧ (∀ i ∈ B', (i ∈ B ∨ W.heap.size ≤ i) ∧ i < V) ∧ V ≤ w'.heap.size ∧ Only B W w' ∧ Few (n + 1) (mcommitR rs slot ids) := by
  have h1 := hn.1
  have h2 := hn.2
  have hlt := h.kb.lt
  refine (mcommit_any W k rs B h.kb slot hslot u ids hu huB (by omega) (by omega)).mono ?_
  rintro e w' ⟨ov, V, rfl, hk, hO, hV1, hV2, o⟩
  have hs := h.only.size
  refine ⟨ov, V.heap.size, B ++ newBs W V, rfl, ⟨hk, fun i hi => ?_, h.only.trans o (by simp) (fun i hi => .inr (h.new i hi))⟩, hO, hV1, fun i hi => ?_, hV2, o, hn.step hk (mcommitR_case _ _ _)⟩
  · rcases List.mem_append.1 hi with hi | hi
    · exact h.new i hi
    · have := (mem_newBs.1 hi).1; omega
  · rcases List.mem_append.1 hi with hi | hi
    · exact ⟨.inl hi, by have := hlt i hi; omega⟩
    · have := mem_newBs.1 hi
      exact ⟨.inr this.1, this.2⟩
end
end Go.Proofs.Ytnlmeaijnfjakaa.Sh
/- The law's awake: walked. What the records tell behind a call: plain. -/
namespace Go.Proofs.Ytnlmeaijnfjakaa.Sh
set_option linter.unusedSimpArgs false
set_option linter.unusedVariables false
open Go Go.RowKit

theorem openK_keepR (rs : List (List UInt8)) (d s : List UInt8) (hd : d.length = 32) : openK (keepR rs d s) = (keepK (openK rs) d s).2 := by
  unfold keepR
  split
  · rename_i h
    rw [openK_snoc, redo_rec1 _ _ _ hd (keepK_len h).2]
  · rename_i h
    exact (keepK_ne h).symm
theorem commitK_ids {m : Km} {slot : Nat} {ids : List (List UInt8)} (h : (commitK m slot ids).1.1 = true) : ids.length ≤ 8 := by
  unfold commitK at h
  split at h
  · cases h
  · omega
theorem openK_commitR (rs : List (List UInt8)) (slot : Nat) (ids : List (List UInt8)) (hs : slot < 18446744073709551616) (hd : ∀ d ∈ ids, d.length = 32) : openK (mcommitR rs slot ids) = (commitK (openK rs) slot ids).2 := by
  unfold mcommitR
  split
  · rename_i h
    rw [openK_snoc, redo_rec2 _ _ _ hs hd (commitK_ids h)]
  · rename_i h
    exact (commitK_ne (by simpa using h)).symm
theorem openK_forget (rs ids : List (List UInt8)) (hd : ∀ d ∈ ids, d.length = 32) : openK (mforgetE rs ids).2 = if 24 < ids.length then openK rs else (forgetK (openK rs) ids).2 := by
  unfold mforgetE
  split
  · rfl
  · simp only
    split
    · rename_i h
      exact (forgetK_zero h).symm
    · rw [openK_snoc, redo_rec3 _ _ hd (by omega)]

theorem wpList_name2 {ops : Array Oper} {rest : List Oper} {dst : Option Tmp} {ty : TypeId} {pos : String} {after : Array Edge} {a : Act} {w : World} {Q : Exit → Act → World → Prop} (k j : Tmp) (d g : List UInt8) (hd : d.length = 32) (hg : g.length = 32) (hv : a.eval (.tmp k) = vD d) (hu : a.eval (.tmp j) = vD g)
    (h : wpList Try.prog ops Q rest (a.put dst (.slice (some ⟨w.heap.size, 0, none⟩) 2 2)) (w.alloc (.cells ([d, g].flatMap bytes).toArray 35))) :
    wpList Try.prog ops Q ({ dst := dst, op := .buildSlice 42 2 #[(0, .tmp k), (1, .tmp j)], type := ty, pos := pos, after := after, guard := none } :: rest) a w :=
  wpList_names (o := { dst := dst, op := .buildSlice 42 2 #[(0, .tmp k), (1, .tmp j)], type := ty, pos := pos, after := after, guard := none }) rfl 2 #[(0, .tmp k), (1, .tmp j)] rfl [d, g] (by simp [hd, hg]) rfl (by omega) (by omega) (by simp [hv, hu]) h

/-- Names built stand for themselves. -/
theorem names_built (w : World) (ids : List (List UInt8)) (hd : ∀ d ∈ ids, d.length = 32) (hn : ids.length ≤ 1000) : OwnD w.heap.size (w.alloc (.cells (ids.flatMap bytes).toArray 35)) (.slice (some ⟨w.heap.size, 0, none⟩) ids.length ids.length) ids := by
  refine ⟨own_built w (ids.flatMap bytes) 35 32 ids.length ?_ (by unfold maxLen; omega), hd⟩
  induction ids with
  | nil => rfl
  | cons d ids ih =>
    rw [List.flatMap_cons, List.length_append, ih (fun x hx => hd x (by simp [hx])) (by simp at hn; omega), List.length_cons]
    simp [bytes, hd d (by simp)]
    omega

theorem awakeP : keepK (openK []) (nm 1) [7] = (0, ⟨[(nm 1, [7])], 0, [], false⟩) ∧ commitK ⟨[(nm 1, [7])], 0, [], false⟩ 3 [nm 1, nm 2] = ((true, 0), ⟨[(nm 1, [7])], 3, [nm 1, nm 2], true⟩) ∧ commitK ⟨[(nm 1, [7])], 3, [nm 1, nm 2], true⟩ 3 [nm 2] = ((false, 16), ⟨[(nm 1, [7])], 3, [nm 1, nm 2], true⟩) := by
  refine ⟨rfl, ?_, ?_⟩
  · unfold commitK; rw [if_neg (by decide)]; rfl
  · unfold commitK; rw [if_neg (by decide)]; rfl
theorem awakeQ : outL [(nm 1, [7])] [nm 1, nm 2] = [[7], []] := by decide

set_option maxRecDepth 20000 in
set_option maxHeartbeats 1600000 in
theorem awake20_any (w : World) :
    Calls Try.prog 9 #[] w fun e w' => e = .returned (.bool true) ∧ Only [] w w' := by
  have hn0 : ∀ W : World, Bs W (.slice none 0 0) [] := fun W => Bs.empty (by unfold maxLen; omega)
  have hop := ky_open w w (Only.refl [] w) _ _ [] [] (hn0 w) (hn0 w) (by simp)
  rw [show allL ([] ++ []) = ([], 0) from allL_bad _ (by simp [firstL])] at hop
  obtain ⟨p1, p2, p3⟩ := awakeP
  have kp := fun W k B (h : Ky w W k [] B) v (hb : Bs W v [7]) => ky_keep w W k [] B 0 h Few.nil (by omega) (nm 1) (nm_len 1) v [7] hb (by simp)
  have m1 := openK_keepR [] (nm 1) [7] (nm_len 1)
  simp only [p1] at kp m1
  obtain ⟨r1, hr1⟩ : ∃ r, r = keepR [] (nm 1) [7] := ⟨_, rfl⟩
  rw [← hr1] at m1
  simp only [← hr1] at kp
  clear hr1
  have i2 : ∀ d ∈ [nm 1, nm 2], d.length = 32 := by simp [nm_len]
  have i1 : ∀ d ∈ [nm 2], d.length = 32 := by simp [nm_len]
  have c1 := fun W k B (h : Ky w W k r1 B) (hf : Few 1 r1) u (hu : Dgs W u [nm 1, nm 2]) hB => ky_commit w W k r1 B 1 h hf (by omega) 3 (by omega) u _ hu hB
  have m2 := openK_commitR r1 3 [nm 1, nm 2] (by omega) i2
  unfold mcommitL at c1
  simp only [m1, p2, awakeQ, if_true] at c1 m2
  obtain ⟨r2, hr2⟩ : ∃ r, r = mcommitR r1 3 [nm 1, nm 2] := ⟨_, rfl⟩
  rw [← hr2] at m2
  simp only [← hr2] at c1
  clear hr2
  have c2 := fun W k B (h : Ky w W k r2 B) (hf : Few 2 r2) u (hu : Dgs W u [nm 2]) hB => ky_commit w W k r2 B 2 h hf (by omega) 3 (by omega) u _ hu hB
  have m3 := openK_commitR r2 3 [nm 2] (by omega) i1
  unfold mcommitL at c2
  simp only [m2, p3] at c2 m3
  obtain ⟨r3, hr3⟩ : ∃ r, r = mcommitR r2 3 [nm 2] := ⟨_, rfl⟩
  rw [← hr3] at m3
  simp only [← hr3] at c2
  clear hr3
  have hh := fun W k B (h : Ky w W k r3 B) => mhas_any W k r3 B h.kb (nm 1) (nm_len 1)
  simp only [m3, show (getS [(nm 1, [7])] (nm 1)).isSome = true by decide] at hh
  have n1 := fun W => (show Calls Try.prog 13 #[.int .u8 1] W _ from name_any W 1)
  have n2 := fun W => (show Calls Try.prog 13 #[.int .u8 2] W _ from name_any W 2)
  have hl1 := nm_len 1
  have hl2 := nm_len 2
  obtain ⟨d1, hd1⟩ : ∃ d, d = nm 1 := ⟨_, rfl⟩
  obtain ⟨d2, hd2⟩ : ∃ d, d = nm 2 := ⟨_, rfl⟩
  simp only [← hd1, ← hd2] at kp c1 c2 hh n1 n2 i1 i2 hl1 hl2
  replace hop := hid hop
  replace kp := hid kp
  replace c1 := hid c1
  replace c2 := hid c2
  replace hh := hid hh
  replace n1 := hid n1
  replace n2 := hid n2
  replace i1 := hid i1
  replace i2 := hid i2
  clear hn0 p1 p2 p3 m1 m2 m3 hd1 hd2
  go_enter Try.func9, Try.ntmps9
  go_wp2_with fail
  refine hop.out.mono ?_
  rintro e w1 ⟨k, B1, rfl, k1, b1, o1⟩
  go_wp2_with fail
  refine (n1.out _).mono ?_
  rintro e w2 ⟨rfl, q2⟩
  have k2 := k1.kept0 q2
  go_wp2_with fail
  refine (kp.out _ _ _ (k2.kept0 ((Only.refl [] w2).alloc _)) _ ?_).mono ?_
  · exact cs_built w2 [.int .u8 7] 5 1 1 (0, 0) rfl (by omega)
  rintro e w3 ⟨rfl, B3, k3, b3, o3, f3⟩
  go_wp2_with fail
  refine (n1.out _).mono ?_
  rintro e w4 ⟨rfl, q4⟩
  go_wp2_with fail
  refine (n2.out _).mono ?_
  rintro e w5 ⟨rfl, q5⟩
  have k5 := (k3.kept0 q4).kept0 q5
  have u5 := names_built w5 [d1, d2] i2.out (by simp)
  rw [show [d1, d2].flatMap bytes = bytes d1 ++ bytes d2 by simp] at u5
  have L5 := hid k5.kb.lt
  go_wp2_with (refine wpList_name2 19 20 d1 d2 hl1 hl2 (by rfl) (by rfl) ?_)
  refine (c1.out _ _ _ (k5.kept0 ((Only.refl [] _).alloc _)) f3 _ (u5.dgs (by simp)) (fun i hi => .inr (fun hm => by have := L5.out i hm; simp [Value.ownBlock] at hi; omega))).mono ?_
  rintro e w6 ⟨ov, V, B6, rfl, k6, hov, v1, v2, v3, o6, f6⟩
  obtain ⟨oa, oc, rfl, _⟩ := (hov.bss (by simp)).form
  have HOV := hid hov
  clear hov v3 o6 b3 o3 u5
  go_wp2_with fail
  refine (n2.out _).mono ?_
  rintro e w7 ⟨rfl, q7⟩
  have k7 := k6.kept0 q7
  have u7 := names_built w7 [d2] i1.out (by simp)
  rw [show [d2].flatMap bytes = bytes d2 by simp] at u7
  have L7 := hid k7.kb.lt
  go_wp2_with (refine wpList_name1 27 d2 hl2 (by rfl) ?_)
  refine (c2.out _ _ _ (k7.kept0 ((Only.refl [] _).alloc _)) f6 _ (u7.dgs (by simp)) (fun i hi => .inr (fun hm => by have := L7.out i hm; simp [Value.ownBlock] at hi; omega))).mono ?_
  rintro e w8 ⟨ov8, V8, B8, rfl, k8, hov8, y1, y2, y3, o8, f8⟩
  have hq : Only [] w6 (w7.alloc (Obj.cells (bytes d2).toArray 35)) := q7.trans0 ((Only.refl [] w7).alloc _)
  have HL := hid ((((HOV.out.kept0 hq).away o8 (fun i hi => (v2 i hi).2)).bss (by simp)))
  clear hov8 y2 o8 u7 v2 HOV hq
  go_wp2_with fail
  have o10 : Only [] w8 ((w8.alloc (Obj.cells #[.int .u8 7] 5)).alloc (Obj.cells #[.slice (some ⟨w8.heap.size, 0, none⟩) 1 1, .slice none 0 0] 27)) := ((Only.refl [] w8).alloc _).alloc _
  have hu10 : Bss ((w8.alloc (Obj.cells #[.int .u8 7] 5)).alloc (Obj.cells #[.slice (some ⟨w8.heap.size, 0, none⟩) 1 1, .slice none 0 0] 27)) (.slice (some ⟨w8.heap.size + 1, 0, none⟩) 2 2) [[7], []] := by
    have h1 := cs_built (w8.alloc (Obj.cells #[.int .u8 7] 5)) [.slice (some ⟨w8.heap.size, 0, none⟩) 1 1, .slice none 0 0] 27 1 2 (0, 0) rfl (by omega)
    rw [World.size_alloc] at h1
    have h2 : Bs (w8.alloc (Obj.cells #[.int .u8 7] 5)) (.slice (some ⟨w8.heap.size, 0, none⟩) 1 1) [7] := cs_built w8 [.int .u8 7] 5 1 1 (0, 0) rfl (by omega)
    exact ⟨_, h1, .cons (h2.kept0 ((Only.refl [] _).alloc _)) (.cons (Bs.empty (by unfold maxLen; omega)) .nil)⟩
  have hll := lists_any _ _ _ _ _ (HL.out.kept0 o10) hu10
  rw [decide_eq_true rfl] at hll
  have k10 := k8.kept0 o10
  clear hu10
  refine hll.mono ?_
  rintro e w11 ⟨rfl, q11⟩
  go_wp2_with fail
  refine (n1.out _).mono ?_
  rintro e w12 ⟨rfl, q12⟩
  have k12 := (k10.kept0 q11).kept0 q12
  go_wp2_with fail
  refine (hh.out _ _ _ k12).mono ?_
  rintro e w13 ⟨rfl, q13⟩
  have HF := hid (k12.only.trans0 q13)
  go_wp2
  go_ret
  exact ⟨rfl, HF.out⟩
end Go.Proofs.Ytnlmeaijnfjakaa.Sh
