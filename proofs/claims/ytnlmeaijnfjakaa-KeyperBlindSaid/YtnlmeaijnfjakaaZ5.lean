/- Texts of this proof, merged: KpQ, KpR, KpS, KpT, KpU, KpV, KpW. -/
import Derived.Test.YtnlmeaijnfjakaaZ4
import Derived.Test.YtnlmeaijnfjakaaCodecD
/- Redo's reading closure, the commit's record: walked. -/
namespace Go.Proofs.Ytnlmeaijnfjakaa.Sh
set_option linter.unusedSimpArgs false
set_option linter.unusedVariables false
open Go Go.RowKit
section
variable (rb fb bb kx dn q o n cap : Nat) (l : List UInt8) (w : World)

set_option maxRecDepth 20000 in
set_option maxHeartbeats 3200000 in
theorem redo1_2 (h : Rd w rb fb l) (hb : w.cell? ⟨bb, 0, none⟩ = some (.slice (some ⟨q, o, none⟩) n cap)) (hn : 0 < n) (hq : w.cell? ⟨q, o, none⟩ = some (vU8 2)) (hd : w.cell? ⟨dn, 0, none⟩ = some .nilFunc) (hz : w.frozen? ⟨dn, 0, none⟩ = false) (h1 : dn ≠ rb) (h2 : dn ≠ fb) :
    Calls Try.prog 60 #[.pointer (some ⟨rb, 0, none⟩), .pointer (some ⟨bb, 0, none⟩), .pointer (some ⟨kx, 0, none⟩), .pointer (some ⟨dn, 0, none⟩)] w (RedoPost rb fb kx dn (redoP 2 l) w) := by
  obtain ⟨p, hp⟩ : ∃ p, p = redoP 2 l := ⟨_, rfl⟩
  obtain ⟨nl, hnl⟩ : ∃ nl, nl = numL 18446744073709551615 l := ⟨_, rfl⟩
  have HP := hid (show p = (if nl.1 = 0 then
      (if (listL 8 nl.2.2).1 = 0 then (0, .com nl.2.1 (listL 8 nl.2.2).2.1, (listL 8 nl.2.2).2.2) else ((listL 8 nl.2.2).1, .no, []))
     else (nl.1, .no, [])) by rw [hp, hnl]; rfl)
  rw [← hp]
  clear hp
  have hmf : ∀ (fn : Fn) (first cap : Array Value) (w : World), (Instr.makeFunc fn first cap).run Try.prog w = .ok (.func fn first cap) w := fun _ _ _ _ => rfl
  have hnu := hid (number_any rb fb 18446744073709551615 l w h (by omega))
  have hdl : dn < w.heap.size := World.block_lt_of_cell? w _ hd
  have hv3 : vU8 2 = .int .u8 2 := rfl
  rw [hv3] at hq
  clear hv3
  unfold NumPost at hnu
  rw [← hnl] at hnu
  clear hnl
  go_enter Try.func60, Try.ntmps60
  go_wp2_with fail
  refine hnu.out.mono ?_
  rintro e w1 ⟨o1, hr1, hcase⟩
  have s1 := o1.size
  rcases hcase with ⟨hc, rfl, hrd⟩ | ⟨hc, rfl⟩
  · have hla := hid (list_any rb fb 8 nl.2.2 w1 hrd (by omega))
    have HQ := hid (show p = (if (listL 8 nl.2.2).1 = 0 then (0, .com nl.2.1 (listL 8 nl.2.2).2.1, (listL 8 nl.2.2).2.2) else ((listL 8 nl.2.2).1, .no, [])) by rw [HP.out, if_pos hc])
    obtain ⟨slot, hslot⟩ : ∃ slot, slot = nl.2.1 := ⟨_, rfl⟩
    obtain ⟨l1, hl1⟩ : ∃ l1, l1 = nl.2.2 := ⟨_, rfl⟩
    rw [← hslot, ← hl1] at HQ
    rw [← hl1] at hla hrd
    rw [← hslot]
    clear hnu HP hslot hl1 hc hr1
    go_wp2_with fail
    refine hla.out.mono ?_
    rintro e w2 ⟨o2, hr2, hcase⟩
    have s2 := o2.size
    rcases hcase with ⟨hc, ⟨v, rfl, ho⟩, hrd2⟩ | ⟨hc, rfl⟩
    · have HR := hid (show p = (0, .com slot (listL 8 l1).2.1, (listL 8 l1).2.2) by rw [HQ.out, if_pos hc])
      obtain ⟨ids, hids⟩ : ∃ ids, ids = (listL 8 l1).2.1 := ⟨_, rfl⟩
      obtain ⟨l', hl'⟩ : ∃ l', l' = (listL 8 l1).2.2 := ⟨_, rfl⟩
      rw [← hids, ← hl'] at HR
      rw [← hids] at ho
      rw [← hl'] at hrd2
      have o12 := o1.trans o2 (ds := [rb]) (by simp) (by simp)
      have hd2 := o12.cell hd (by simpa using h1)
      have hz2 : w2.frozen? ⟨dn, 0, none⟩ = false := by rw [o12.frozen' hdl (by simpa using h1)]; exact hz
      obtain ⟨va, vc, rfl⟩ := own_form ho.1
      have hdl2 : dn < w2.heap.size := by omega
      obtain ⟨w3, hw3⟩ : ∃ w3, w3 = (w2.alloc (Obj.cells #[.int .u64 (slot : Int)] 30)).alloc (Obj.cells #[.slice va ids.length vc] 42) := ⟨_, rfl⟩
      have o3 : Only [] w2 w3 := by rw [hw3]; exact ((Only.refl [] w2).alloc _).alloc _
      have hd3 := o3.cell hd2 (by simp)
      have hz3 : w3.frozen? ⟨dn, 0, none⟩ = false := by rw [o3.frozen' hdl2 (by simp)]; exact hz2
      have hx3 : w3.cell? ⟨w2.heap.size, 0, none⟩ = some (.int .u64 (slot : Int)) := by rw [hw3]; simp [go_sem]
      have hi3 : w3.cell? ⟨w2.heap.size + 1, 0, none⟩ = some (.slice va ids.length vc) := by rw [hw3]; simp [go_sem]
      clear hla hr2 hc hids hl' HQ
      go_wp2
      rw [← hw3]
      clear hw3
      have hst := store_func Try.prog w3 dn .nilFunc hd3 hz3
      rw [hst]
      go_wp2
      go_end0
      have q3 := (Only.refl [dn] w3).setCell (p := ⟨dn, 0, none⟩) (.inl (by simp)) (.func (.func 66) #[] #[.pointer (some ⟨kx, 0, none⟩), .pointer (some ⟨w2.heap.size, 0, none⟩), .pointer (some ⟨w2.heap.size + 1, 0, none⟩)])
      have hr3 := (hrd2.kept0 o3).kept q3 (by simpa using Ne.symm h1) (.inr (by simpa using Ne.symm h2))
      refine ⟨(o12.trans o3 (ds := [rb]) (by simp) (by simp)).trans q3 (ds := [rb, dn]) (by simp) (by simp), ⟨_, hr3⟩, .inl ⟨by rw [HR.out], rfl, by rw [HR.out]; exact hr3, ?_⟩⟩
      rw [HR.out]
      refine ⟨w2.heap.size, w2.heap.size + 1, _, World.cell?_setCell_same _ _ _ hd3, by omega, q3.cell hx3 (by simp; omega), by omega, q3.cell hi3 (by simp; omega), ?_⟩
      have ho' : OwnD w.heap.size w2 (.slice va ids.length vc) ids := ⟨own_lower ho.1 s1, ho.2⟩
      exact (ho'.only o3 (by simp)).only q3 (fun i hi hm => by have e1 := (ho.1.lt i hi).1; rw [List.mem_singleton] at hm; omega)
    · have HR := hid (show p = ((listL 8 l1).1, .no, []) by rw [HQ.out, if_neg hc])
      have o12 := o1.trans o2 (ds := [rb]) (by simp) (by simp)
      exact ⟨rfl, o12.mono (fun x hx => .inl (by simp at hx; simp [hx])), hr2, .inr ⟨by rw [HR.out]; exact hc, by rw [HR.out]⟩⟩
  · have HQ := hid (show p = (nl.1, .no, []) by rw [HP.out, if_neg hc])
    exact ⟨rfl, o1.mono (fun x hx => .inl (by simp at hx; simp [hx])), hr1, .inr ⟨by rw [HQ.out]; exact hc, by rw [HQ.out]⟩⟩
end
end Go.Proofs.Ytnlmeaijnfjakaa.Sh
/- Redo's reading closure, the keep's record and what is no record: walked. -/
namespace Go.Proofs.Ytnlmeaijnfjakaa.Sh
set_option linter.unusedSimpArgs false
set_option linter.unusedVariables false
open Go Go.RowKit
section
variable (rb fb bb kx dn q o n cap : Nat) (l : List UInt8) (w : World)

set_option maxRecDepth 20000 in
set_option maxHeartbeats 3200000 in
theorem redo1_0 (c : UInt8) (hc1 : c ≠ 1) (hc2 : c ≠ 2) (hc3 : c ≠ 3) (h : Rd w rb fb l) (hb : w.cell? ⟨bb, 0, none⟩ = some (.slice (some ⟨q, o, none⟩) n cap)) (hn : 0 < n) (hq : w.cell? ⟨q, o, none⟩ = some (vU8 c)) (hd : w.cell? ⟨dn, 0, none⟩ = some .nilFunc) :
    Calls Try.prog 60 #[.pointer (some ⟨rb, 0, none⟩), .pointer (some ⟨bb, 0, none⟩), .pointer (some ⟨kx, 0, none⟩), .pointer (some ⟨dn, 0, none⟩)] w (RedoPost rb fb kx dn (redoP c l) w) := by
  have hfin := hid (show RedoPost rb fb kx dn (redoP c l) w (.returned (.tuple #[])) w by
    have hp : redoP c l = (0, .no, l) := by unfold redoP; rw [if_neg hc1, if_neg hc2, if_neg hc3]
    rw [hp]
    exact ⟨Only.refl _ w, ⟨_, h⟩, .inl ⟨rfl, rfl, h, hd⟩⟩)
  obtain ⟨p, hp⟩ : ∃ p, p = redoP c l := ⟨_, rfl⟩
  rw [← hp] at hfin ⊢
  clear hp
  have e1 : ¬ ((c.toNat : Int) = 1) := fun e => hc1 (UInt8.toNat_inj.1 (by show c.toNat = 1; omega))
  have e2 : ¬ ((c.toNat : Int) = 2) := fun e => hc2 (UInt8.toNat_inj.1 (by show c.toNat = 2; omega))
  have e3 : ¬ ((c.toNat : Int) = 3) := fun e => hc3 (UInt8.toNat_inj.1 (by show c.toNat = 3; omega))
  have hv3 : vU8 c = .int .u8 (c.toNat : Int) := rfl
  rw [hv3] at hq
  have hlt := u8_bound c
  clear hv3 h hd hc1 hc2 hc3
  go_enter Try.func60, Try.ntmps60
  go_wp2
  go_end0
  exact hfin.out

set_option maxRecDepth 20000 in
set_option maxHeartbeats 3200000 in
theorem redo1_1 (h : Rd w rb fb l) (hb : w.cell? ⟨bb, 0, none⟩ = some (.slice (some ⟨q, o, none⟩) n cap)) (hn : 0 < n) (hq : w.cell? ⟨q, o, none⟩ = some (vU8 1)) (hd : w.cell? ⟨dn, 0, none⟩ = some .nilFunc) (hz : w.frozen? ⟨dn, 0, none⟩ = false) (h1 : dn ≠ rb) (h2 : dn ≠ fb) :
    Calls Try.prog 60 #[.pointer (some ⟨rb, 0, none⟩), .pointer (some ⟨bb, 0, none⟩), .pointer (some ⟨kx, 0, none⟩), .pointer (some ⟨dn, 0, none⟩)] w (RedoPost rb fb kx dn (redoP 1 l) w) := by
  obtain ⟨p, hp⟩ : ∃ p, p = redoP 1 l := ⟨_, rfl⟩
  obtain ⟨nl, hnl⟩ : ∃ nl, nl = digL l := ⟨_, rfl⟩
  have HP := hid (show p = (if nl.1 = 0 then
      (if (textL 32 nl.2.2).1 = 0 then (0, .keep nl.2.1 (textL 32 nl.2.2).2.1, (textL 32 nl.2.2).2.2) else ((textL 32 nl.2.2).1, .no, []))
     else (nl.1, .no, [])) by rw [hp, hnl]; rfl)
  rw [← hp]
  clear hp
  have hmf : ∀ (fn : Fn) (first cap : Array Value) (w : World), (Instr.makeFunc fn first cap).run Try.prog w = .ok (.func fn first cap) w := fun _ _ _ _ => rfl
  have hnu := hid (dig_any rb fb l w h)
  have hl32 : (digL l).1 = 0 → Hid ((digL l).2.1.length = 32) := fun hz => by
    show _ = _
    unfold digL at hz ⊢
    split at hz
    · cases hz
    · rename_i h9
      rw [if_neg h9]
      simp; omega
  have hdl : dn < w.heap.size := World.block_lt_of_cell? w _ hd
  have hv3 : vU8 1 = .int .u8 1 := rfl
  rw [hv3] at hq
  clear hv3
  unfold DigPost at hnu
  rw [← hnl] at hnu hl32
  clear hnl
  go_enter Try.func60, Try.ntmps60
  go_wp2_with fail
  refine hnu.out.mono ?_
  rintro e w1 ⟨o1, hr1, hcase⟩
  have s1 := o1.size
  rcases hcase with ⟨hc, rfl, hrd⟩ | ⟨hc, rfl⟩
  · have hla := hid (text_any rb fb 32 nl.2.2 w1 hrd (by omega))
    have hlen := (hl32 hc).out
    have HQ := hid (show p = (if (textL 32 nl.2.2).1 = 0 then (0, .keep nl.2.1 (textL 32 nl.2.2).2.1, (textL 32 nl.2.2).2.2) else ((textL 32 nl.2.2).1, .no, [])) by rw [HP.out, if_pos hc])
    obtain ⟨d, hdd⟩ : ∃ d, d = nl.2.1 := ⟨_, rfl⟩
    obtain ⟨l1, hl1⟩ : ∃ l1, l1 = nl.2.2 := ⟨_, rfl⟩
    rw [← hdd, ← hl1] at HQ
    rw [← hl1] at hla hrd
    rw [← hdd] at hlen ⊢
    clear hnu HP hdd hl1 hc hr1 hl32
    go_wp2_with fail
    refine hla.out.mono ?_
    rintro e w2 ⟨o2, hr2, hcase⟩
    have s2 := o2.size
    rcases hcase with ⟨hc, ⟨v, rfl, ho⟩, hrd2⟩ | ⟨hc, rfl⟩
    · have HR := hid (show p = (0, .keep d (textL 32 l1).2.1, (textL 32 l1).2.2) by rw [HQ.out, if_pos hc])
      obtain ⟨t, ht⟩ : ∃ t, t = (textL 32 l1).2.1 := ⟨_, rfl⟩
      obtain ⟨l', hl'⟩ : ∃ l', l' = (textL 32 l1).2.2 := ⟨_, rfl⟩
      rw [← ht, ← hl'] at HR
      rw [← ht] at ho
      rw [← hl'] at hrd2
      have o12 := o1.trans o2 (ds := [rb]) (by simp) (by simp)
      have hd2 := o12.cell hd (by simpa using h1)
      have hz2 : w2.frozen? ⟨dn, 0, none⟩ = false := by rw [o12.frozen' hdl (by simpa using h1)]; exact hz
      obtain ⟨va, vc, rfl⟩ := own_form ho
      have hdl2 : dn < w2.heap.size := by omega
      have oa : Only [] w2 ((w2.alloc (Obj.cells Z32 35)).alloc (Obj.cells #[.slice none 0 0] 27)) := ((Only.refl [] w2).alloc _).alloc _
      have hDa := (Dv.fresh w2 35).kept0 ((Only.refl [] (w2.alloc (Obj.cells Z32 35))).alloc (Obj.cells #[.slice none 0 0] 27))
      have hta := hDa.there
      have hca : ((w2.alloc (Obj.cells Z32 35)).alloc (Obj.cells #[.slice none 0 0] 27)).cell? ⟨w2.heap.size + 1, 0, none⟩ = some (.slice none 0 0) := by simp [go_sem]
      have hza : ((w2.alloc (Obj.cells Z32 35)).alloc (Obj.cells #[.slice none 0 0] 27)).frozen? ⟨w2.heap.size + 1, 0, none⟩ = false := by simp [go_sem]
      have hsa : ((w2.alloc (Obj.cells Z32 35)).alloc (Obj.cells #[.slice none 0 0] 27)).heap.size = w2.heap.size + 2 := by simp
      clear hla hr2 hc ht hl' HQ
      rw [show vD d = .agg (bytes d).toArray from rfl]
      go_wp2_with (first
        | (refine wpList_store_dig (by rfl) _ _ (by rfl) w2.heap.size d (bytes d).toArray (by rfl) (by rfl) rfl hlen hta ?_; intro w3 hD3 q3; have hc3 := q3.cell hca (by simp); have hz3 := (q3.frozen' (p := ⟨w2.heap.size + 1, 0, none⟩) (by simp) (by simp)).trans hza))
      have o3 : Only [] w2 w3 := oa.trans q3 (by simp) (by simp)
      have hd3 := o3.cell hd2 (by simp)
      have hz4 : w3.frozen? ⟨dn, 0, none⟩ = false := by rw [o3.frozen' hdl2 (by simp)]; exact hz2
      have r4 := (Only.refl [w2.heap.size + 1] w3).setCell (p := ⟨w2.heap.size + 1, 0, none⟩) (.inl (by simp)) (.slice va t.length vc)
      obtain ⟨w4, hw4⟩ : ∃ w4, w4 = w3.setCell ⟨w2.heap.size + 1, 0, none⟩ (.slice va t.length vc) := ⟨_, rfl⟩
      have s3 := q3.size
      have hc4 : w4.cell? ⟨w2.heap.size + 1, 0, none⟩ = some (.slice va t.length vc) := by rw [hw4]; exact World.cell?_setCell_same _ _ _ hc3
      rw [← hw4] at r4
      have o4 : Only [] w2 w4 := o3.trans r4 (by simp) (by simp)
      have hd4 := o4.cell hd2 (by simp)
      have hz5 : w4.frozen? ⟨dn, 0, none⟩ = false := by rw [o4.frozen' hdl2 (by simp)]; exact hz2
      have hD4 := hD3.kept r4 (by simp)
      go_wp2
      rw [← hw4]
      clear hw4
      have hst := store_func Try.prog w4 dn .nilFunc hd4 hz5
      rw [hst]
      go_wp2
      go_end0
      have q5 := (Only.refl [dn] w4).setCell (p := ⟨dn, 0, none⟩) (.inl (by simp)) (.func (.func 63) #[] #[.pointer (some ⟨kx, 0, none⟩), .pointer (some ⟨w2.heap.size, 0, none⟩), .pointer (some ⟨w2.heap.size + 1, 0, none⟩)])
      have hr3 := (hrd2.kept0 o4).kept q5 (by simpa using Ne.symm h1) (.inr (by simpa using Ne.symm h2))
      refine ⟨(o12.trans o4 (ds := [rb]) (by simp) (by simp)).trans q5 (ds := [rb, dn]) (by simp) (by simp), ⟨_, hr3⟩, .inl ⟨by rw [HR.out], rfl, by rw [HR.out]; exact hr3, ?_⟩⟩
      rw [HR.out]
      refine ⟨w2.heap.size, w2.heap.size + 1, _, World.cell?_setCell_same _ _ _ hd4, by omega, hD4.kept q5 (by simp; omega), by omega, q5.cell hc4 (by simp; omega), ?_⟩
      exact own_only (own_only (own_lower ho s1) o4 (by simp)) q5 (fun i hi hm => by have e1 := (ho.lt i hi).1; rw [List.mem_singleton] at hm; omega)
    · have HR := hid (show p = ((textL 32 l1).1, .no, []) by rw [HQ.out, if_neg hc])
      have o12 := o1.trans o2 (ds := [rb]) (by simp) (by simp)
      exact ⟨rfl, o12.mono (fun x hx => .inl (by simp at hx; simp [hx])), hr2, .inr ⟨by rw [HR.out]; exact hc, by rw [HR.out]⟩⟩
  · have HQ := hid (show p = (nl.1, .no, []) by rw [HP.out, if_neg hc])
    exact ⟨rfl, o1.mono (fun x hx => .inl (by simp at hx; simp [hx])), hr1, .inr ⟨by rw [HQ.out]; exact hc, by rw [HQ.out]⟩⟩
end
end Go.Proofs.Ytnlmeaijnfjakaa.Sh
/- Redo's reading closure, whole; and what it is to the codec's Read. -/
namespace Go.Proofs.Ytnlmeaijnfjakaa.Sh
set_option linter.unusedSimpArgs false
set_option linter.unusedVariables false
open Go Go.RowKit
section
variable (rb fb bb kx dn q o n cap : Nat) (l : List UInt8) (w : World)

theorem redo1_any (c : UInt8) (h : Rd w rb fb l) (hb : w.cell? ⟨bb, 0, none⟩ = some (.slice (some ⟨q, o, none⟩) n cap)) (hn : 0 < n) (hq : w.cell? ⟨q, o, none⟩ = some (vU8 c)) (hd : w.cell? ⟨dn, 0, none⟩ = some .nilFunc) (hz : w.frozen? ⟨dn, 0, none⟩ = false) (h1 : dn ≠ rb) (h2 : dn ≠ fb) :
    Calls Try.prog 60 #[.pointer (some ⟨rb, 0, none⟩), .pointer (some ⟨bb, 0, none⟩), .pointer (some ⟨kx, 0, none⟩), .pointer (some ⟨dn, 0, none⟩)] w (RedoPost rb fb kx dn (redoP c l) w) := by
  by_cases e1 : c = 1
  · subst e1; exact redo1_1 rb fb bb kx dn q o n cap l w h hb hn hq hd hz h1 h2
  by_cases e2 : c = 2
  · subst e2; exact redo1_2 rb fb bb kx dn q o n cap l w h hb hn hq hd hz h1 h2
  by_cases e3 : c = 3
  · subst e3; exact redo1_3 rb fb bb kx dn q o n cap l w h hb hn hq hd hz h1 h2
  exact redo1_0 rb fb bb kx dn q o n cap l w c e1 e2 e3 h hb hn hq hd

/-- What was read stands on where only old cells change. -/
theorem DoAt.only {w w' : World} {B kx dn : Nat} {x : Do} (h : DoAt w B kx dn x) {bs : List Nat} (ho : Only bs w w') (hd : dn ∉ bs) (hb : ∀ i ∈ bs, i < B) : DoAt w' B kx dn x := by
  have hn : ∀ i, B ≤ i → i ∉ bs := fun i hi hm => by have := hb i hm; omega
  cases x with
  | no => exact ho.cell h hd
  | keep d s =>
    obtain ⟨dx, sx, v, h1, h2, h3, h4, h5, h6⟩ := h
    exact ⟨dx, sx, v, ho.cell h1 hd, h2, h3.kept ho (hn _ h2), h4, ho.cell h5 (hn _ h4), own_only h6 ho (fun i hi => hn i (h6.lt i hi).1)⟩
  | com slot ids =>
    obtain ⟨sx, ix, v, h1, h2, h3, h4, h5, h6⟩ := h
    exact ⟨sx, ix, v, ho.cell h1 hd, h2, ho.cell h3 (hn _ h2), h4, ho.cell h5 (hn _ h4), h6.only ho (fun i hi => hn i (h6.1.lt i hi).1)⟩
  | forg ids =>
    obtain ⟨ix, v, h1, h2, h3, h4⟩ := h
    exact ⟨ix, v, ho.cell h1 hd, h2, ho.cell h3 (hn _ h2), h4.only ho (fun i hi => hn i (h4.1.lt i hi).1)⟩
end
end Go.Proofs.Ytnlmeaijnfjakaa.Sh
/- What codec.Read makes of redo's reading closure. -/
namespace Go.Proofs.Ytnlmeaijnfjakaa.Sh
set_option linter.unusedSimpArgs false
set_option linter.unusedVariables false
open Go Go.RowKit

theorem enter_redo1 : ∀ (args : Array Value) (w : World), (callFunc 60 args).run Try.prog w = .ok (.enter 60 args) w := fun _ _ => rfl

def RReadPost (kx dn : Nat) (p : Nat × Do × List UInt8) (w : World) (e : Ending) (w' : World) : Prop :=
  Only [dn] w w' ∧ ∃ z : Nat, e = .returned (.int .i64 (z : Int)) ∧ z ≤ 100 ∧ (z = 0 ↔ p.1 = 0 ∧ p.2.2 = []) ∧ (p.1 = 0 → DoAt w' (w.heap.size + 3) kx dn p.2.1)

set_option maxRecDepth 20000 in
set_option maxHeartbeats 1600000 in
theorem redoRead_any (fb bb kx dn q o n cap : Nat) (l : List UInt8) (w : World) (c : UInt8) (v : Value) (hB : Bs w v l) (hfb : ∀ b, v.ownBlock = some b → l = [] ∨ b = fb) (hfn : fb ≠ w.heap.size + 1)
    (hcode : (redoP c l).1 ≤ 100)
    (hb : w.cell? ⟨bb, 0, none⟩ = some (.slice (some ⟨q, o, none⟩) n cap)) (hn : 0 < n) (hq : w.cell? ⟨q, o, none⟩ = some (vU8 c)) (hd : w.cell? ⟨dn, 0, none⟩ = some .nilFunc) (hz : w.frozen? ⟨dn, 0, none⟩ = false) (h2 : dn ≠ fb) :
    Calls Try.prog 59 #[v, .func (.func 60) #[] #[.pointer (some ⟨bb, 0, none⟩), .pointer (some ⟨kx, 0, none⟩), .pointer (some ⟨dn, 0, none⟩)]] w (RReadPost kx dn (redoP c l) w) := by
  have hdl : dn < w.heap.size := World.block_lt_of_cell? w _ hd
  refine read_any v l fb 60 _ w _ hB hfb hfn enter_redo1 ?_
  intro w2 hp2 hs2 hr2
  refine (redo1_any (w.heap.size + 1) fb bb kx dn q o n cap l w2 c hr2 (hp2.cell hb (by simp)) hn (hp2.cell hq (by simp)) (hp2.cell hd (by simp)) (by rw [hp2.frozen' hdl (by simp)]; exact hz) (by omega) h2).mono ?_
  rintro e w3 ⟨o3, ⟨l', hr'⟩, hcase⟩
  have hO : ∀ w4, Only [w.heap.size, w.heap.size + 1, w.heap.size + 1 + 1] w3 w4 → Only [dn] w w4 := fun w4 h4 =>
    (hp2.trans o3 (ds := [dn]) (by simp) (by simp)).trans h4 (ds := [dn]) (by simp) (by simp; omega)
  have hbs : ∃ bs, Only bs w2 w3 ∧ w.heap.size ∉ bs ∧ w.heap.size + 1 + 1 ∉ bs := ⟨_, o3, by simp; omega, by simp; omega⟩
  refine ⟨hbs, ?_⟩
  rcases hcase with ⟨h0, rfl, hrd, hdo⟩ | ⟨h0, rfl⟩
  · refine .inl ⟨_, rfl, hrd, fun w4 h4 => ⟨hO w4 h4, (if (redoP c l).2.2 = [] then 0 else 3), ?_, ?_, ?_, fun _ => ?_⟩⟩
    · split <;> rfl
    · split <;> omega
    · by_cases he : (redoP c l).2.2 = [] <;> simp [he, h0]
    · rw [← hs2]
      exact hdo.only h4 (by simp; omega) (by simp; omega)
  · refine .inr (.inl ⟨_, _, rfl, hr', fun w4 h4 => ⟨hO w4 h4, _, rfl, hcode, ⟨fun e => absurd e h0, fun e => absurd e.1 h0⟩, fun e => absurd e h0⟩⟩)
end Go.Proofs.Ytnlmeaijnfjakaa.Sh
/- redo: walked. -/
namespace Go.Proofs.Ytnlmeaijnfjakaa.Sh
set_option linter.unusedSimpArgs false
set_option linter.unusedVariables false
open Go Go.RowKit

theorem numF_code : ∀ (k acc : Nat) (l : List UInt8), (numF k acc l).1 ≤ 100 := by
  intro k acc l
  induction l generalizing k acc with
  | nil => simp [numF]
  | cons c l ih =>
    unfold numF
    repeat' split
    all_goals first | exact ih _ _ | (simp; done) | omega
theorem numL_code (m : Nat) (l : List UInt8) : (numL m l).1 ≤ 100 := by
  unfold numL
  split
  · simp
  · exact numF_code 0 0 l
theorem digL_code (l : List UInt8) : (digL l).1 ≤ 100 := by
  unfold digL
  split <;> simp
theorem textL_code (m : Nat) (l : List UInt8) : (textL m l).1 ≤ 100 := by
  unfold textL
  split
  · exact numL_code m l
  · split <;> simp
theorem digsL_code : ∀ (k : Nat) (l : List UInt8), (digsL k l).1 ≤ 100
  | 0, _ => by simp [digsL]
  | k + 1, l => by
    unfold digsL
    split
    · exact digsL_code k _
    · exact digL_code l
theorem listL_code (m : Nat) (l : List UInt8) : (listL m l).1 ≤ 100 := by
  unfold listL
  split
  · exact digsL_code _ _
  · exact numL_code m l
theorem redoP_code (c : UInt8) (l : List UInt8) : (redoP c l).1 ≤ 100 := by
  unfold redoP
  repeat' split
  all_goals first | (simp; done) | exact digL_code _ | exact textL_code _ _ | exact numL_code _ _ | exact listL_code _ _
end Go.Proofs.Ytnlmeaijnfjakaa.Sh
/- redo: walked. -/
namespace Go.Proofs.Ytnlmeaijnfjakaa.Sh
set_option linter.unusedSimpArgs false
set_option linter.unusedVariables false
open Go Go.RowKit

theorem neq_nil2 (w : World) : (binOp .neq 1 .nilFunc .nilFunc).run Try.prog w = .ok (.bool false) w := by kernel_rfl
theorem neq_nil3 (f : Fn) (x c : Array Value) (w : World) : (binOp .neq 1 (.func f x c) .nilFunc).run Try.prog w = .ok (.bool true) w := by kernel_rfl

theorem textL_len (m : Nat) (l : List UInt8) : (textL m l).2.1.length ≤ m := by
  unfold textL
  split
  · simp
  · rename_i h
    split
    · simp
    · have := numL_most m l (by simpa using h)
      simp only [List.length_take]
      omega
/-- What is small in what is to be done. -/
def DoFew : Do → Prop
  | .no => True
  | .keep _ s => s.length ≤ 32
  | .com slot _ => slot < 18446744073709551616
  | .forg _ => True
theorem redoP_few (c : UInt8) (l : List UInt8) : DoFew (redoP c l).2.1 := by
  unfold redoP
  repeat' split
  all_goals first | trivial | skip
  · exact textL_len _ _
  · rename_i h _
    have := numL_most _ _ h
    exact show _ < 18446744073709551616 by omega

theorem Kp.wide {w0 w2 w' : World} {k x mb : Nat} {ls ss : List Nat} {m : Km} {f : List UInt8} {rs : List (List UInt8)} (h : Kp w' k x mb ls (ss ++ newBs w2 w') m f rs) (h02 : w0.heap.size ≤ w2.heap.size) (hk : k < w0.heap.size) (hm : mb < w0.heap.size) (hl : ∀ i ∈ ls, i < w0.heap.size) : Kp w' k x mb ls (ss ++ newBs w0 w') m f rs := by
  refine h.more (fun i hi => ?_) (fun i hi => ?_)
  · rcases List.mem_append.1 hi with hi | hi
    · exact List.mem_append_left _ hi
    · have := mem_newBs.1 hi
      exact List.mem_append_right _ (mem_newBs.2 ⟨by omega, this.2⟩)
  · rcases List.mem_append.1 hi with hi | hi
    · have hi := List.mem_append_left (newBs w2 w') hi
      exact ⟨h.ns i hi, fun e => h.nk.2.1 (by rw [← e]; exact hi), fun e => h.nk.2.2.2.1 (by rw [← e]; exact hi)⟩
    · have h1 := (mem_newBs.1 hi).1
      exact ⟨fun hn => by have := hl i hn; omega, by omega, by omega⟩
theorem Kp.wide0 {w0 w' : World} {k x mb : Nat} {ls ss : List Nat} {m : Km} {f : List UInt8} {rs : List (List UInt8)} (h : Kp w' k x mb ls ss m f rs) (hk : k < w0.heap.size) (hm : mb < w0.heap.size) (hl : ∀ i ∈ ls, i < w0.heap.size) : Kp w' k x mb ls (ss ++ newBs w0 w') m f rs := by
  refine h.more (fun i hi => List.mem_append_left _ hi) (fun i hi => ?_)
  rcases List.mem_append.1 hi with hi | hi
  · exact ⟨h.ns i hi, fun e => h.nk.2.1 (by rw [← e]; exact hi), fun e => h.nk.2.2.2.1 (by rw [← e]; exact hi)⟩
  · have h1 := (mem_newBs.1 hi).1
    exact ⟨fun hn => by have := hl i hn; omega, by omega, by omega⟩

set_option maxRecDepth 20000 in
set_option maxHeartbeats 1600000 in
theorem redo_any (w : World) (k x mb : Nat) (ls ss : List Nat) (m : Km) (f : List UInt8) (rs : List (List UInt8)) (h : Kp w k x mb ls ss m f rs) (hl : ∀ i ∈ ls, i < w.heap.size) (hi : KInv m) (q o cap : Nat) (c : UInt8) (l : List UInt8) (hB : Bs w (.slice (some ⟨q, o, none⟩) (c :: l).length cap) (c :: l)) (hql : q < w.heap.size) (hq : w.cell? ⟨q, o, none⟩ = some (vU8 c)) :
    Calls Try.prog 31 #[.pointer (some ⟨k, 0, none⟩), .slice (some ⟨q, o, none⟩) (c :: l).length cap] w fun e w' => e = .returned (.tuple #[]) ∧ Kp w' k x mb ls (ss ++ newBs w w') (redoB m c l) f rs ∧ Only [k, mb] w w' := by
  have hmf : ∀ (fn : Fn) (first cap : Array Value) (w : World), (Instr.makeFunc fn first cap).run Try.prog w = .ok (.func fn first cap) w := fun _ _ _ _ => rfl
  have htail := hB.tail 1 (by simp)
  have hcap : (c :: l).length ≤ cap := by obtain ⟨_, a, cap', e, h1, h2, h3, _⟩ := _root_.id hB; cases e; first | exact h1 | exact h2 | exact h3 | omega
  have hlen : (c :: l).length = l.length + 1 := rfl
  rw [hlen] at hB htail hcap ⊢
  rw [show (c :: l).drop 1 = l from rfl, show l.length + 1 - 1 = l.length by omega] at htail
  obtain ⟨w1, hw1⟩ : ∃ w1, w1 = ((w.alloc (Obj.cells #[.pointer (some ⟨k, 0, none⟩)] 25)).alloc (Obj.cells #[.slice (some ⟨q, o, none⟩) (l.length + 1) cap] 27)).alloc (Obj.cells #[.nilFunc] 1) := ⟨_, rfl⟩
  have o1 : Only [] w w1 := by rw [hw1]; exact (((Only.refl [] w).alloc _).alloc _).alloc _
  have hk1 : w1.cell? ⟨w.heap.size, 0, none⟩ = some (.pointer (some ⟨k, 0, none⟩)) := by rw [hw1]; simp [go_sem]
  have hb1 : w1.cell? ⟨w.heap.size + 1, 0, none⟩ = some (.slice (some ⟨q, o, none⟩) (l.length + 1) cap) := by rw [hw1]; simp [go_sem]
  have hd1 : w1.cell? ⟨w.heap.size + 1 + 1, 0, none⟩ = some .nilFunc := by rw [hw1]; simp [go_sem]
  have hz1 : w1.frozen? ⟨w.heap.size + 1 + 1, 0, none⟩ = false := by rw [hw1]; simp [go_sem]
  have hs1 : w1.heap.size = w.heap.size + 3 := by rw [hw1]; simp
  have hlt := h.lt
  by_cases hc1 : cap = 1
  case' pos =>
    go_enter Try.func31, Try.ntmps31
    have hc2 : cap - 1 = 0 := by omega
    have hl0 : l.length = 0 := by omega
    have hBe : Bs w1 (.slice (some ⟨q, o, none⟩) 0 0) l := by
      rw [List.eq_nil_of_length_eq_zero hl0]
      exact Bs.empty (by omega)
    rw [show l.length + 1 = 1 by omega, hc1] at hw1 hb1
    clear htail
    go_wp2_with fail
    rw [← hw1]
    clear hw1
    refine (redoRead_any q (w.heap.size + 1) w.heap.size (w.heap.size + 1 + 1) q o 1 1 l w1 c _ hBe (fun b hb => .inr (by simpa [Value.ownBlock] using hb.symm)) (by omega) (redoP_code c l) hb1 (by omega) (o1.cell hq (by simp)) hd1 hz1 (by omega)).mono ?_
    clear hBe hc1 hc2 hl0
  case' neg =>
    go_enter Try.func31, Try.ntmps31
    have hc2 : ¬ cap - 1 = 0 := by omega
    go_wp2_with fail
    rw [← hw1]
    clear hw1
    refine (redoRead_any q (w.heap.size + 1) w.heap.size (w.heap.size + 1 + 1) q o (l.length + 1) cap l w1 c _ (htail.kept0 o1) (fun b hb => .inr (by simpa [Value.ownBlock] using hb.symm)) (by omega) (redoP_code c l) hb1 (by omega) (o1.cell hq (by simp)) hd1 hz1 (by omega)).mono ?_
    clear htail hc1 hc2
  all_goals
    clear hcap hlen
    rintro e w2 ⟨o2, z, rfl, hz100, hz0, hdo⟩
    have s2 := o2.size
    have o12 : Only [] w w2 := o1.trans o2 (by simp) (by simp; omega)
    have hsz := o12.size
    by_cases h0 : z = 0
    · subst h0
      have hp := hz0.1 rfl
      have hyes := hid (show redoB m c l = doK m (redoP c l).2.1 by rw [redoB_P, if_pos hp])
      have hda := hdo hp.1
      have hfew := redoP_few c l
      have hK2 := h.only o12 (by simp)
      have hl2 : ∀ i ∈ ls, i < w2.heap.size := fun i hm => by have := hl i hm; omega
      have hk2 := o2.cell hk1 (by simp; omega)
      have hg2 := hK2.grow (w' := w2) h hl
      obtain ⟨y, hx⟩ : ∃ y, y = (redoP c l).2.1 := ⟨_, rfl⟩
      rw [← hx] at hda hyes hfew
      clear hz0 hdo hp hx hB hk1 hb1 hd1 hz1 hs1 o1 o2 hq
      cases y with
      | no =>
        have hdn : w2.cell? ⟨w.heap.size + 1 + 1, 0, none⟩ = some .nilFunc := hda
        clear hda
        have hfin := hid (show Kp w2 k x mb ls (ss ++ newBs w w2) (redoB m c l) f rs ∧ Only [k, mb] w w2 from ⟨by rw [hyes]; exact hg2, o12.mono (by simp)⟩)
        have hnf : (binOp .neq 1 .nilFunc .nilFunc).run Try.prog w2 = .ok (.bool false) w2 := neq_nil2 w2
        clear hg2 hK2 hyes h
        go_wp2
        go_end0
        exact ⟨rfl, hfin.out.1, hfin.out.2⟩
      | forg ids =>
        obtain ⟨ix, v, hdn, hix, hv, hown⟩ := hda
        have hnl : ids.length ≤ 9223372036854775807 := by
          rcases hown.1.2 with ⟨_, h9⟩ | ⟨_, _, _, _, _, _, h9, h8, _⟩
          · omega
          · unfold maxLen at h8; omega
        have hcl := hid (redo13_any w2 k x mb ls ss m f rs hK2 hi w.heap.size ix v ids hk2 hv (Dgs.of_own hown.1 hown.2 hnl))
        have hnf := neq_nil3 (.func 67) #[] #[.pointer (some ⟨w.heap.size, 0, none⟩), .pointer (some ⟨ix, 0, none⟩)] w2
        have hny := hid hyes
        clear hg2 hK2 hyes hown hv hnl
        go_wp2_with fail
        refine hcl.out.mono ?_
        rintro e w3 ⟨rfl, h3, o3⟩
        have hfin := hid (show Kp w3 k x mb ls (ss ++ newBs w w3) (redoB m c l) f rs ∧ Only [k, mb] w w3 from ⟨by rw [hny.out]; exact h3.wide0 hlt.1 hlt.2 hl, (o12.trans o3 (ds := [k, mb]) (by simp) (by simp))⟩)
        go_wp2
        go_end0
        exact ⟨rfl, hfin.out.1, hfin.out.2⟩
      | com slot ids =>
        obtain ⟨sx, ix, v, hdn, hsx, hs, hix, hv, hown⟩ := hda
        have hnl : ids.length ≤ 9223372036854775807 := by
          rcases hown.1.2 with ⟨_, h9⟩ | ⟨_, _, _, _, _, _, h9, h8, _⟩
          · omega
          · unfold maxLen at h8; omega
        have hcl := hid (redo12_any w2 k x mb ls ss m f rs hK2 hl2 hi w.heap.size sx ix slot hfew v ids hk2 hs hv (Dgs.of_own hown.1 hown.2 hnl))
        have hnf := neq_nil3 (.func 66) #[] #[.pointer (some ⟨w.heap.size, 0, none⟩), .pointer (some ⟨sx, 0, none⟩), .pointer (some ⟨ix, 0, none⟩)] w2
        have hny := hid hyes
        clear hg2 hK2 hyes hown hv hnl hs hfew
        go_wp2_with fail
        refine hcl.out.mono ?_
        rintro e w3 ⟨rfl, h3, o3⟩
        have hfin := hid (show Kp w3 k x mb ls (ss ++ newBs w w3) (redoB m c l) f rs ∧ Only [k, mb] w w3 from ⟨by rw [hny.out]; exact h3.wide hsz hlt.1 hlt.2 hl, (o12.trans o3 (ds := [k, mb]) (by simp) (by simp))⟩)
        go_wp2
        go_end0
        exact ⟨rfl, hfin.out.1, hfin.out.2⟩
      | keep d s =>
        obtain ⟨dx, sx, v, hdn, hdx, hD, hsx, hv, hown⟩ := hda
        have hsl : s.length ≤ 32 := hfew
        have hcl := hid (redo11_any w2 k x mb ls ss m f rs hK2 hl2 hi w.heap.size dx sx d s v hk2 hD hv (Cs.of_own hown (by omega)) (by omega))
        have hnf := neq_nil3 (.func 63) #[] #[.pointer (some ⟨w.heap.size, 0, none⟩), .pointer (some ⟨dx, 0, none⟩), .pointer (some ⟨sx, 0, none⟩)] w2
        have hny := hid hyes
        clear hg2 hK2 hyes hown hv hsl hD hfew
        go_wp2_with fail
        refine hcl.out.mono ?_
        rintro e w3 ⟨rfl, h3, o3⟩
        have hfin := hid (show Kp w3 k x mb ls (ss ++ newBs w w3) (redoB m c l) f rs ∧ Only [k, mb] w w3 from ⟨by rw [hny.out]; exact h3.wide hsz hlt.1 hlt.2 hl, (o12.trans o3 (ds := [k, mb]) (by simp) (by simp))⟩)
        go_wp2
        go_end0
        exact ⟨rfl, hfin.out.1, hfin.out.2⟩
    · have hno : redoB m c l = m := by rw [redoB_P, if_neg (fun e => h0 (hz0.2 e))]
      have hzz : ¬ ((z : Int) = 0) := by omega
      have hfin := hid (show Kp w2 k x mb ls (ss ++ newBs w w2) m f rs ∧ Only [k, mb] w w2 from ⟨(h.only o12 (by simp)).grow h hl, o12.mono (by simp)⟩)
      clear hz0 hdo h hB hi
      go_wp2
      go_end0
      exact ⟨rfl, by first | (rw [hno.out]; exact hfin.out.1) | (rw [hno]; exact hfin.out.1) | (rw [hno]; exact hfin.1), by first | exact hfin.out.2 | exact hfin.2⟩
end Go.Proofs.Ytnlmeaijnfjakaa.Sh
/- The keyper opened: walked. -/
namespace Go.Proofs.Ytnlmeaijnfjakaa.Sh
set_option linter.unusedSimpArgs false
set_option linter.unusedVariables false
open Go Go.RowKit

theorem Shs.made (w : World) (bs : List Nat) : Shs (w.alloc (.map #[] 0)) bs w.heap.size [] := ⟨[], rfl, by simpa using mp_made Try.prog 35 w, by simp⟩
theorem redoK_cons (m : Km) (c : UInt8) (l : List UInt8) : redoK m (c :: l) = redoB m c l := rfl
theorem foldl_inv (rs : List (List UInt8)) (i : Nat) : KInv ((rs.take i).foldl redoK km0) := open_inv (rs.take i)
theorem foldl_succ (rs : List (List UInt8)) (i : Nat) (h : i < rs.length) : (rs.take (i + 1)).foldl redoK km0 = redoK ((rs.take i).foldl redoK km0) rs[i] := by
  rw [List.take_succ_eq_append_getElem h, List.foldl_append]
  rfl

/-- A fresh keyper. -/
theorem Kp.made {w : World} {k x mb : Nat} {ls : List Nat} {f : List UInt8} {rs : List (List UInt8)} (hlog : Lg w x f [] rs ls) (hls : ∀ i ∈ ls, i < mb) (hmb : mb < k) (hs : Shs w [] mb []) (ht : TyAt w k 77)
    (c0 : w.cell? ⟨k, 0, none⟩ = some (.pointer (some ⟨x, 0, none⟩))) (c1 : w.cell? ⟨k, 1, none⟩ = some (.map (some mb)))
    (c2 : w.cell? ⟨k, 2, none⟩ = some (.slice none 0 0) ∧ w.frozen? ⟨k, 2, none⟩ = false) (c3 : w.cell? ⟨k, 3, none⟩ = some (.int .u64 0) ∧ w.frozen? ⟨k, 3, none⟩ = false) (c4 : w.cell? ⟨k, 4, none⟩ = some (.bool false) ∧ w.frozen? ⟨k, 4, none⟩ = false) :
    Kp w k x mb ls [] km0 f rs :=
  ⟨ht, c0, c1, ⟨_, c2, ⟨⟨rfl, none, 0, rfl, by simp [km0], by simp [maxLen], by simp [km0], .inl rfl⟩, by simp [km0]⟩, by simp [Value.ownBlock]⟩, c3, c4, hlog, hs,
    ⟨fun hm => by have := hls k hm; omega, by simp, fun hm => by have := hls mb hm; omega, by simp, by omega⟩, by simp⟩

theorem OwnBss.away {B : Nat} {w w' : World} {v : Value} {ls : List (List UInt8)} (h : OwnBss B w v ls) {bs : List Nat} (ho : Only bs w w') (hn : ∀ i ∈ bs, i < B) : OwnBss B w' v ls := by
  obtain ⟨vs, h1, h2⟩ := h
  exact ⟨vs, own_only h1 ho (fun k hk hm => by have := (h1.lt k hk).1; have := hn k hm; omega), h2.imp fun _ _ k => ⟨own_only k.1 ho (fun j hj hm => by have := (k.1.lt j hj).1; have := hn j hm; omega), k.2⟩⟩

def KOpenPost (w : World) (z : List UInt8) (e : Ending) (w' : World) : Prop :=
  ∃ k, e = .returned (.pointer (some ⟨k, 0, none⟩)) ∧ KB w' k (allL z).1 (newBs w w') ∧ Only [] w w'

set_option maxRecDepth 20000 in
set_option maxHeartbeats 3200000 in
theorem kopen_any (w : World) (fv lv : Value) (f l : List UInt8) (hf : Bs w fv f) (hl : Bs w lv l) (hlen : f.length + l.length ≤ 500000) :
    Calls Try.prog 11 #[dskV fv lv] w (KOpenPost w (f ++ l)) := by
  obtain ⟨fa, fc, rfl⟩ := bs_form hf
  obtain ⟨la, lc, rfl⟩ := bs_form hl
  obtain ⟨w1, hw1⟩ : ∃ w1, w1 = w.alloc (Obj.cells #[.slice fa f.length fc, .slice la l.length lc] 29) := ⟨_, rfl⟩
  have ho1 : Only [] w w1 := by rw [hw1]; exact (Only.refl [] w).alloc _
  have hop := open_any w1 _ _ f l (hf.kept0 ho1) (hl.kept0 ho1) hlen
  obtain ⟨z, hz⟩ : ∃ z, z = f ++ l := ⟨_, rfl⟩
  have hzl : z.length ≤ 500000 := by rw [hz]; simp; omega
  rw [← hz] at hop ⊢
  clear hz
  obtain ⟨hflat, hrl⟩ := allL_flat _ z (Nat.le_refl _)
  rw [← hflat] at hop
  obtain ⟨hr1, hr2⟩ := allL_le _ z (Nat.le_refl _)
  unfold KOpenPost
  obtain ⟨R, hR⟩ : ∃ R, R = (allL z).1 := ⟨_, rfl⟩
  rw [← hR] at hop hrl hr2 ⊢
  have hRl : R.length ≤ 500000 := by omega
  replace hop := hid hop
  replace hrl := hid hrl
  have hmm := @run_makeMap Try.prog
  clear hR hflat hr1 hr2
  go_enter Try.func11, Try.ntmps11
  go_wp2_with fail
  rw [← hw1]
  clear hw1
  refine hop.out.mono ?_
  rintro e w2 ⟨x, rfl, hL, o2⟩
  have s1 := ho1.size
  have s2 := o2.size
  go_wp2_with fail
  obtain ⟨w3, hw3⟩ : ∃ w3, w3 = (w2.alloc (.map #[] 0)).alloc (Obj.cells #[.pointer (some ⟨x, 0, none⟩), .map (some w2.heap.size), .slice none 0 0, .int .u64 0, .bool false] 77) := ⟨_, rfl⟩
  have o3 : Only [] w2 w3 := by rw [hw3]; exact ((Only.refl [] w2).alloc _).alloc _
  have s3 : w3.heap.size = w2.heap.size + 2 := by rw [hw3]; simp
  rw [← hw3]
  have hK3 : Kp w3 (w2.heap.size + 1) x w2.heap.size (newBs w1 w2) [] km0 (flatL R) R := by
    refine Kp.made (hL.kept0 o3) (fun i hi => (mem_newBs.1 hi).2) (by omega) ?_ ?_ ?_ ?_ ?_ ?_ ?_
    · rw [hw3]; exact (shs_made w2 []).kept0 ((Only.refl [] _).alloc _)
    · rw [hw3]; have := TyAt.new (w2.alloc (.map #[] 0)) #[.pointer (some ⟨x, 0, none⟩), .map (some w2.heap.size), .slice none 0 0, .int .u64 0, .bool false] 77; simpa using this
    · rw [hw3]; simp [go_sem]
    · rw [hw3]; simp [go_sem]
    · rw [hw3]; constructor <;> simp [go_sem]
    · rw [hw3]; constructor <;> simp [go_sem]
    · rw [hw3]; constructor <;> simp [go_sem]
  have hx3 := hK3.c0
  have hrec := hid (lrecords_any w3 x _ [] R _ hK3.log (by omega) (fun r hr => by have := (hrl.out r hr).2; omega))
  clear hop hmm
  go_wp2_with fail
  refine hrec.out.mono ?_
  rintro e w4 ⟨v4, rfl, hO4, o4⟩
  have s4 := o4.size
  obtain ⟨va, vc, rfl, _⟩ := (hO4.bss (by omega)).form
  have hK4 := hK3.kept0 o4
  obtain ⟨k, hk⟩ : ∃ k, k = w2.heap.size + 1 := ⟨_, rfl⟩
  obtain ⟨mb, hmb⟩ : ∃ mb, mb = w2.heap.size := ⟨_, rfl⟩
  rw [← hk, ← hmb] at hK4
  rw [← hk]
  have o34 : Only [] w w4 := ((ho1.trans0 o2).trans0 o3).trans0 o4
  have HK := hid hk
  have HM := hid hmb
  have L1 : k < w3.heap.size := by omega
  have L2 : mb < w3.heap.size := by omega
  have L3 : w.heap.size ≤ k := by omega
  have L4 : w.heap.size ≤ mb := by omega
  have L5 : w.heap.size ≤ w1.heap.size := by omega
  have hLl := hid (fun i (hi : i ∈ newBs w1 w2) => (⟨(mem_newBs.1 hi).1, by have := (mem_newBs.1 hi).2; omega⟩ : w1.heap.size ≤ i ∧ i < w3.heap.size))
  clear hrec hx3 hK3 hw3 hL hk hmb
  obtain ⟨ls, hls⟩ : ∃ ls, ls = newBs w1 w2 := ⟨_, rfl⟩
  rw [← hls] at hK4 hLl
  clear hls
  go_wp2_with fail
  go_loopw [17] (fun i wr => ∃ (n : Nat) (ss : List Nat), n ≤ R.length ∧ i = .int .i64 n ∧ Kp wr k x mb ls ss ((R.take n).foldl redoK km0) (flatL R) R ∧ Hid (∀ j ∈ ss, w.heap.size ≤ j ∧ j < wr.heap.size) ∧ Only [k, mb] w4 wr) (fun i _ => R.length - (intOf i).toNat)
  case atStart => exact ⟨0, [], Nat.zero_le _, rfl, hK4, by simp [Hid], Only.refl _ _⟩
  case round =>
    obtain ⟨n, ss, hn, rfl, hK, hss, ho⟩ := hrel
    have sr := ho.size
    by_cases hlt : n < R.length
    · have hOn := (hO4.away ho (by simp; omega)).bss (by omega)
      obtain ⟨b, o, xv, rfl, c1, hx⟩ := hOn.at n hlt
      have hrn := hrl.out R[n] (List.getElem_mem hlt)
      have hsucc := hid (foldl_succ R n hlt)
      obtain ⟨r, hr⟩ : ∃ r, r = R[n] := ⟨_, rfl⟩
      rw [← hr] at hx hrn hsucc
      clear hr hOn
      obtain ⟨c, l, rfl⟩ : ∃ c l, r = c :: l := by
        cases r with
        | nil => simp at hrn
        | cons c l => exact ⟨c, l, rfl⟩
      obtain ⟨q, p, cap, rfl, _⟩ := hx.form (by simp)
      obtain ⟨q', p', he, hc⟩ := hx.at 0 (by simp)
      simp only [Option.some.injEq, Addr.mk.injEq] at he
      obtain ⟨rfl, rfl, _⟩ := he
      simp only [Nat.add_zero, List.getElem_cons_zero] at hc
      have hql : q < wr.heap.size := World.block_lt_of_cell? wr _ hc
      have hlw : ∀ i ∈ ls, i < wr.heap.size := fun i hi => by have := (hLl.out i hi).2; omega
      have rd := hid (redo_any wr k x mb ls ss _ _ _ hK hlw (foldl_inv R n) q p cap c l hx hql hc)
      obtain ⟨N, hN⟩ : ∃ N, N = (c :: l).length := ⟨_, rfl⟩
      rw [← hN] at rd c1
      obtain ⟨M, hM⟩ : ∃ M, M = (R.take n).foldl redoK km0 := ⟨_, rfl⟩
      rw [← hM] at rd hsucc
      have hkc := hK.c0
      clear hN hM hx hK hc hlw hrn
      go_wp2_with fail
      refine rd.out.mono ?_
      rintro e w5 ⟨rfl, hK5, o5⟩
      have s5 := o5.size
      clear rd
      go_wp2
      go_roundw
      case rel =>
        refine ⟨n + 1, ss ++ newBs wr w5, by omega, by go_num, ?_, fun j hj => ?_, ho.trans o5 (by simp) (by simp)⟩
        · rw [hsucc.out]; exact hK5
        · rcases List.mem_append.1 hj with h | h
          · have := hss.out j h; omega
          · have := mem_newBs.1 h; omega
      case measure => simp [intOf]; omega
    · obtain rfl : n = R.length := by omega
      rw [List.take_length] at hK
      go_wp2
      go_ret
      refine ⟨k, rfl, ⟨x, mb, ls, ss, hK, ⟨mem_newBs.2 ⟨L3, by omega⟩, mem_newBs.2 ⟨L4, by omega⟩, fun i hi => mem_newBs.2 (by have := hLl.out i hi; omega), fun i hi => mem_newBs.2 (hss.out i hi)⟩, fun i hi => (mem_newBs.1 hi).2, hrl.out⟩, o34.trans ho (ds := []) (by simp) (by simp; omega)⟩
end Go.Proofs.Ytnlmeaijnfjakaa.Sh
