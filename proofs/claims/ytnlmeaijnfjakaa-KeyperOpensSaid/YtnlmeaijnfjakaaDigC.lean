/- The codec's reader: a digest, where too little is left: walked. -/
import Derived.Test.YtnlmeaijnfjakaaDigB
import Derived.RegionDies
namespace Go.Proofs.Ytnlmeaijnfjakaa.Sh
set_option linter.unusedSimpArgs false
set_option linter.unusedVariables false
open Go Go.RowKit

set_option maxRecDepth 20000 in
set_option maxHeartbeats 400000 in
theorem dig_short (rb fb : Nat) (l : List UInt8) (w : World) (h : Rd w rb fb l) (hl : l.length < 32) :
    Calls Try.prog 61 #[.pointer (some ⟨rb, 0, none⟩)] w fun e w' => e = .panicked (ownEnd rb 2) ∧ Rd w' rb fb l ∧ Only [] w w' := by
  go_enter Try.func61, Try.ntmps61
  go_wp2_with (first
    | (refine wpList_alloc_run (by rfl) 35 (by rfl) (alloc_dig _) ?_))
  have hp2 : Only [] w ((w.alloc (Obj.cells Z32 35)).alloc (Obj.cells Z32 35)) := ((Only.refl [] w).alloc _).alloc _
  rw [World.size_alloc]
  obtain ⟨w2, hw2⟩ : ∃ w2, w2 = (w.alloc (Obj.cells Z32 35)).alloc (Obj.cells Z32 35) := ⟨_, rfl⟩
  rw [← hw2] at hp2 ⊢
  clear hw2
  have hrd2 := h.kept0 hp2
  go_region_dies
  refine (take_short rb fb 32 l _ (hrd2.kept0 (Only.refl [] w2).drew) hl (by omega)).mono ?_
  rintro e w3 ⟨rfl, rfl⟩
  exact ⟨rfl, rfl, hrd2.kept0 (Only.refl [] w2).drew, hp2.drew⟩

/-- A digest: the error (0: none), its bytes, what is left. -/
def digL (l : List UInt8) : Nat × List UInt8 × List UInt8 := if l.length < 32 then (2, [], l) else (0, l.take 32, l.drop 32)
def DigPost (rb fb : Nat) (l : List UInt8) (w : World) (e : Ending) (w' : World) : Prop :=
  Only [rb] w w' ∧ (∃ l', Rd w' rb fb l') ∧ ((digL l).1 = 0 ∧ e = .returned (vD (digL l).2.1) ∧ Rd w' rb fb (digL l).2.2 ∨ (digL l).1 ≠ 0 ∧ e = .panicked (ownEnd rb (digL l).1))
theorem dig_any (rb fb : Nat) (l : List UInt8) (w : World) (h : Rd w rb fb l) :
    Calls Try.prog 61 #[.pointer (some ⟨rb, 0, none⟩)] w (DigPost rb fb l w) := by
  by_cases hl : l.length < 32
  · refine (dig_short rb fb l w h hl).mono ?_
    rintro e w' ⟨rfl, hr, ho⟩
    exact ⟨ho.mono (by simp), ⟨_, hr⟩, .inr (by simp [digL, hl])⟩
  · refine (dig_ok rb fb l w h (by omega)).mono ?_
    rintro e w' ⟨rfl, hr, ho⟩
    exact ⟨ho, ⟨_, hr⟩, .inl ⟨by unfold digL; rw [if_neg hl], by unfold digL; rw [if_neg hl], by unfold digL; rw [if_neg hl]; exact hr⟩⟩
end Go.Proofs.Ytnlmeaijnfjakaa.Sh
