/- Layer 8: things as bytes: texts, digests, the document's; steps, laid: walked. -/
import Derived.Test.YtnlmeaijnfjakaaDigB
import Derived.Test.YtnlmeaijnfjakaaCodecU
import Derived.Test.YtnlmeaijnfjakaaKeep
namespace Go.Proofs.Ytnlmeaijnfjakaa.Sh
set_option linter.unusedSimpArgs false
set_option linter.unusedVariables false
open Go Go.RowKit
theorem cs_dig {w : World} {g : Nat} {d : List UInt8} (h : w.rangeAt g 0 (bytes d)) (hd : d.length = 32) : Bs w (.slice (some ⟨g, 0, none⟩) 32 32) d :=
  ⟨by simp [bytes], some ⟨g, 0, none⟩, 32, by rw [hd], by omega, by unfold maxLen; omega, by omega, .inr ⟨g, 0, rfl, h⟩⟩

set_option maxHeartbeats 400000 in
theorem putDig_any (v : Value) (xs d : List UInt8) (B : Nat) (w : World) (hown : Ob B w v xs) (hx : xs.length ≤ 500000) (hd : d.length = 32) (hB : B ≤ w.heap.size) :
    Calls Try.prog 35 #[v, vD d] w fun e w' => ∃ v', e = .returned v' ∧ Ob B w' v' (xs ++ d) ∧ App w w' v v' := by
  obtain ⟨a, c, rfl⟩ := own_form hown
  have hda := cs_dig (w := w.alloc (.cells (bytes d).toArray 35)) (g := w.heap.size) (d := d) (by
    intro j u hu
    rw [Nat.zero_add, World.cell?_alloc_new]
    simpa using hu) hd
  have hoa : Only [] w (w.alloc (.cells (bytes d).toArray 35)) := (Only.refl [] w).alloc _
  have howna := own_only0 hown hoa
  have HD := hid hd
  have hdl : d.length ≤ 32 := by omega
  unfold vD
  clear hd
  go_enter Try.func35, Try.ntmps35
  go_wp2_with (at_builtin; refine wpList_app (by rfl) _ _ 27 (by rfl) B 5 1 1 el_u8 (by rfl) howna (by rfl) hda (bytes_one _) (by omega) (by omega) (by simp; omega) ?_; intro v2 w2 hown2 happ2)
  go_ret
  exact ⟨_, rfl, Ob.app hown2, App.only hoa happ2⟩
end Go.Proofs.Ytnlmeaijnfjakaa.Sh
