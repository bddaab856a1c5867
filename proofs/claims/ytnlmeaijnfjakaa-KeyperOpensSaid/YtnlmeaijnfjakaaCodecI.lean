/- The document's reader: bytes, text, end: walked. -/
import Derived.Test.YtnlmeaijnfjakaaCodecH
import Derived.Test.YtnlmeaijnfjakaaStepApp
import Derived.StillTailTactics
namespace Go.Proofs.Ytnlmeaijnfjakaa.Sh
set_option linter.unusedSimpArgs false
set_option linter.unusedVariables false
open Go Go.RowKit

theorem Bs.midIf {w : World} {a : Option Addr} {cap : Nat} {l : List UInt8} (h : Bs w (.slice a l.length cap) l) (p n : Nat) (hp : p + n ≤ l.length) :
    Cs 1 w (.slice (if cap = p then a else Option.map (fun x => x.add p) a) (((p : Int) + (n : Int)).toNat - p) (cap - p)) n (bytes ((l.drop p).take n)) := by
  rw [show ((p : Int) + (n : Int)).toNat - p = n by omega]
  have hcap : l.length ≤ cap := by
    obtain ⟨_, _, _, he, h1, _⟩ := h
    simp only [Value.slice.injEq] at he
    obtain ⟨_, _, rfl⟩ := he
    exact h1
  have hmx : cap ≤ maxLen := by
    obtain ⟨_, _, _, he, _, h2, _⟩ := h
    simp only [Value.slice.injEq] at he
    obtain ⟨_, _, rfl⟩ := he
    exact h2
  have hn : ((l.drop p).take n).length = n := by simp; omega
  split
  · rename_i hc
    obtain rfl : n = 0 := by omega
    exact Cs.cast (Bs.empty (w := w) (a := a) (cap := cap - p) (by omega)) rfl (by simp)
  · have h1 := h.tailO p (by omega)
    have h2 : Bs w (.slice (Option.map (fun x => x.add p) a) (l.drop p).length (cap - p)) (l.drop p) := by
      rw [List.length_drop]; exact h1
    exact Cs.cast (h2.pre n (by simp; omega)) hn rfl

theorem refBytes_err (wb fb n : Nat) (l : List UInt8) (p c : Nat) (w : World) (h : Rf w wb fb l p c) (hc : c ≠ 0) :
    Calls Try.prog 78 #[.pointer (some ⟨wb, 0, none⟩), .int .i64 n] w fun e w' => e = .returned (.slice none 0 0) ∧ w' = w := by
  have hc2 := h.fE
  have hne : ((c : Int) != 0) = true := by rw [bne_iff_ne]; omega
  clear hc
  go_enter Try.func78, Try.ntmps78
  go_wp2
  go_ret
  exact ⟨rfl, rfl⟩

set_option maxHeartbeats 800000 in
theorem refBytes_short (wb fb n : Nat) (l : List UInt8) (p : Nat) (w : World) (h : Rf w wb fb l p 0) (hn : l.length - p < n) (hl : l.length ≤ 1000000) (hn2 : n ≤ 1000000) :
    Calls Try.prog 78 #[.pointer (some ⟨wb, 0, none⟩), .int .i64 n] w fun e w' => e = .returned (.slice none 0 0) ∧ Rf w' wb fb l p 2 ∧ Only [wb] w w' := by
  have hc2 := h.fE
  have hc1 := h.fP
  have hle := h.le
  obtain ⟨hz0, hz1, hz2⟩ := h.soft
  obtain ⟨v, hc0, hB, _⟩ := h.fB
  obtain ⟨_, a, cap, rfl, h1, h2, h3, _⟩ := id hB
  have hwr1 : IntKind.i64.wrap ((l.length : Int) - (p : Int)) = (l.length : Int) - (p : Int) := IntWalk.i64_in _ (by omega)
  have hsub : (l.length : Int) - (p : Int) < (n : Int) := by omega
  have hpost : Hid (Rf (w.drew.setCell ⟨wb, 2, none⟩ (.int .i64 2)) wb fb l p 2 ∧ Only [wb] w (w.drew.setCell ⟨wb, 2, none⟩ (.int .i64 2))) := ⟨(h.kept0 (Only.refl [] w).drew).setE 2, (Only.refl [wb] w).drew.setCell (.inl (by simp)) _⟩
  go_enter Try.func78, Try.ntmps78
  go_wp2_with fail
  go_region_held3 (fun w' => w'.cell? ⟨wb, 1, none⟩ = some (.int .i64 p) ∧ w'.cell? ⟨wb, 0, none⟩ = some (.slice a l.length cap)) (exact ⟨hc1, hc0⟩) (fail)
  go_wp2
  go_ret
  exact ⟨rfl, hpost⟩

set_option maxHeartbeats 1600000 in
theorem refBytes_ok (wb fb n : Nat) (l : List UInt8) (p : Nat) (w : World) (h : Rf w wb fb l p 0) (hn : n ≤ l.length - p) (hl : l.length ≤ 1000000) :
    Calls Try.prog 78 #[.pointer (some ⟨wb, 0, none⟩), .int .i64 n] w fun e w' => ∃ v', e = .returned v' ∧ Fresh w w' v' ((l.drop p).take n) ∧ Rf w' wb fb l (p + n) 0 ∧ Only [wb] w w' := by
  have hc2 := h.fE
  have hc1 := h.fP
  have hle := h.le
  obtain ⟨hz0, hz1, hz2⟩ := h.soft
  obtain ⟨v, hc0, hB, hfb⟩ := h.fB
  obtain ⟨_, a, cap, rfl, h1, h2, h3, _⟩ := id hB
  have hwr1 : IntKind.i64.wrap ((l.length : Int) - (p : Int)) = (l.length : Int) - (p : Int) := IntWalk.i64_in _ (by omega)
  have hsub : ¬ (l.length : Int) - (p : Int) < (n : Int) := by omega
  have hp0 : (0 : Int) ≤ (p : Int) := by omega
  have hp1 : (p : Int) ≤ (p : Int) + (n : Int) := by omega
  have hp2 : (p : Int) + (n : Int) ≤ (cap : Int) := by omega
  have hwr : IntKind.i64.wrap ((p : Int) + (n : Int)) = (p : Int) + (n : Int) := IntWalk.i64_in _ (by omega)
  have hcs := hB.midIf p n (by omega)
  have hml : ((l.drop p).take n).length = n := by simp; omega
  have HML := hid hml
  clear hml
  go_enter Try.func78, Try.ntmps78
  go_wp2_with fail
  go_region_held3 (fun w' => w'.cell? ⟨wb, 1, none⟩ = some (.int .i64 p) ∧ w'.cell? ⟨wb, 0, none⟩ = some (.slice a l.length cap)) (exact ⟨hc1, hc0⟩) (fail)
  go_wp2_with fail
  go_region_held3 (fun w' => w'.cell? ⟨wb, 1, none⟩ = some (.int .i64 p) ∧ w'.cell? ⟨wb, 0, none⟩ = some (.slice a l.length cap)) (first | go_keep | exact ⟨ho2.cell hc1 (by simp), ho2.cell hc0 (by simp)⟩) ((refine step_app (by rfl) _ _ 27 (by rfl) w.heap.size 5 1 1 el_u8 (by rfl) (ownsRow_drew (ownsRow_drew (own_built w [] 5 1 0 rfl (by omega)))) (by rfl) (hcs.kept0 (((Only.refl [] w).alloc _).drew.drew)) (bytes_one _) (by omega) (by omega) (by simp) ?_; intro v2 w2 hown2 happ2; have ho2 : Only [] w w2 := (((Only.refl [] w).alloc _).drew.drew).app happ2 (by intro i hi; simp [Value.ownBlock] at hi; exact .inr (by omega))))
  have hr2 := h.kept0 ho2
  have hc1' := hr2.fP
  have hz1' := hr2.soft.2.1
  have hpost : Hid (Rf (w2.setCell ⟨wb, 1, none⟩ (.int .i64 ((p : Int) + (n : Int)))) wb fb l (p + n) 0 ∧ Only [wb] w (w2.setCell ⟨wb, 1, none⟩ (.int .i64 ((p : Int) + (n : Int))))) := ⟨by
    have := hr2.setP (p + n) (by omega)
    rwa [show (((p + n : Nat) : Int)) = (p : Int) + (n : Int) by omega] at this, (ho2.mono (by simp)).setCell (.inl (by simp)) _⟩
  have hlt := h.lt
  have hf : w2.ownsRow w.heap.size 5 1 v2 ((l.drop p).take n).length (bytes ((l.drop p).take n)) := own_cast hown2 (by rw [HML.out]; omega) (by simp)
  have hfin : Hid ((w2.setCell ⟨wb, 1, none⟩ (.int .i64 ((p : Int) + (n : Int)))).ownsRow w.heap.size 5 1 v2 ((l.drop p).take n).length (bytes ((l.drop p).take n))) := own_only hf ((Only.refl [wb] w2).setCell (p := ⟨wb, 1, none⟩) (.inl (by simp)) _) (fun k hk => by
    have h9 := (hf.lt k hk).1
    simp only [List.mem_singleton]
    omega)
  clear hcs hf HML hown2 happ2
  go_wp2
  all_goals
    go_ret
    exact ⟨_, rfl, hfin, hpost⟩
end Go.Proofs.Ytnlmeaijnfjakaa.Sh
