/- Are bytes alike? Same, walked. -/
import Derived.Test.YtnlmeaijnfjakaaProg
import Derived.Test.YtnlmeaijnfjakaaBase
import Derived.Deep.RegionHeld3
namespace Go.Proofs.Ytnlmeaijnfjakaa.Sh
set_option linter.unusedSimpArgs false
set_option linter.unusedVariables false
open Go Go.RowKit

theorem byte_ne {x y : UInt8} (h : x ≠ y) : ((x.toNat : Int) != (y.toNat : Int)) = true := by
  rw [bne_iff_ne]
  intro he
  exact h (UInt8.toNat_inj.1 (by omega))

set_option maxHeartbeats 800000 in
theorem same_any (v u : Value) (l m : List UInt8) (w : World) (hv : Bs w v l) (hu : Bs w u m) :
    Calls Try.prog 25 #[v, u] w fun e w' => e = .returned (.bool (decide (l = m))) ∧ Only [] w w' := by
  obtain ⟨_, a, cap, rfl, h1, h2, h3, _⟩ := id hv
  obtain ⟨_, a', cap', rfl, h1', h2', h3', _⟩ := id hu
  by_cases hlm : l.length = m.length
  · have HL := hid hlm
    rw [← hlm]
    have hb : ((l.length : Int) != (l.length : Int)) = false := by simp
    clear hlm
    go_enter Try.func25, Try.ntmps25
    go_wp2
    go_loopw [13] (fun i wr => ∃ k : Nat, k ≤ l.length ∧ i = .int .i64 k ∧ Hid (l.take k = m.take k) ∧ Only [] w wr) (fun i _ => l.length - (intOf i).toNat)
    case atStart => exact ⟨0, Nat.zero_le _, rfl, by simp [Hid], Only.refl _ _⟩
    case round =>
      obtain ⟨k, hk, rfl, ht, ho⟩ := hrel
      by_cases hlt : k < l.length
      · have hlt' : k < m.length := by have := HL.out; omega
        obtain ⟨b, o, rfl, hd⟩ := hv.at k hlt
        obtain ⟨b', o', rfl, hd'⟩ := hu.at k hlt'
        have hc := ho.cell hd (by simp)
        have hc' := ho.cell hd' (by simp)
        clear hd hd'
        have t1 := hid (List.take_succ_eq_append_getElem hlt)
        have t2 := hid (List.take_succ_eq_append_getElem hlt')
        obtain ⟨x, hx⟩ : ∃ x, x = l[k] := ⟨_, rfl⟩
        obtain ⟨y, hy⟩ : ∃ y, y = m[k] := ⟨_, rfl⟩
        rw [← hx] at hc t1
        rw [← hy] at hc' t2
        have hk0 : (0 : Int) ≤ (k : Int) := by omega
        have hkl : (k : Int) < (l.length : Int) := by omega
        clear hx hy hlt'
        by_cases hxy : x = y
        · subst hxy
          go_wp2_with fail
          go_region_held3 (fun w' => w'.cell? ⟨b, o + k, none⟩ = some (vU8 x) ∧ w'.cell? ⟨b', o' + k, none⟩ = some (vU8 x)) (exact ⟨hc, hc'⟩) (fail)
          go_wp2
          go_roundw
          case rel => exact ⟨k + 1, by omega, by go_num, hid (by rw [t1.out, t2.out, ht.out]), ho.drew⟩
          case measure => simp [intOf]; omega
        · have hne := byte_ne hxy
          have hfin := hid (show decide (l = m) = false by
            rw [decide_eq_false_iff_not]
            rintro rfl
            apply hxy
            have := t1.out.symm.trans t2.out
            simpa using this)
          clear hxy
          go_wp2_with fail
          go_region_held3 (fun w' => w'.cell? ⟨b, o + k, none⟩ = some (vU8 x) ∧ w'.cell? ⟨b', o' + k, none⟩ = some (vU8 y)) (exact ⟨hc, hc'⟩) (fail)
          go_wp2
          go_ret
          exact ⟨by rw [hfin.out]; rfl, ho.drew⟩
      · obtain rfl : k = l.length := by omega
        have hfin := hid (show decide (l = m) = true by
          rw [decide_eq_true_eq]
          have := ht.out
          rw [List.take_length, List.take_of_length_le (by have := HL.out; omega)] at this
          exact this)
        go_wp2
        go_ret
        exact ⟨by rw [hfin.out]; rfl, ho⟩
  · have hfin := hid (show decide (l = m) = false by
      rw [decide_eq_false_iff_not]
      rintro rfl
      exact hlm rfl)
    have hb : ((l.length : Int) != (m.length : Int)) = true := by
      rw [bne_iff_ne]; omega
    clear hlm
    go_enter Try.func25, Try.ntmps25
    go_wp2
    go_ret
    exact ⟨by rw [hfin.out]; rfl, Only.refl _ _⟩
end Go.Proofs.Ytnlmeaijnfjakaa.Sh
