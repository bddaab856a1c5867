/- Are lists of bytes alike? Lists, walked. -/
import Derived.Test.YtnlmeaijnfjakaaProg
import Derived.Test.YtnlmeaijnfjakaaBase
import Derived.Test.YtnlmeaijnfjakaaSame
import Derived.Deep.RegionHeld3
namespace Go.Proofs.Ytnlmeaijnfjakaa.Sh
set_option linter.unusedSimpArgs false
set_option linter.unusedVariables false
open Go Go.RowKit

theorem take_ne {α : Type} [DecidableEq α] {l m : List α} {k : Nat} (h1 : k < l.length) (h2 : k < m.length) (h : l[k] ≠ m[k]) : decide (l = m) = false := by
  rw [decide_eq_false_iff_not]
  rintro rfl
  exact h rfl

set_option maxHeartbeats 1600000 in
theorem lists_any (v u : Value) (ls ms : List (List UInt8)) (w : World) (hv : Bss w v ls) (hu : Bss w u ms) :
    Calls Try.prog 26 #[v, u] w fun e w' => e = .returned (.bool (decide (ls = ms))) ∧ Only [] w w' := by
  obtain ⟨a, cap, rfl, h1, h2, h3⟩ := hv.form
  obtain ⟨a', cap', rfl, h1', h2', h3'⟩ := hu.form
  by_cases hlm : ls.length = ms.length
  · have HL := hid hlm
    rw [← hlm]
    have hb : ((ls.length : Int) != (ls.length : Int)) = false := by simp
    clear hlm
    go_enter Try.func26, Try.ntmps26
    go_wp2
    go_loopw [14] (fun i wr => ∃ k : Nat, k ≤ ls.length ∧ i = .int .i64 k ∧ Hid (ls.take k = ms.take k) ∧ Only [] w wr) (fun i _ => ls.length - (intOf i).toNat)
    case atStart => exact ⟨0, Nat.zero_le _, rfl, by simp [Hid], Only.refl _ _⟩
    case round =>
      obtain ⟨k, hk, rfl, ht, ho⟩ := hrel
      by_cases hlt : k < ls.length
      · have hlt' : k < ms.length := by have := HL.out; omega
        obtain ⟨b, o, x, rfl, hd, hxB⟩ := hv.at k hlt
        obtain ⟨b', o', y, rfl, hd', hyB⟩ := hu.at k hlt'
        have hneq := fun h : ls[k] ≠ ms[k] => hid (take_ne hlt hlt' h)
        have hc := ho.cell hd (by simp)
        have hc' := ho.cell hd' (by simp)
        have t1 := hid (List.take_succ_eq_append_getElem hlt)
        have t2 := hid (List.take_succ_eq_append_getElem hlt')
        obtain ⟨l, hl⟩ : ∃ l, l = ls[k] := ⟨_, rfl⟩
        obtain ⟨m, hm⟩ : ∃ m, m = ms[k] := ⟨_, rfl⟩
        rw [← hl] at hxB t1 hneq
        rw [← hm] at hyB t2 hneq
        clear hd hd' hl hm hlt'
        obtain ⟨_, xa, xc, rfl, hx1, hx2, hx3, _⟩ := id hxB
        obtain ⟨_, ya, yc, rfl, hy1, hy2, hy3, _⟩ := id hyB
        have hk0 : (0 : Int) ≤ (k : Int) := by omega
        have hkl : (k : Int) < (ls.length : Int) := by omega
        obtain ⟨wo, rfl⟩ : ∃ wo : World, wo = wr := ⟨_, rfl⟩
        by_cases hlen : l.length = m.length
        · have HLL := hid hlen
          rw [← hlen] at hc'
          have hb2 : ((l.length : Int) != (l.length : Int)) = false := by simp
          clear hlen
          go_wp2_with fail
          go_region_held3 (fun w' => w'.cell? ⟨b, o + k, none⟩ = some (.slice xa l.length xc) ∧ w'.cell? ⟨b', o' + k, none⟩ = some (.slice ya l.length yc)) (exact ⟨hc, hc'⟩) (fail)
          go_wp2
          go_loopw [33] (fun i wr => ∃ j : Nat, j ≤ l.length ∧ i = .int .i64 j ∧ Hid (l.take j = m.take j) ∧ Only [] wo wr) (fun i _ => l.length - (intOf i).toNat)
          case atStart => exact ⟨0, Nat.zero_le _, rfl, by simp [Hid], (Only.refl _ _).drew⟩
          case round =>
            obtain ⟨j, hj, rfl, htj, hoj⟩ := hrel
            have hcj := hoj.cell hc (by simp)
            have hcj' := hoj.cell hc' (by simp)
            by_cases hjl : j < l.length
            · have hjm : j < m.length := by have := HLL.out; omega
              obtain ⟨eb, eo, rfl, hed⟩ := hxB.at j hjl
              obtain ⟨fb, fo, rfl, hfd⟩ := hyB.at j hjm
              have hne2 := fun h : l[j] ≠ m[j] => hneq (fun e => h (by subst e; rfl))
              have hec := (ho.trans0 hoj).cell hed (by simp)
              have hfc := (ho.trans0 hoj).cell hfd (by simp)
              have tj1 := hid (List.take_succ_eq_append_getElem hjl)
              have tj2 := hid (List.take_succ_eq_append_getElem hjm)
              obtain ⟨p, hp⟩ : ∃ p, p = l[j] := ⟨_, rfl⟩
              obtain ⟨q, hq⟩ : ∃ q, q = m[j] := ⟨_, rfl⟩
              rw [← hp] at hec tj1 hne2
              rw [← hq] at hfc tj2 hne2
              have hj0 : (0 : Int) ≤ (j : Int) := by omega
              have hjl' : (j : Int) < (l.length : Int) := by omega
              clear hed hfd hp hq hjm hc hc'
              by_cases hpq : p = q
              · subst hpq
                clear hneq hne2
                go_wp2_with fail
                go_region_held3 (fun w' => w'.cell? ⟨b, o + k, none⟩ = some (.slice (some ⟨eb, eo, none⟩) l.length xc) ∧ w'.cell? ⟨b', o' + k, none⟩ = some (.slice (some ⟨fb, fo, none⟩) l.length yc) ∧ w'.cell? ⟨eb, eo + j, none⟩ = some (vU8 p) ∧ w'.cell? ⟨fb, fo + j, none⟩ = some (vU8 p)) (exact ⟨hcj, hcj', hec, hfc⟩) (fail)
                go_wp2
                go_roundw
                case rel => exact ⟨j + 1, by omega, by go_num, hid (by rw [tj1.out, tj2.out, htj.out]), hoj.drew⟩
                case measure => simp [intOf]; omega
              · have hbne := byte_ne hpq
                have hfin := hne2 hpq
                clear hpq hneq hne2
                go_wp2_with fail
                go_region_held3 (fun w' => w'.cell? ⟨b, o + k, none⟩ = some (.slice (some ⟨eb, eo, none⟩) l.length xc) ∧ w'.cell? ⟨b', o' + k, none⟩ = some (.slice (some ⟨fb, fo, none⟩) l.length yc) ∧ w'.cell? ⟨eb, eo + j, none⟩ = some (vU8 p) ∧ w'.cell? ⟨fb, fo + j, none⟩ = some (vU8 q)) (exact ⟨hcj, hcj', hec, hfc⟩) (fail)
                go_wp2
                go_ret
                exact ⟨by rw [hfin.out]; rfl, (ho.trans0 hoj).drew⟩
            · obtain rfl : j = l.length := by omega
              have hee : l = m := by
                have := htj.out
                rw [List.take_length, List.take_of_length_le (by have := HLL.out; omega)] at this
                exact this
              have hnext := hid (show ls.take (k + 1) = ms.take (k + 1) by rw [t1.out, t2.out, ht.out, hee])
              clear hneq htj hee
              go_wp2
              go_roundw
              case rel => exact ⟨k + 1, by omega, by go_num, hnext, ho.trans0 hoj⟩
              case measure => simp [intOf]; omega
        · have hb2 : ((l.length : Int) != (m.length : Int)) = true := by rw [bne_iff_ne]; omega
          have hfin := hneq (fun e => hlen (by rw [e]))
          clear hneq hlen
          go_wp2_with fail
          go_region_held3 (fun w' => w'.cell? ⟨b, o + k, none⟩ = some (.slice xa l.length xc) ∧ w'.cell? ⟨b', o' + k, none⟩ = some (.slice ya m.length yc)) (exact ⟨hc, hc'⟩) (fail)
          go_wp2
          go_ret
          exact ⟨by rw [hfin.out]; rfl, ho.drew⟩
      · obtain rfl : k = ls.length := by omega
        have hfin := hid (show decide (ls = ms) = true by
          rw [decide_eq_true_eq]
          have := ht.out
          rw [List.take_length, List.take_of_length_le (by have := HL.out; omega)] at this
          exact this)
        go_wp2
        go_ret
        exact ⟨by rw [hfin.out]; rfl, ho⟩
  · have hfin := hid (show decide (ls = ms) = false by
      rw [decide_eq_false_iff_not]
      rintro rfl
      exact hlm rfl)
    have hb : ((ls.length : Int) != (ms.length : Int)) = true := by
      rw [bne_iff_ne]; omega
    clear hlm
    go_enter Try.func26, Try.ntmps26
    go_wp2
    go_ret
    exact ⟨by rw [hfin.out]; rfl, Only.refl _ _⟩
end Go.Proofs.Ytnlmeaijnfjakaa.Sh
