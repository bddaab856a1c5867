/- A journal's log: compacted; its records: walked. -/
import Derived.Test.YtnlmeaijnfjakaaJouE
namespace Go.Proofs.Ytnlmeaijnfjakaa.Sh
set_option linter.unusedSimpArgs false
set_option linter.unusedVariables false
open Go Go.RowKit

theorem Lg.rows {w : World} {x : Nat} {f l : List UInt8} {rs : List (List UInt8)} {bs : List Nat} (h : Lg w x f l rs bs) (hr : rs.length ≤ 1000000) :
    ∃ ra rc, w.cell? ⟨x, 2, none⟩ = some (.slice ra rs.length rc) ∧ Bss w (.slice ra rs.length rc) rs := by
  obtain ⟨ht, hx, fv, lv, rv, vs, c0, c1, c2, h1, h2, h3, h4, h5⟩ := h
  obtain ⟨ra, rc, rfl⟩ := own_form h3
  exact ⟨ra, rc, c2.1, vs, Cs.of_own h3 (by omega), h5.imp fun _ _ k => k.1⟩

set_option maxRecDepth 20000 in
set_option maxHeartbeats 1600000 in
theorem lrecords_any (w : World) (x : Nat) (f l : List UInt8) (rs : List (List UInt8)) (bs : List Nat) (h : Lg w x f l rs bs) (hr : rs.length ≤ 1000000) (hb : ∀ r ∈ rs, r.length ≤ 1000000) :
    Calls Try.prog 30 #[.pointer (some ⟨x, 0, none⟩)] w fun e w' => ∃ v', e = .returned v' ∧ OwnBss w.heap.size w' v' rs ∧ Only [] w w' := by
  obtain ⟨ra, rc, q2, hrows⟩ := h.rows hr
  clear h
  have hb' := hid hb
  clear hb
  go_enter Try.func30, Try.ntmps30
  go_wp2_with fail
  go_loopw [3, 13] (fun out i wr => ∃ k : Nat, k ≤ rs.length ∧ i = .int .i64 k ∧ OwnBss w.heap.size wr out (rs.take k) ∧ Only [] w wr) (fun _ i _ => rs.length - (intOf i).toNat)
  case atStart => exact ⟨0, Nat.zero_le _, rfl, ⟨[], World.ownsRow_nil _ _ _ _, .nil⟩, Only.refl _ _⟩
  case round =>
    obtain ⟨k, hk, rfl, hout, ho⟩ := hrel
    by_cases hlt : k < rs.length
    · obtain ⟨b, o, xv, rfl, c1, hx⟩ := (hrows.kept0 ho).at k hlt
      have hrl := hb'.out rs[k] (List.getElem_mem hlt)
      obtain ⟨R, hR⟩ : ∃ R, R = rs[k] := ⟨_, rfl⟩
      have ht : rs.take (k + 1) = rs.take k ++ [R] := by rw [hR, List.take_succ_eq_append_getElem hlt]
      rw [← hR] at hx hrl
      have hcl := hid (clone_any _ R wr hx (by omega))
      obtain ⟨xa, xc, rfl⟩ := bs_form hx
      have HT := hid ht
      obtain ⟨vs, hvs, hels⟩ := hout
      have htl : (rs.take k).length = k := by simp; omega
      rw [htl] at hvs
      have hsz := ho.size
      clear ht hR htl
      go_wp2_with fail
      with_reducible refine hcl.out.mono ?_
      rintro e w2 ⟨v2, rfl, hf2, ho2⟩
      obtain ⟨a2, c2, rfl⟩ := own_form hf2
      have hsz2 := ho2.size
      go_wp2_with (at_builtin; refine wpList_app1 (by rfl) _ _ 39 (by rfl) w.heap.size 27 1 24 el_bss (by rfl) (own_only0 hvs ho2) [_] (by rfl) rfl (one1 rfl) (by omega) (by omega) (by omega) ?_; intro v3 w3 hown3 happ3)
      have ho3 : Only [] w w3 := (ho.trans0 ho2).app happ3 (fun i hi => by
        rcases hvs.2 with ⟨rfl, _⟩ | ⟨g, _, _, rfl, hg, _⟩
        · simp [Value.ownBlock] at hi
        · simp [Value.ownBlock] at hi; omega)
      have hels3 : All2 (fun u x => w3.ownsRow w.heap.size 5 1 u x.length (bytes x) ∧ x.length ≤ 9223372036854775807) (vs ++ [.slice a2 R.length c2]) (rs.take k ++ [R]) := by
        refine All2.snoc (hels.imp ?_) ⟨happ3.other (own_lower hf2 (by omega)) (own_ne hf2 (own_only0 hvs ho2) (by omega)), by omega⟩
        rintro u x ⟨h5, h6⟩
        exact ⟨happ3.other (own_only0 h5 ho2) (own_ne (own_only0 h5 ho2) (own_only0 hvs ho2) (by omega)), h6⟩
      have hout3 : OwnBss w.heap.size w3 v3 (rs.take (k + 1)) := by rw [HT.out]; exact ⟨_, own_cast hown3 (by simp; omega) rfl, hels3⟩
      go_wp2
      go_roundw
      case rel => exact ⟨k + 1, by omega, by go_num, hout3, ho3⟩
      case measure => simp [intOf]; omega
    · obtain rfl : k = rs.length := by omega
      rw [List.take_length] at hout
      go_wp2
      go_ret
      exact ⟨_, rfl, hout, ho⟩
end Go.Proofs.Ytnlmeaijnfjakaa.Sh
