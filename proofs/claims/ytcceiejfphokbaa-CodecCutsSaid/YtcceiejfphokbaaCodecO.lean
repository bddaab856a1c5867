/- Layer 8: steps, laid; what was laid is read: walked. -/
import Derived.Test.YtcceiejfphokbaaCodecM
import Derived.Test.YtcceiejfphokbaaCodecN
namespace Go.Proofs.Ytcceiejfphokbaa.Sh
open Go Go.RowKit

theorem number_ok (rb fb most n : Nat) (l r : List UInt8) (w : World) (h : Rd w rb fb l) (hm : most < 18446744073709551616) (he : numL most l = (0, n, r)) :
    Calls Try.prog 32 #[.pointer (some ⟨rb, 0, none⟩), .int .u64 most] w fun e w' => e = .returned (.int .u64 n) ∧ Rd w' rb fb r ∧ Only [rb] w w' := by
  refine (number_any rb fb most l w h hm).mono ?_
  rintro e w' ⟨ho, _, hc⟩
  rw [he] at hc
  rcases hc with ⟨_, h1, h2⟩ | ⟨h, _⟩
  · exact ⟨h1, h2, ho⟩
  · exact absurd rfl h
theorem text_ok (rb fb most : Nat) (l s r : List UInt8) (w : World) (h : Rd w rb fb l) (hm : most ≤ 10000) (he : textL most l = (0, s, r)) :
    Calls Try.prog 34 #[.pointer (some ⟨rb, 0, none⟩), .int .i64 most] w fun e w' => (∃ v', e = .returned v' ∧ Fresh w w' v' s) ∧ Rd w' rb fb r ∧ Only [rb] w w' := by
  refine (text_any rb fb most l w h hm).mono ?_
  rintro e w' ⟨ho, _, hc⟩
  rw [he] at hc
  rcases hc with ⟨_, h1, h2⟩ | ⟨h, _⟩
  · exact ⟨h1, h2, ho⟩
  · exact absurd rfl h
theorem digest_ok (rb fb : Nat) (l d r : List UInt8) (w : World) (h : Rd w rb fb l) (he : digL l = (0, d, r)) :
    Calls Try.prog 37 #[.pointer (some ⟨rb, 0, none⟩)] w fun e w' => e = .returned (.agg (bytes d).toArray) ∧ Rd w' rb fb r ∧ Only [rb] w w' := by
  refine (dig_any rb fb l w h).mono ?_
  rintro e w' ⟨ho, _, hc⟩
  rw [he] at hc
  rcases hc with ⟨_, h1, h2⟩ | ⟨h, _⟩
  · exact ⟨h1, h2, ho⟩
  · exact absurd rfl h

theorem textB_length (s : List UInt8) (h : s.length ≤ 500000) : (textB s).length ≤ s.length + 10 := by
  have := numB_length 10 s.length (by omega) (by omega)
  simp [textB]; omega
theorem layS_length (s : Stp) (hs : s.ok) (h : s.s.length ≤ 60) : (layS s).length ≤ 70 := by
  obtain ⟨_, _, h3⟩ := hs
  unfold layS
  split
  · have := numB_length 10 s.n (by omega) (by omega); omega
  · split
    · have := textB_length s.s (by omega); omega
    · split
      · have := padL_length s.s; omega
      · simp
theorem layL_length (l : List Stp) (hs : ∀ s ∈ l, s.ok ∧ s.s.length ≤ 60) : (layL l).length ≤ 70 * l.length := by
  induction l with
  | nil => simp [layL]
  | cons s r ih =>
    have h1 := hs s (by simp)
    have h2 := layS_length s h1.1 h1.2
    have h3 := ih (fun x hx => hs x (by simp [hx]))
    simp [layL]; omega
theorem layL_take (l : List Stp) (k : Nat) (hk : k < l.length) : layL (l.take (k + 1)) = layL (l.take k) ++ layS l[k] := by
  rw [List.take_succ_eq_append_getElem hk, layL_append]
  simp [layL]
theorem layL_drop (l : List Stp) (k : Nat) (hk : k < l.length) : layL (l.drop k) = layS l[k] ++ layL (l.drop (k + 1)) := by
  rw [List.drop_eq_getElem_cons hk]
  rfl
theorem few_ok {w : World} {v : Value} {l : List Stp} (hS : Steps w v l) (h : fewL l = true) : (∀ s ∈ l, s.ok ∧ s.s.length ≤ 60) ∧ l.length ≤ 30 := by
  obtain ⟨_, _, _, _, _, _, hok, _⟩ := hS
  unfold fewL at h
  simp only [Bool.and_eq_true, List.all_eq_true, decide_eq_true_eq] at h
  exact ⟨fun s hs => ⟨hok s hs, h.1 s hs⟩, h.2⟩

set_option maxRecDepth 20000 in
set_option maxHeartbeats 3200000 in
theorem lay_any (v : Value) (l : List Stp) (w : World) (hS : Steps w v l) (hf : fewL l = true) :
    Calls Try.prog 43 #[v] w fun e w' => ∃ v', e = .returned v' ∧ Ob w.heap.size w' v' (layL l) ∧ Only [] w w' := by
  obtain ⟨hok, h30⟩ := few_ok hS hf
  obtain ⟨a, cap, rfl, h1, h2, h3⟩ := hS.form
  go_enter Try.func43, Try.ntmps43
  go_wp2_with fail
  go_loopw [3, 7] (fun b i wr => ∃ k : Nat, k ≤ l.length ∧ i = .int .i64 k ∧ Hid ((layL (l.take k)).length ≤ 70 * k) ∧ Ob w.heap.size wr b (layL (l.take k)) ∧ Only [] w wr) (fun _ i _ => l.length - (intOf i).toNat)
  case atStart => exact ⟨0, Nat.zero_le _, rfl, hid (by simp [layL]), World.ownsRow_nil _ _ _ _, Only.refl _ _⟩
  case round =>
    obtain ⟨k, hk, rfl, hlen, hown, ho⟩ := hrel
    obtain ⟨ba, bc, rfl⟩ := own_form hown
    have hsz := ho.size
    by_cases hlt : k < l.length
    · obtain ⟨sb, so, sx, rfl, c1, c2, c3, hB⟩ := (hS.kept0 ho).at k hlt
      obtain ⟨sb', so', sx', he', _, _, c3', hB'⟩ := hS.at k hlt
      simp only [Option.some.injEq, Addr.mk.injEq, and_true] at he'
      obtain ⟨rfl, rfl⟩ := he'
      have hxe : sx = sx' := by
        have := ho.cell c3' (by simp)
        rw [c3] at this
        exact Option.some.inj this
      subst hxe
      have hold := hid hB'.old
      obtain ⟨s, hs⟩ : ∃ s, s = l[k] := ⟨_, rfl⟩
      have hsok := hok s (by rw [hs]; exact List.getElem_mem hlt)
      have hsn := hsok.1.2.2
      have hs60 := hsok.2
      have hlayk := layL_take l k hlt
      have hsl := layS_length s hsok.1 hsok.2
      rw [← hs] at c1 c2 hB hold hlayk
      obtain ⟨ys, hys⟩ : ∃ ys, ys = layL (l.take k) := ⟨_, rfl⟩
      have hyl : ys.length ≤ 70 * k := by rw [hys]; exact hlen.out
      rw [← hys] at hown hlayk ⊢
      have hne : ∀ x, sx.ownBlock = some x → s.s = [] ∨ (Value.slice ba ys.length bc).ownBlock ≠ some x := by
        intro x hx
        rcases hold.out x hx with h | h
        · exact .inl h
        · refine .inr (fun hb => ?_)
          have := (hown.lt x hb).1
          omega
      have hfin : ∀ (w' : World) (b' : Value) (zs : List UInt8), layS s = zs → Ob w.heap.size w' b' (ys ++ zs) → Only [] w w' → ∃ k' : Nat, k' ≤ l.length ∧ Value.int .i64 ((k : Int) + 1) = .int .i64 k' ∧ Hid ((layL (l.take k')).length ≤ 70 * k') ∧ Ob w.heap.size w' b' (layL (l.take k')) ∧ Only [] w w' := by
        intro w' b' zs hz h5 h6
        subst hz
        refine ⟨k + 1, by omega, by go_num, hid ?_, by rw [hlayk]; exact h5, h6⟩
        rw [hlayk]
        simp; omega
      have hgrow : ∀ (w' : World) (b' : Value), App wr w' (Value.slice ba ys.length bc) b' → Only [] w w' := fun w' b' happ => ho.app happ (fun i hi => .inr (hown.lt i hi).1)
      replace hfin := hid hfin
      replace hgrow := hid hgrow
      replace hne := hid hne
      obtain ⟨_, xa, xc, rfl, _, _, _, _⟩ := id hB
      clear hs hys hlayk hlen hold hB' c3' hok
      by_cases k1 : s.kind = 1
      · have hz : Hid (layS s = numB s.n) := by show _ = _; unfold layS; rw [if_pos k1]
        go_wp2_with fail
        refine (putNum_any _ ys s.n w.heap.size wr hown (by omega) hsn hsz).mono ?_
        rintro e w1 ⟨v1, rfl, hown1, happ1⟩
        go_wp2_with fail
        go_roundw
        case rel => exact hfin.out _ _ _ hz.out hown1 (hgrow.out _ _ happ1)
        case measure => simp [intOf]; omega
      · have b1 : (s.kind == 1) = false := by simpa using k1
        by_cases k2 : s.kind = 2
        · have hz : Hid (layS s = textB s.s) := by show _ = _; unfold layS; rw [if_neg k1, if_pos k2]
          clear k1 b1
          go_wp2_with fail
          refine (putText_any _ _ ys s.s w.heap.size wr hown (by omega) (by omega) hsz hB hne.out).mono ?_
          rintro e w1 ⟨v1, rfl, hown1, happ1⟩
          go_wp2_with fail
          go_roundw
          case rel => exact hfin.out _ _ _ hz.out hown1 (hgrow.out _ _ happ1)
          case measure => simp [intOf]; omega
        · by_cases k3 : s.kind = 3
          · have hz : Hid (layS s = padL s.s) := by show _ = _; unfold layS; rw [if_neg k1, if_neg k2, if_pos k3]
            clear k1 b1 k2
            go_wp2_with fail
            refine (digest_any _ s.s wr hB (by omega)).mono ?_
            rintro e w1 ⟨rfl, ho1⟩
            have hs1 := ho1.size
            go_wp2_with fail
            refine (putDig_any _ ys (padL s.s) w.heap.size w1 (own_only0 hown ho1) (by omega) (padL_length _) (by omega)).mono ?_
            rintro e w2 ⟨v2, rfl, hown2, happ2⟩
            go_wp2_with fail
            go_roundw
            case rel => exact hfin.out _ _ _ hz.out hown2 (hgrow.out _ _ (App.only ho1 happ2))
            case measure => simp [intOf]; omega
          · have hz : Hid (layS s = []) := by show _ = _; unfold layS; rw [if_neg k1, if_neg k2, if_neg k3]
            have b2 : (s.kind == 2) = false := by simpa using k2
            have b3 : (s.kind == 3) = false := by simpa using k3
            clear k1 k2 k3
            go_wp2_with fail
            go_roundw
            case rel => exact hfin.out _ _ _ hz.out (own_cast hown (by simp) (by simp)) ho
            case measure => simp [intOf]; omega
    · obtain rfl : k = l.length := by omega
      rw [List.take_length] at hown ⊢
      go_wp2
      go_ret
      exact ⟨_, rfl, hown, ho⟩
end Go.Proofs.Ytcceiejfphokbaa.Sh
