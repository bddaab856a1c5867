/- CodecAgain's function that reads: walked. -/
import Derived.Test.YtcceiejfphokbaaCodecQ
namespace Go.Proofs.Ytcceiejfphokbaa.Sh
open Go Go.RowKit

theorem again_num (b : List UInt8) (p : Nat) (hp : p ≤ b.length) (h : (numL 18446744073709551615 (b.drop p)).1 = 0) : ∃ n k, numL 18446744073709551615 (b.drop p) = (0, n, b.drop (p + k)) ∧ p + k ≤ b.length ∧ n < 18446744073709551616 ∧ b.take (p + k) = b.take p ++ numB n := by
  have hi := numL_inv _ _ h
  have hm := numL_most _ _ h
  obtain ⟨n, hn⟩ : ∃ n, n = (numL 18446744073709551615 (b.drop p)).2.1 := ⟨_, rfl⟩
  obtain ⟨r, hr⟩ : ∃ r, r = (numL 18446744073709551615 (b.drop p)).2.2 := ⟨_, rfl⟩
  rw [← hn, ← hr] at hi
  have hl := congrArg List.length hi
  simp at hl
  have e1 : b.drop (p + (numB n).length) = r := by rw [← List.drop_drop, hi]; simp
  refine ⟨n, (numB n).length, Prod.ext h (Prod.ext hn.symm (by rw [e1]; exact hr.symm)), by omega, by omega, ?_⟩
  rw [List.take_add, hi]
  simp
theorem again_text (b : List UInt8) (p : Nat) (hp : p ≤ b.length) (h : (textL 5000 (b.drop p)).1 = 0) : ∃ s k, textL 5000 (b.drop p) = (0, s, b.drop (p + k)) ∧ p + k ≤ b.length ∧ s.length ≤ b.length ∧ b.take (p + k) = b.take p ++ textB s := by
  have hi := textL_inv _ _ h
  obtain ⟨s, hs⟩ : ∃ s, s = (textL 5000 (b.drop p)).2.1 := ⟨_, rfl⟩
  obtain ⟨r, hr⟩ : ∃ r, r = (textL 5000 (b.drop p)).2.2 := ⟨_, rfl⟩
  rw [← hs, ← hr] at hi
  have hl := congrArg List.length hi
  simp at hl
  have hsl : s.length ≤ (textB s).length := by simp [textB]
  have e1 : b.drop (p + (textB s).length) = r := by rw [← List.drop_drop, hi]; simp
  refine ⟨s, (textB s).length, Prod.ext h (Prod.ext hs.symm (by rw [e1]; exact hr.symm)), by omega, by omega, ?_⟩
  rw [List.take_add, hi]
  simp
theorem again_dig (b : List UInt8) (p : Nat) (hp : p ≤ b.length) (h : (digL (b.drop p)).1 = 0) : ∃ d, digL (b.drop p) = (0, d, b.drop (p + 32)) ∧ p + 32 ≤ b.length ∧ d.length = 32 ∧ b.take (p + 32) = b.take p ++ d := by
  obtain ⟨h1, h2, h3⟩ := digL_len _ h
  have h4 : 32 ≤ b.length - p := by simpa using h3
  refine ⟨(b.drop p).take 32, by rw [h2, List.drop_drop], by omega, by simp; omega, by rw [List.take_add]⟩

set_option maxRecDepth 20000 in
set_option maxHeartbeats 6400000 in
theorem again_by (w0 wS : World) (lb gb rb fb : Nat) (v : Value) (steps : List Stp) (b : List UInt8) (hS : Steps w0 v steps) (hbl : b.length ≤ 400) (h0 : RA w0 wS wS lb gb rb fb v b 0 (.slice none 0 0)) :
    Calls Try.prog 47 #[.pointer (some ⟨rb, 0, none⟩), .pointer (some ⟨lb, 0, none⟩), .pointer (some ⟨gb, 0, none⟩)] wS (AgainPost w0 wS lb gb rb fb v b) := by
  obtain ⟨a, cap, rfl, h1, h2, h3⟩ := hS.form
  have hlist := h0.list
  go_enter Try.func47, Try.ntmps47
  go_wp2_with fail
  go_loopw [7] (fun i wr => ∃ (k p : Nat) (g : Value), k ≤ steps.length ∧ i = .int .i64 k ∧ RA w0 wS wr lb gb rb fb (.slice a steps.length cap) b p g) (fun i _ => steps.length - (intOf i).toNat)
  case atStart => exact ⟨0, 0, _, Nat.zero_le _, rfl, h0⟩
  case round =>
    obtain ⟨k, p, g, hk, rfl, hR⟩ := hrel
    have hlist' := hR.list
    obtain ⟨hgc, hgz⟩ := hR.again
    obtain ⟨ga, gc, rfl⟩ := own_form hR.own
    by_cases hlt : k < steps.length
    · obtain ⟨sb, so, sx, rfl, c1, c2, c3, hB⟩ := (hS.kept0 hR.only).at k hlt
      obtain ⟨s, hs⟩ : ∃ s, s = steps[k] := ⟨_, rfl⟩
      rw [← hs] at c1 c2 hB
      obtain ⟨_, xa, xc, rfl, _, _, _, _⟩ := id hB
      have hod : Only [] wr wr.drew := (Only.refl [] wr).drew
      have hRd := hR.keep0 hod
      obtain ⟨hgd, hgdz⟩ := hRd.again
      have hne := hR.ne
      have hown := hR.own
      have hple := hR.le
      have hlen : (b.take p).length ≤ 400 := by simp; omega
      have hfin : ∀ w' q g', RA w0 wS w' lb gb rb fb (.slice (some ⟨sb, so, none⟩) steps.length cap) b q g' → ∃ (k' p' : Nat) (g'' : Value), k' ≤ steps.length ∧ Value.int .i64 ((k : Int) + 1) = .int .i64 k' ∧ RA w0 wS w' lb gb rb fb (.slice (some ⟨sb, so, none⟩) steps.length cap) b p' g'' := fun w' q g' h => ⟨k + 1, q, g', by omega, by go_num, h⟩
      have hend : ∀ w' l' c, Only [rb] wr w' → Rd w' rb fb l' → c ≠ 0 → AgainPost w0 wS lb gb rb fb (.slice (some ⟨sb, so, none⟩) steps.length cap) b (.panicked (ownEnd rb c)) w' := by
        intro w' l' c hp hr hc
        exact ⟨hR.only.trans hp (by simp) (by have := hR.new; simp; omega), hR.o.trans hp (by simp) (by simp), .inr ⟨c, l', hc, rfl, hr⟩⟩
      obtain ⟨ys, hys⟩ : ∃ ys, ys = b.take p := ⟨_, rfl⟩
      rw [← hys] at hown hlen hgc hgd hR hRd
      replace hfin := hid hfin
      replace hend := hid hend
      have hyt := hid hys
      clear hs hlist h0 hys
      by_cases k1 : s.kind = 1
      · by_cases hz : (numL 18446744073709551615 (b.drop p)).1 = 0
        · obtain ⟨n, m, he, hm, hn, ht⟩ := again_num b p hple hz
          have hcall := hid (number_ok rb fb 18446744073709551615 n _ _ wr.drew hRd.r (by omega) he)
          rw [← hyt.out] at ht
          have hownd := ownsRow_drew hown
          have hszS := hR.o.size
          have HR := hid hRd
          replace ht := hid ht
          clear he
          go_wp2_with fail
          go_region_with (first
            | (go_at_call 32; refine hcall.out.mono ?_; rintro e w1 ⟨rfl, hr1, hp1⟩; have hg1 := hp1.cell hgd (by simp; omega); have hown1 := own_only hownd hp1 (by intro k hk; have := (hown.lt k hk).1; have := hR.lt; simp; omega); have hs1 := hp1.size)
            | (go_at_call 48; refine (putNum_any _ ys n wS.heap.size w1 hown1 (by omega) hn (by simp at hs1; omega)).mono ?_; rintro e w2 ⟨v2, rfl, hown2, happ2⟩; obtain ⟨a2, c2, rfl⟩ := own_form hown2; obtain ⟨g2, z2, hRn⟩ := HR.out.step hm hp1 hr1 happ2 (by rw [ht.out]; exact hown2)))
          all_goals
            go_wp2_with fail
            go_roundw
            case rel =>
              simp only [List.length_append] at hRn
              exact hfin.out _ _ _ hRn
            case measure => simp [intOf]; omega
        · have hz' := hid hz
          clear hz
          go_wp2_with fail
          go_region_dies
          all_goals
            refine (number_any rb fb 18446744073709551615 _ wr.drew hRd.r (by omega)).mono ?_
            rintro e w1 ⟨hp1, ⟨l1, hr1⟩, hcase⟩
            rcases hcase with ⟨hn, _⟩ | ⟨hn, rfl⟩
            · exact absurd hn hz'.out
            · exact ⟨rfl, hend.out _ _ _ (hod.trans hp1 (by simp) (by simp)) hr1 hn⟩
      · have b1 : (s.kind == 1) = false := by simpa using k1
        clear k1
        by_cases k2 : s.kind = 2
        · by_cases hz : (textL 5000 (b.drop p)).1 = 0
          · obtain ⟨t, m, he, hm, hn, ht⟩ := again_text b p hple hz
            have hcall := hid (text_ok rb fb 5000 _ t _ wr.drew hRd.r (by omega) he)
            rw [← hyt.out] at ht
            have hownd := ownsRow_drew hown
            have hszS := hR.o.size
            have HR := hid hRd
            replace ht := hid ht
            clear he
            go_wp2_with fail
            go_region_with (first
              | (go_at_call 34; refine hcall.out.mono ?_; rintro e w1 ⟨⟨v1, rfl, hv1⟩, hr1, hp1⟩; have hg1 := hp1.cell hgd (by simp; omega); have hown1 := own_only hownd hp1 (by intro k hk; have := (hown.lt k hk).1; have := hR.lt; simp; omega); have hs1 := hp1.size; have hB1 : Bs w1 v1 t := hv1.bs (by omega); have hne1 := hid (show ∀ x, v1.ownBlock = some x → t = [] ∨ (Value.slice ga ys.length gc).ownBlock ≠ some x from fun x hx => .inr (fun hh => by have := (hv1.lt x hx).1; have := (hown.lt x hh).2; simp at *; omega)); obtain ⟨va, vc, rfl⟩ := own_form hv1)
              | (go_at_call 49; refine (putText_any _ _ ys t wS.heap.size w1 hown1 (by omega) (by omega) (by simp at hs1; omega) hB1 hne1.out).mono ?_; rintro e w2 ⟨v2, rfl, hown2, happ2⟩; obtain ⟨a2, c2, rfl⟩ := own_form hown2; obtain ⟨g2, z2, hRn⟩ := HR.out.step hm hp1 hr1 happ2 (by rw [ht.out]; exact hown2)))
            all_goals
              go_wp2_with fail
              go_roundw
              case rel =>
                simp only [List.length_append] at hRn
                exact hfin.out _ _ _ hRn
              case measure => simp [intOf]; omega
          · have hz' := hid hz
            clear hz
            go_wp2_with fail
            go_region_dies
            all_goals
              refine (text_any rb fb 5000 _ wr.drew hRd.r (by omega)).mono ?_
              rintro e w1 ⟨hp1, ⟨l1, hr1⟩, hcase⟩
              rcases hcase with ⟨hn, _⟩ | ⟨hn, rfl⟩
              · exact absurd hn hz'.out
              · exact ⟨rfl, hend.out _ _ _ (hod.trans hp1 (by simp) (by simp)) hr1 hn⟩
        · have b2 : (s.kind == 2) = false := by simpa using k2
          clear k2
          by_cases k3 : s.kind = 3
          · by_cases hz : (digL (b.drop p)).1 = 0
            · obtain ⟨t, he, hm, hn, ht⟩ := again_dig b p hple hz
              have hcall := hid (digest_ok rb fb _ t _ wr.drew hRd.r he)
              rw [← hyt.out] at ht
              have hownd := ownsRow_drew hown
              have hszS := hR.o.size
              have HR := hid hRd
              replace ht := hid ht
              have hput := hid (fun v xs B w h1 h2 h3 => putDig_any v xs t B w h1 h2 hn h3)
              unfold vD at hput
              clear he hn
              go_wp2_with fail
              go_region_with (first
                | (go_at_call 37; refine hcall.out.mono ?_; rintro e w1 ⟨rfl, hr1, hp1⟩; have hg1 := hp1.cell hgd (by simp; omega); have hown1 := own_only hownd hp1 (by intro k hk; have := (hown.lt k hk).1; have := hR.lt; simp; omega); have hs1 := hp1.size)
                | (go_at_call 50; refine (hput.out _ ys wS.heap.size w1 hown1 (by omega) (by simp at hs1; omega)).mono ?_; rintro e w2 ⟨v2, rfl, hown2, happ2⟩; obtain ⟨a2, c2, rfl⟩ := own_form hown2; obtain ⟨g2, z2, hRn⟩ := HR.out.step hm hp1 hr1 happ2 (by rw [ht.out]; exact hown2)))
              all_goals
                go_wp2_with fail
                go_roundw
                case rel =>
                  simp only [List.length_append] at hRn
                  exact hfin.out _ _ _ hRn
                case measure => simp [intOf]; omega
            · have hz' := hid hz
              clear hz
              go_wp2_with fail
              go_region_dies
              all_goals
                refine (dig_any rb fb _ wr.drew hRd.r).mono ?_
                rintro e w1 ⟨hp1, ⟨l1, hr1⟩, hcase⟩
                rcases hcase with ⟨hn, _⟩ | ⟨hn, rfl⟩
                · exact absurd hn hz'.out
                · exact ⟨rfl, hend.out _ _ _ (hod.trans hp1 (by simp) (by simp)) hr1 hn⟩
          · have b3 : (s.kind == 3) = false := by simpa using k3
            clear k3
            go_wp2_with fail
            go_roundw
            case rel => exact hfin.out _ _ _ hR
            case measure => simp [intOf]; omega
    · obtain rfl : k = steps.length := by omega
      go_wp2
      go_end0
      exact ⟨hR.only, hR.o, .inl ⟨p, _, hR, rfl⟩⟩
end Go.Proofs.Ytcceiejfphokbaa.Sh
