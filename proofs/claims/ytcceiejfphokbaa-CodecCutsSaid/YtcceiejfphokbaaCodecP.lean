/- CodecBack's function that reads: walked. -/
import Derived.Test.YtcceiejfphokbaaCodecO
namespace Go.Proofs.Ytcceiejfphokbaa.Sh
open Go Go.RowKit

theorem digest_pad (v : Value) (s : List UInt8) (w : World) (hB : Bs w v s) (hl : s.length ≤ 1000000) :
    Calls Try.prog 38 #[v] w fun e w' => e = .returned (.agg (bytes (padL s)).toArray) ∧ Only [] w w' := digest_any v s w hB hl

/-- Where CodecBack's function that reads stands. -/
structure RB (w0 wS w : World) (lb kb rb fb : Nat) (v : Value) (l : List UInt8) : Prop where
  only : Only [] w0 w
  list : w.cell? ⟨lb, 0, none⟩ = some v
  okV : w.cell? ⟨kb, 0, none⟩ = some (.bool true)
  okZ : w.frozen? ⟨kb, 0, none⟩ = false
  new : w0.heap.size ≤ lb ∧ w0.heap.size ≤ kb ∧ w0.heap.size ≤ rb
  ne : lb ≠ kb ∧ lb ≠ rb ∧ kb ≠ rb
  r : Rd w rb fb l
  o : Only [kb, rb] wS w
  far : fb ≠ lb ∧ fb ≠ kb ∧ fb ≠ rb

section
variable {w0 wS w w' : World} {lb kb rb fb : Nat} {v : Value} {l : List UInt8}
theorem RB.keep (h : RB w0 wS w lb kb rb fb v l) {bs : List Nat} (ho : Only bs w w') (hb : ∀ x ∈ bs, x = rb) {l' : List UInt8} (hr : Rd w' rb fb l') : RB w0 wS w' lb kb rb fb v l' := by
  obtain ⟨n1, n2, n3⟩ := h.ne
  have hl : lb ∉ bs := fun hm => n2 (hb _ hm)
  have hk : kb ∉ bs := fun hm => n3 (hb _ hm)
  have l2 : kb < w.heap.size := World.block_lt_of_cell? w _ h.okV
  exact ⟨h.only.trans ho (by simp) (fun x hx => .inr (by rw [hb x hx]; exact h.new.2.2)), ho.cell h.list hl, ho.cell h.okV hk, by rw [ho.frozen' l2 hk]; exact h.okZ, h.new, h.ne, hr, h.o.trans ho (by simp) (fun x hx => .inl (by rw [hb x hx]; simp)), h.far⟩
theorem RB.rd (h : RB w0 wS w lb kb rb fb v l) {l' : List UInt8} (ho : Only [rb] w w') (hr : Rd w' rb fb l') : RB w0 wS w' lb kb rb fb v l' := h.keep ho (by simp) hr
theorem RB.keep0 (h : RB w0 wS w lb kb rb fb v l) (ho : Only [] w w') : RB w0 wS w' lb kb rb fb v l := h.keep ho (by simp) (h.r.kept0 ho)
theorem RB.setOk (h : RB w0 wS w lb kb rb fb v l) : RB w0 wS (w.setCell ⟨kb, 0, none⟩ (.bool true)) lb kb rb fb v l := by
  obtain ⟨n1, n2, n3⟩ := h.ne
  have hfar := h.far
  have ho : Only [kb] w (w.setCell ⟨kb, 0, none⟩ (.bool true)) := (Only.refl [kb] w).setCell (.inl (by simp)) _
  exact ⟨h.only.setCell (.inr h.new.2.1) _, ho.cell h.list (by simp; omega), World.cell?_setCell_same w _ _ h.okV, by simpa [go_sem] using h.okZ, h.new, h.ne, h.r.kept ho (by simp; omega) (.inr (by simp; omega)), h.o.trans ho (by simp) (by simp), h.far⟩
end

set_option maxRecDepth 20000 in
set_option maxHeartbeats 6400000 in
theorem back_by (w0 wS : World) (lb kb rb fb : Nat) (v : Value) (steps : List Stp) (hS : Steps w0 v steps) (hf : fewL steps = true) (h0 : RB w0 wS wS lb kb rb fb v (layL steps)) :
    Calls Try.prog 46 #[.pointer (some ⟨rb, 0, none⟩), .pointer (some ⟨lb, 0, none⟩), .pointer (some ⟨kb, 0, none⟩)] wS fun e w' => e = .returned (.tuple #[]) ∧ RB w0 wS w' lb kb rb fb v [] := by
  obtain ⟨hok, h30⟩ := few_ok hS hf
  obtain ⟨a, cap, rfl, h1, h2, h3⟩ := hS.form
  have hlist := h0.list
  go_enter Try.func46, Try.ntmps46
  go_wp2_with fail
  go_loopw [7] (fun i wr => ∃ k : Nat, k ≤ steps.length ∧ i = .int .i64 k ∧ RB w0 wS wr lb kb rb fb (.slice a steps.length cap) (layL (steps.drop k))) (fun i _ => steps.length - (intOf i).toNat)
  case atStart => exact ⟨0, Nat.zero_le _, rfl, h0⟩
  case round =>
    obtain ⟨k, hk, rfl, hR⟩ := hrel
    have hlist' := hR.list
    by_cases hlt : k < steps.length
    · obtain ⟨sb, so, sx, rfl, d1, d2, d3, hB0⟩ := hS.at k hlt
      have hsb0 : sb < w0.heap.size := by simpa using World.block_lt_of_cell? w0 _ d1
      have hne := hR.ne
      have hnew := hR.new
      have c1 := hR.only.cell d1 (by simp)
      have c2 := hR.only.cell d2 (by simp)
      have c3 := hR.only.cell d3 (by simp)
      obtain ⟨s, hs⟩ : ∃ s, s = steps[k] := ⟨_, rfl⟩
      have hsok := hok s (by rw [hs]; exact List.getElem_mem hlt)
      have hsn := hsok.1.2.2
      have hs60 := hsok.2
      have hlayk := layL_drop steps k hlt
      rw [← hs] at c1 c2 hB0 hlayk
      rw [hlayk] at hR
      obtain ⟨ys, hys⟩ : ∃ ys, ys = layL (steps.drop (k + 1)) := ⟨_, rfl⟩
      rw [← hys] at hR
      have hokv := hR.okV
      have hokz := hR.okZ
      have hod : Only [] wr wr.drew := (Only.refl [] wr).drew
      have hRd := hR.keep0 hod
      obtain ⟨_, xa, xc, rfl, _, _, _, _⟩ := id hB0
      have hfin : ∀ w', RB w0 wS w' lb kb rb fb (.slice (some ⟨sb, so, none⟩) steps.length cap) ys → ∃ k' : Nat, k' ≤ steps.length ∧ Value.int .i64 ((k : Int) + 1) = .int .i64 k' ∧ RB w0 wS w' lb kb rb fb (.slice (some ⟨sb, so, none⟩) steps.length cap) (layL (steps.drop k')) := by
        intro w' h
        exact ⟨k + 1, by omega, by go_num, by rw [← hys]; exact h⟩
      replace hfin := hid hfin
      have hB0' := hid hB0
      have HR := hid hR
      have hsr : sb ≠ rb := by omega
      have hsk : sb ≠ kb := by omega
      clear hs hys hlayk hB0 d1 d2 d3 hok hlist h0
      by_cases k1 : s.kind = 1
      · have hz : layS s = numB s.n := by unfold layS; rw [if_pos k1]
        have heq : ((s.n : Int) == (s.n : Int)) = true := by simp
        have hcall := hid (number_ok rb fb 18446744073709551615 s.n _ ys wr.drew hRd.r (by omega) (by rw [hz]; exact numL_numB _ _ _ (by omega) hsn))
        clear hz hR hRd
        go_wp2_with fail
        go_region_held3 (fun w' => w'.cell? ⟨lb, 0, none⟩ = some (.slice (some ⟨sb, so, none⟩) steps.length cap) ∧ w'.cell? ⟨sb, so + k * 3 + 1, none⟩ = some (.int .u64 s.n) ∧ w'.cell? ⟨kb, 0, none⟩ = some (.bool true)) (first | exact ⟨hlist', c2, hokv⟩ | exact ⟨hR1.list, hc1, hR1.okV⟩ | exact ⟨hR1.setOk.list, hc2, hR1.setOk.okV⟩) (first
          | (go_at_call 32; refine hcall.out.mono ?_; rintro e w1 ⟨rfl, hr1, hp1⟩; have hR1 := (HR.out.keep0 hod).rd hp1 hr1; have hc1 := hp1.cell (hod.cell c2 (by simp)) (by simpa using hsr); have hc2 := ((Only.refl [kb] w1).setCell (p := ⟨kb, 0, none⟩) (.inl (by simp)) (.bool true)).cell hc1 (by simpa using hsk); have hok1 := hR1.okV; have hokz1 := hR1.okZ))
        go_wp2_with fail
        go_roundw
        case rel => exact hfin.out _ hR1.setOk
        case measure => simp [intOf]; omega
      · have b1 : (s.kind == 1) = false := by simpa using k1
        by_cases k2 : s.kind = 2
        · have hz : layS s = textB s.s := by unfold layS; rw [if_neg k1, if_pos k2]
          have hcall := hid (text_ok rb fb 60 _ s.s ys wr.drew hRd.r (by omega) (by rw [hz]; exact textL_textB _ _ _ hs60 (by omega)))
          clear hz hR hRd k1 b1
          go_wp2_with fail
          go_region_held3 (fun w' => w'.cell? ⟨lb, 0, none⟩ = some (.slice (some ⟨sb, so, none⟩) steps.length cap) ∧ w'.cell? ⟨sb, so + k * 3 + 2, none⟩ = some (.slice xa s.s.length xc) ∧ w'.cell? ⟨kb, 0, none⟩ = some (.bool true)) (first | exact ⟨hlist', c3, hokv⟩ | exact ⟨hR1.list, hc1, hR1.okV⟩ | exact ⟨hR2.list, hc2, hR2.okV⟩ | exact ⟨hR2.setOk.list, hc3, hR2.setOk.okV⟩) (first
            | (go_at_call 34; refine hcall.out.mono ?_; rintro e w1 ⟨⟨v1, rfl, hv1⟩, hr1, hp1⟩; have hR1 := (HR.out.keep0 hod).rd hp1 hr1; have hc1 := hp1.cell (hod.cell c3 (by simp)) (by simpa using hsr); have hB1 : Bs w1 v1 s.s := hv1.bs (by omega))
            | (go_at_call 25; refine (same_eq _ _ _ _ hB1 (hB0'.out.kept0 hR1.only)).mono ?_; rintro e w2 ⟨rfl, hp2⟩; have hR2 := hR1.keep0 hp2; have hc2 := hp2.cell hc1 (by simp); have hc3 := ((Only.refl [kb] w2).setCell (p := ⟨kb, 0, none⟩) (.inl (by simp)) (.bool true)).cell hc2 (by simpa using hsk); have hok2 := hR2.okV; have hokz2 := hR2.okZ))
          go_wp2_with fail
          go_roundw
          case rel => exact hfin.out _ hR2.setOk
          case measure => simp [intOf]; omega
        · by_cases k3 : s.kind = 3
          · have hz : layS s = padL s.s := by unfold layS; rw [if_neg k1, if_neg k2, if_pos k3]
            have hcall := hid (digest_ok rb fb _ (padL s.s) ys wr.drew hRd.r (by rw [hz]; exact digL_padL _ _))
            have heq : ∀ w, (binOp .eql 62 (.agg (bytes (padL s.s)).toArray) (.agg (bytes (padL s.s)).toArray)).run Try.prog w = .ok (.bool true) w := fun w => (eql_dig (padL s.s) (padL s.s) (padL_length _) (padL_length _) w).trans (by simp)
            clear hz hR hRd k1 b1 k2
            go_wp2_with fail
            go_region_held3 (fun w' => w'.cell? ⟨lb, 0, none⟩ = some (.slice (some ⟨sb, so, none⟩) steps.length cap) ∧ w'.cell? ⟨sb, so + k * 3 + 2, none⟩ = some (.slice xa s.s.length xc) ∧ w'.cell? ⟨kb, 0, none⟩ = some (.bool true)) (first | exact ⟨hlist', c3, hokv⟩ | exact ⟨hR1.list, hc1, hR1.okV⟩ | exact ⟨hR2.list, hc2, hR2.okV⟩ | exact ⟨hR2.setOk.list, hc3, hR2.setOk.okV⟩) (first
              | (go_at_call 37; refine hcall.out.mono ?_; rintro e w1 ⟨rfl, hr1, hp1⟩; have hR1 := (HR.out.keep0 hod).rd hp1 hr1; have hc1 := hp1.cell (hod.cell c3 (by simp)) (by simpa using hsr))
              | (go_at_call 38; refine (digest_pad _ s.s _ (hB0'.out.kept0 hR1.only) (by omega)).mono ?_; rintro e w2 ⟨rfl, hp2⟩; have hR2 := hR1.keep0 hp2; have hc2 := hp2.cell hc1 (by simp); have hc3 := ((Only.refl [kb] w2).setCell (p := ⟨kb, 0, none⟩) (.inl (by simp)) (.bool true)).cell hc2 (by simpa using hsk); have hok2 := hR2.okV; have hokz2 := hR2.okZ))
            go_wp2_with fail
            go_roundw
            case rel => exact hfin.out _ hR2.setOk
            case measure => simp [intOf]; omega
          · have hz : layS s = [] := by unfold layS; rw [if_neg k1, if_neg k2, if_neg k3]
            have b2 : (s.kind == 2) = false := by simpa using k2
            have b3 : (s.kind == 3) = false := by simpa using k3
            rw [hz, List.nil_append] at hR
            clear hz HR k1 k2 k3 hRd
            go_wp2_with fail
            go_roundw
            case rel => exact hfin.out _ hR
            case measure => simp [intOf]; omega
    · obtain rfl : k = steps.length := by omega
      rw [List.drop_length] at hR
      go_wp2
      go_end0
      exact ⟨rfl, hR⟩
end Go.Proofs.Ytcceiejfphokbaa.Sh
