/- The functions that read, of CodecAgain and of CodecCuts: walked. -/
import Derived.Test.YtcceiejfphokbaaCodecP
import Derived.RegionDies
namespace Go.Proofs.Ytcceiejfphokbaa.Sh
open Go Go.RowKit

/-! CodecCuts$1 -/
structure RC (w0 wS w : World) (lb rb fb : Nat) (v : Value) (l : List UInt8) : Prop where
  only : Only [] w0 w
  list : w.cell? ⟨lb, 0, none⟩ = some v
  new : w0.heap.size ≤ lb ∧ w0.heap.size ≤ rb
  ne : lb ≠ rb
  r : Rd w rb fb l
  o : Only [rb] wS w
theorem RC.rd {w0 wS w w' : World} {lb rb fb : Nat} {v : Value} {l l' : List UInt8} (h : RC w0 wS w lb rb fb v l) (ho : Only [rb] w w') (hr : Rd w' rb fb l') : RC w0 wS w' lb rb fb v l' :=
  ⟨h.only.trans ho (by simp) (by simpa using h.new.2), ho.cell h.list (by simpa using h.ne), h.new, h.ne, hr, h.o.trans ho (by simp) (by simp)⟩

def CutsPost (w0 wS : World) (lb rb fb : Nat) (v : Value) (steps : List Stp) (b : List UInt8) (e : Ending) (w' : World) : Prop :=
  ∃ l, RC w0 wS w' lb rb fb v l ∧ ((readA 60 steps b).1 = 0 ∧ e = .returned (.tuple #[]) ∧ l = (readA 60 steps b).2 ∨ (readA 60 steps b).1 ≠ 0 ∧ e = .panicked (ownEnd rb (readA 60 steps b).1))

theorem readA_go (M : Nat) (steps : List Stp) (k : Nat) (hk : k < steps.length) (l : List UInt8) : readA M (steps.drop k) l = if (readS M steps[k] l).1 = 0 then readA M (steps.drop (k + 1)) (readS M steps[k] l).2 else readS M steps[k] l := by
  rw [List.drop_eq_getElem_cons hk]
  rfl

set_option maxRecDepth 20000 in
set_option maxHeartbeats 6400000 in
theorem cuts_by (w0 wS : World) (lb rb fb : Nat) (v : Value) (steps : List Stp) (b : List UInt8) (hS : Steps w0 v steps) (h0 : RC w0 wS wS lb rb fb v b) :
    Calls Try.prog 51 #[.pointer (some ⟨rb, 0, none⟩), .pointer (some ⟨lb, 0, none⟩)] wS (CutsPost w0 wS lb rb fb v steps b) := by
  obtain ⟨a, cap, rfl, h1, h2, h3⟩ := hS.form
  have hlist := h0.list
  go_enter Try.func51, Try.ntmps51
  go_wp2_with fail
  go_loopw [6] (fun i wr => ∃ (k : Nat) (l : List UInt8), k ≤ steps.length ∧ i = .int .i64 k ∧ Hid (readA 60 steps b = readA 60 (steps.drop k) l) ∧ RC w0 wS wr lb rb fb (.slice a steps.length cap) l) (fun i _ => steps.length - (intOf i).toNat)
  case atStart => exact ⟨0, b, Nat.zero_le _, rfl, rfl, h0⟩
  case round =>
    obtain ⟨k, l, hk, rfl, hst, hR⟩ := hrel
    have hlist' := hR.list
    by_cases hlt : k < steps.length
    · obtain ⟨sb, so, sx, rfl, c1, c2, c3, hB⟩ := (hS.kept0 hR.only).at k hlt
      obtain ⟨s, hs⟩ : ∃ s, s = steps[k] := ⟨_, rfl⟩
      have hgo := readA_go 60 steps k hlt l
      rw [← hs] at c1 c2 hB hgo
      obtain ⟨_, xa, xc, rfl, _, _, _, _⟩ := id hB
      have hend : ∀ (w' : World) (l' : List UInt8), RC w0 wS w' lb rb fb (.slice (some ⟨sb, so, none⟩) steps.length cap) l' → ∀ c, (readS 60 s l).1 = c → c ≠ 0 → CutsPost w0 wS lb rb fb (.slice (some ⟨sb, so, none⟩) steps.length cap) steps b (.panicked (ownEnd rb c)) w' := by
        intro w' l' hR' c hc hne
        have he : (readA 60 steps b).1 = c := by rw [hst.out, hgo, if_neg (by rw [hc]; exact hne), hc]
        exact ⟨l', hR', .inr ⟨by rw [he]; exact hne, by rw [he]⟩⟩
      have hfin : ∀ (w' : World), (readS 60 s l).1 = 0 → RC w0 wS w' lb rb fb (.slice (some ⟨sb, so, none⟩) steps.length cap) (readS 60 s l).2 → ∃ (k' : Nat) (l' : List UInt8), k' ≤ steps.length ∧ Value.int .i64 ((k : Int) + 1) = .int .i64 k' ∧ Hid (readA 60 steps b = readA 60 (steps.drop k') l') ∧ RC w0 wS w' lb rb fb (.slice (some ⟨sb, so, none⟩) steps.length cap) l' := by
        intro w' h5 h6
        exact ⟨k + 1, _, by omega, by go_num, hid (by rw [hst.out, hgo, if_pos h5]), h6⟩
      replace hend := hid hend
      replace hfin := hid hfin
      clear hs hgo hst hlist h0
      by_cases k1 : s.kind = 1
      · have hz : Hid (readS 60 s l = ((numL 18446744073709551615 l).1, (numL 18446744073709551615 l).2.2)) := by show _ = _; unfold readS; rw [if_pos k1]
        go_wp2_with fail
        refine (number_any rb fb 18446744073709551615 l wr hR.r (by omega)).mono ?_
        rintro e w1 ⟨hp1, ⟨l1, hr1⟩, hcase⟩
        rcases hcase with ⟨hn, rfl, hr1⟩ | ⟨hn, rfl⟩
        · have hf := hid (hfin.out w1 (by rw [hz.out]; exact hn) (by rw [hz.out]; exact hR.rd hp1 hr1))
          clear hn
          go_wp2_with fail
          go_roundw
          case rel => exact hf.out
          case measure => simp [intOf]; omega
        · exact ⟨rfl, hend.out _ _ (hR.rd hp1 hr1) _ (by rw [hz.out]) hn⟩
      · have b1 : (s.kind == 1) = false := by simpa using k1
        by_cases k2 : s.kind = 2
        · have hz : Hid (readS 60 s l = ((textL 60 l).1, (textL 60 l).2.2)) := by show _ = _; unfold readS; rw [if_neg k1, if_pos k2]
          clear k1 b1
          go_wp2_with fail
          refine (text_any rb fb 60 l wr hR.r (by omega)).mono ?_
          rintro e w1 ⟨hp1, ⟨l1, hr1⟩, hcase⟩
          rcases hcase with ⟨hn, ⟨v1, rfl, _⟩, hr1⟩ | ⟨hn, rfl⟩
          · have hf := hid (hfin.out w1 (by rw [hz.out]; exact hn) (by rw [hz.out]; exact hR.rd hp1 hr1))
            clear hn
            go_wp2_with fail
            go_roundw
            case rel => exact hf.out
            case measure => simp [intOf]; omega
          · exact ⟨rfl, hend.out _ _ (hR.rd hp1 hr1) _ (by rw [hz.out]) hn⟩
        · by_cases k3 : s.kind = 3
          · have hz : Hid (readS 60 s l = ((digL l).1, (digL l).2.2)) := by show _ = _; unfold readS; rw [if_neg k1, if_neg k2, if_pos k3]
            clear k1 b1 k2
            go_wp2_with fail
            refine (dig_any rb fb l wr hR.r).mono ?_
            rintro e w1 ⟨hp1, ⟨l1, hr1⟩, hcase⟩
            rcases hcase with ⟨hn, rfl, hr1⟩ | ⟨hn, rfl⟩
            · have hf := hid (hfin.out w1 (by rw [hz.out]; exact hn) (by rw [hz.out]; exact hR.rd hp1 hr1))
              clear hn
              go_wp2_with fail
              go_roundw
              case rel => exact hf.out
              case measure => simp [intOf]; omega
            · exact ⟨rfl, hend.out _ _ (hR.rd hp1 hr1) _ (by rw [hz.out]) hn⟩
          · have hz : Hid (readS 60 s l = (0, l)) := by show _ = _; unfold readS; rw [if_neg k1, if_neg k2, if_neg k3]
            have b2 : (s.kind == 2) = false := by simpa using k2
            have b3 : (s.kind == 3) = false := by simpa using k3
            have hf := hid (hfin.out wr (by rw [hz.out]) (by rw [hz.out]; exact hR))
            clear k1 k2 k3
            go_wp2_with fail
            go_roundw
            case rel => exact hf.out
            case measure => simp [intOf]; omega
    · obtain rfl : k = steps.length := by omega
      have hpost : Hid (CutsPost w0 wS lb rb fb (.slice a steps.length cap) steps b (.returned (.tuple #[])) wr) := by
        have he : readA 60 steps b = (0, l) := by rw [hst.out, List.drop_length]; rfl
        exact ⟨l, hR, .inl ⟨by rw [he], rfl, by rw [he]⟩⟩
      go_wp2
      go_end0
      exact hpost

/-! CodecAgain$1 -/
structure RA (w0 wS w : World) (lb gb rb fb : Nat) (v : Value) (b : List UInt8) (p : Nat) (g : Value) : Prop where
  only : Only [] w0 w
  list : w.cell? ⟨lb, 0, none⟩ = some v
  again : w.cell? ⟨gb, 0, none⟩ = some g ∧ w.frozen? ⟨gb, 0, none⟩ = false
  own : Ob wS.heap.size w g (b.take p)
  le : p ≤ b.length
  lt : lb < wS.heap.size ∧ gb < wS.heap.size ∧ rb < wS.heap.size
  new : w0.heap.size ≤ lb ∧ w0.heap.size ≤ gb ∧ w0.heap.size ≤ rb
  ne : lb ≠ gb ∧ lb ≠ rb ∧ gb ≠ rb
  r : Rd w rb fb (b.drop p)
  o : Only [gb, rb] wS w
  far : fb ≠ gb ∧ (b = [] ∨ fb < wS.heap.size)

section
variable {w0 wS w w' w'' : World} {lb gb rb fb : Nat} {v g g' : Value} {b : List UInt8} {p : Nat}
/-- A step: read so many bytes, lay the same bytes. -/
theorem RA.step (h : RA w0 wS w lb gb rb fb v b p g) {n : Nat} (hn : p + n ≤ b.length) (ho : Only [rb] w w') (hr : Rd w' rb fb (b.drop (p + n))) (ha : App w' w'' g g') (hw : Ob wS.heap.size w'' g' (b.take (p + n))) :
    w''.cell? ⟨gb, 0, none⟩ = some g ∧ w''.frozen? ⟨gb, 0, none⟩ = false ∧ RA w0 wS (w''.setCell ⟨gb, 0, none⟩ g') lb gb rb fb v b (p + n) g' := by
  obtain ⟨l1, l2, l3⟩ := h.lt
  obtain ⟨n1, n2, n3⟩ := h.ne
  obtain ⟨m1, m2, m3⟩ := h.new
  have hsz := h.o.size
  have hg : ∀ k, g.ownBlock = some k → wS.heap.size ≤ k := fun k hk => (h.own.lt k hk).1
  have ho1 : Only g.ownBlock.toList w' w'' := (Only.refl g.ownBlock.toList w').app ha (fun k hk => .inl (by simp [hk]))
  have hnot : ∀ x, x < wS.heap.size → x ∉ g.ownBlock.toList := by
    intro x hx hm
    simp only [Option.mem_toList] at hm
    have := hg x hm
    omega
  have c2 := cell_kept ho1 (hnot gb l2) (cell_kept ho (by simpa using n3) h.again)
  have ho2 : Only [gb] w'' (w''.setCell ⟨gb, 0, none⟩ g') := (Only.refl [gb] w'').setCell (.inl (by simp)) _
  have hr2 : Rd w'' rb fb (b.drop (p + n)) := hr.kept ho1 (hnot rb l3) (by
    rcases h.far.2 with e | e
    · exact .inl (by rw [e]; simp)
    · exact .inr (hnot fb e))
  have hO2 : Only [gb, rb] wS w'' := (h.o.trans ho (ds := [gb, rb]) (by simp) (by simp)).trans ho1 (by simp) (fun x hx => by
    simp only [Option.mem_toList] at hx
    exact .inr (hg x hx))
  refine ⟨c2.1, c2.2, ⟨?_, ?_, ⟨World.cell?_setCell_same _ _ _ c2.1, by simpa [go_sem] using c2.2⟩, ?_, hn, h.lt, h.new, h.ne, hr2.kept ho2 (by simp; omega) (.inr (by simpa using h.far.1)), hO2.trans ho2 (by simp) (by simp), h.far⟩⟩
  · exact ((h.only.trans ho (ds := []) (by simp) (by simp; omega)).trans ho1 (by simp) (fun x hx => by
      simp only [Option.mem_toList] at hx
      have := hg x hx
      exact .inr (by omega))).setCell (.inr m2) _
  · exact ho2.cell (ho1.cell (ho.cell h.list (by simpa using n2)) (hnot lb l1)) (by simpa using n1)
  · refine own_only hw ho2 (fun k hk => ?_)
    have := (hw.lt k hk).1
    simp; omega
theorem RA.keep0 (h : RA w0 wS w lb gb rb fb v b p g) (ho : Only [] w w') : RA w0 wS w' lb gb rb fb v b p g :=
  ⟨h.only.trans0 ho, ho.cell h.list (by simp), cell_kept ho (by simp) h.again, own_only0 h.own ho, h.le, h.lt, h.new, h.ne, h.r.kept0 ho, h.o.trans ho (by simp) (by simp), h.far⟩
end

def AgainPost (w0 wS : World) (lb gb rb fb : Nat) (v : Value) (b : List UInt8) (e : Ending) (w' : World) : Prop :=
  Only [] w0 w' ∧ Only [gb, rb] wS w' ∧ ((∃ p g, RA w0 wS w' lb gb rb fb v b p g ∧ e = .returned (.tuple #[])) ∨ ∃ c l, c ≠ 0 ∧ e = .panicked (ownEnd rb c) ∧ Rd w' rb fb l)
end Go.Proofs.Ytcceiejfphokbaa.Sh
