/- What was laid is read, in order, to the end; and as much as the document says is laid for it: the law's walk. -/
import Derived.Test.YtcceiejfphokbaaCodecP
namespace Go.Proofs.Ytcceiejfphokbaa.Sh
open Go Go.RowKit

theorem enter_back1 (args : Array Value) (w : World) : (callFunc 46 args).run Try.prog w = .ok (.enter 46 args) w := by
  simp [go_sem, Try.func46]

set_option maxRecDepth 20000 in
set_option maxHeartbeats 6400000 in
theorem codecBack_walk (w : World) {u : Value} {steps : List Stp} (hS : Steps w u steps) :
    Calls Try.prog 12 #[u] w fun e w' => e = .returned (.bool true) ∧ Only [] w w' := by
  have hmf : ∀ (fn : Fn) (first cap : Array Value) (w : World), (Instr.makeFunc fn first cap).run Try.prog w = .ok (.func fn first cap) w := fun _ _ _ _ => rfl
  obtain ⟨sa, scap, rfl, s1, s2, s3⟩ := hS.form
  obtain ⟨x, hx⟩ : ∃ x, x = fewL steps := ⟨_, rfl⟩
  have hfew := fun w' h => few_any (.slice sa steps.length scap) steps w' h
  rw [← hx] at hfew
  replace hfew := hid hfew
  have hoa : Only [] w (w.alloc (Obj.cells #[.slice sa steps.length scap] 48)) := (Only.refl [] w).alloc _
  have hla : (w.alloc (Obj.cells #[.slice sa steps.length scap] 48)).cell? ⟨w.heap.size, 0, none⟩ = some (.slice sa steps.length scap) := by simp [go_sem]
  by_cases hxf : x = false
  · subst hxf
    clear hx
    go_enter Try.func12, Try.ntmps12
    go_wp2_with fail
    refine (awake08_any _).mono ?_
    rintro e w1 ⟨rfl, ho1⟩
    have hl1 := ho1.cell hla (by simp)
    go_wp2_with fail
    refine (hfew.out _ ((hS.kept0 hoa).kept0 ho1)).mono ?_
    rintro e w1 ⟨rfl, rfl⟩
    go_wp2_with fail
    refine (awake08_any _).mono ?_
    rintro e w2 ⟨rfl, ho2⟩
    go_wp2
    go_ret
    exact ⟨rfl, (hoa.trans0 ho1).trans0 ho2⟩
  obtain rfl : x = true := by simpa using hxf
  have hft : fewL steps = true := hx.symm
  obtain ⟨hok, h30⟩ := few_ok hS hft
  have hll := layL_length steps hok
  replace hft := hid hft
  clear hxf hx
  go_enter Try.func12, Try.ntmps12
  go_wp2_with fail
  refine (awake08_any _).mono ?_
  rintro e w1 ⟨rfl, ho1⟩
  have hl1 := ho1.cell hla (by simp)
  have hS1 := (hS.kept0 hoa).kept0 ho1
  have how1 := hoa.trans0 ho1
  go_wp2_with fail
  refine (hfew.out _ hS1).mono ?_
  rintro e w1 ⟨rfl, rfl⟩
  go_wp2_with fail
  refine (lay_any _ steps w1 hS1 hft.out).mono ?_
  rintro e w2 ⟨bv, rfl, hown2, hp2⟩
  have hl2 := hp2.cell hl1 (by simp)
  have hS2 := hS1.kept0 hp2
  have hB2 : Bs w2 bv (layL steps) := Cs.of_own hown2 (by omega)
  have how2 := how1.trans0 hp2
  have hsz2 : w.heap.size < w2.heap.size := by have := ho1.size; have := hp2.size; simp at *; omega
  have hbw := hid (fun b hb => hown2.lt b hb)
  replace hok := hid hok
  have hs1' := hp2.size
  have hsw1 : w.heap.size < w1.heap.size := by have := ho1.size; simp at this; omega
  clear hown2 hfew hla hl1
  go_wp2_with fail
  go_loopw [4, 21] (fun b i wr => ∃ k : Nat, k ≤ steps.length ∧ i = .int .i64 k ∧ Hid ((layL (steps.take k)).length ≤ 70 * k) ∧ Ob w2.heap.size wr b (layL (steps.take k)) ∧ Only [] w2 wr) (fun _ i _ => steps.length - (intOf i).toNat)
  case atStart => exact ⟨0, Nat.zero_le _, rfl, hid (by simp [layL]), World.ownsRow_nil _ _ _ _, Only.refl _ _⟩
  case round =>
    obtain ⟨k, hk, rfl, hlen, hown, ho⟩ := hrel
    obtain ⟨ba, bc, rfl⟩ := own_form hown
    have hsz := ho.size
    have hlr := ho.cell hl2 (by simp)
    by_cases hlt : k < steps.length
    · obtain ⟨sb, so, sx, rfl, c1, c2, c3, hB⟩ := (hS2.kept0 ho).at k hlt
      obtain ⟨s, hs⟩ : ∃ s, s = steps[k] := ⟨_, rfl⟩
      have hsok := hok.out s (by rw [hs]; exact List.getElem_mem hlt)
      have hsn := hsok.1.2.2
      have hs60 := hsok.2
      have hlayk := layL_take steps k hlt
      have hsl := layS_length s hsok.1 hsok.2
      rw [← hs] at c1 c2 hB hlayk
      obtain ⟨ys, hys⟩ : ∃ ys, ys = layL (steps.take k) := ⟨_, rfl⟩
      have hyl : ys.length ≤ 70 * k := by rw [hys]; exact hlen.out
      rw [← hys] at hown hlayk ⊢
      have hfin : ∀ (w' : World) (b' : Value) (zs : List UInt8), layS s = zs → Ob w2.heap.size w' b' (ys ++ zs) → Only [] w2 w' → ∃ k' : Nat, k' ≤ steps.length ∧ Value.int .i64 ((k : Int) + 1) = .int .i64 k' ∧ Hid ((layL (steps.take k')).length ≤ 70 * k') ∧ Ob w2.heap.size w' b' (layL (steps.take k')) ∧ Only [] w2 w' := by
        intro w' b' zs hz h5 h6
        subst hz
        refine ⟨k + 1, by omega, by go_num, hid ?_, by rw [hlayk]; exact h5, h6⟩
        rw [hlayk]
        simp; omega
      have hgrow : ∀ (w1 w' : World) (b' : Value), Only [] wr w1 → App w1 w' (Value.slice ba ys.length bc) b' → Only [] w2 w' := fun w1 w' b' hp happ => (ho.trans0 hp).app happ (fun i hi => .inr (hown.lt i hi).1)
      replace hfin := hid hfin
      replace hgrow := hid hgrow
      obtain ⟨_, xa, xc, rfl, _, _, _, _⟩ := id hB
      clear hs hys hlayk hlen hok hmf hft
      by_cases k1 : s.kind = 1
      · have hz : Hid (layS s = numB s.n) := by show _ = _; unfold layS; rw [if_pos k1]
        have hnl := numB_length 10 s.n (by omega) (by omega)
        obtain ⟨zs, hzs⟩ : ∃ zs, zs = numB s.n := ⟨_, rfl⟩
        have hnum := refNumB_any s.n wr hsn
        rw [← hzs] at hz hnl hnum
        replace hnum := hid hnum
        clear hzs
        go_wp2_with fail
        refine hnum.out.mono ?_
        rintro e w3 ⟨v3, rfl, hown3, hp3⟩
        have hlr3 := hp3.cell hlr (by simp)
        have hs3 := hp3.size
        obtain ⟨a3, k3, rfl⟩ := own_form hown3
        go_wp2_with (at_builtin; refine wpList_app (by rfl) _ _ 22 (by rfl) w2.heap.size 5 1 1 el_u8 (by rfl) (own_only0 hown hp3) (by rfl) (Cs.of_own hown3 (by omega)) (bytes_one _) (by omega) (by omega) (by omega) ?_; intro v4 w4 hown4 happ4)
        go_roundw
        case rel => exact hfin.out _ _ _ hz.out (Ob.app hown4) (hgrow.out _ _ _ hp3 happ4)
        case measure => simp [intOf]; omega
      · have b1 : (s.kind == 1) = false := by simpa using k1
        by_cases k2 : s.kind = 2
        · have hz : Hid (layS s = textB s.s) := by show _ = _; unfold layS; rw [if_neg k1, if_pos k2]
          have htl := textB_length s.s (by omega)
          obtain ⟨zs, hzs⟩ : ∃ zs, zs = textB s.s := ⟨_, rfl⟩
          have htx := refTextB_any _ s.s wr (by omega) hB
          rw [← hzs] at hz htl htx
          replace htx := hid htx
          clear k1 b1 hzs
          go_wp2_with fail
          refine htx.out.mono ?_
          rintro e w3 ⟨v3, rfl, hown3, hp3⟩
          have hlr3 := hp3.cell hlr (by simp)
          have hs3 := hp3.size
          obtain ⟨a3, k3, rfl⟩ := own_form hown3
          go_wp2_with (at_builtin; refine wpList_app (by rfl) _ _ 22 (by rfl) w2.heap.size 5 1 1 el_u8 (by rfl) (own_only0 hown hp3) (by rfl) (Cs.of_own hown3 (by omega)) (bytes_one _) (by omega) (by omega) (by omega) ?_; intro v4 w4 hown4 happ4)
          go_roundw
          case rel => exact hfin.out _ _ _ hz.out (Ob.app hown4) (hgrow.out _ _ _ hp3 happ4)
          case measure => simp [intOf]; omega
        · by_cases k3 : s.kind = 3
          · have hz : Hid (layS s = padL s.s) := by show _ = _; unfold layS; rw [if_neg k1, if_neg k2, if_pos k3]
            have hpl := padL_length s.s
            obtain ⟨zs, hzs⟩ : ∃ zs, zs = padL s.s := ⟨_, rfl⟩
            have hdg := digest_pad _ s.s wr hB (by omega)
            rw [← hzs] at hz hpl hdg
            replace hdg := hid hdg
            have hpl' := hid hpl
            have hpl2 : zs.length ≤ 32 := by omega
            clear k1 b1 k2 hzs hpl
            go_wp2_with fail
            refine hdg.out.mono ?_
            rintro e w3 ⟨rfl, hp3⟩
            have hlr3 := hp3.cell hlr (by simp)
            have hs3 := hp3.size
            have hD0 := Dv.fresh w3 62
            have hoa3 : Only [] w3 (w3.alloc (Obj.cells Z32 62)) := (Only.refl [] w3).alloc _
            go_wp2_with (first
              | (refine wpList_alloc_run (by rfl) 62 (by rfl) (alloc_dig _) ?_)
              | (refine wpList_store_dig (by rfl) _ _ (by rfl) w3.heap.size zs _ (by rfl) (by rfl) rfl hpl'.out hD0.there ?_; intro w4 hD4 hp4)
              | (at_builtin; refine wpList_app (by rfl) _ _ 22 (by rfl) w2.heap.size 5 1 1 el_u8 (by rfl) (own_only0 hown ((hp3.trans0 hoa3).trans hp4 (by simp) (by simp; omega))) (by rfl) (Cs.cast (cs_dig hD4.range hpl'.out) hpl'.out rfl) (bytes_one _) (by omega) (by omega) (by have := hp4.size; have := hoa3.size; omega) ?_; intro v5 w5 hown5 happ5))
            go_roundw
            case rel => exact hfin.out _ _ _ hz.out (own_cast hown5 (by simp [hpl'.out]) (by simp)) (hgrow.out _ _ _ ((hp3.trans0 hoa3).trans hp4 (by simp) (by simp; omega)) happ5)
            case measure => simp [intOf]; omega
          · have hz : Hid (layS s = []) := by show _ = _; unfold layS; rw [if_neg k1, if_neg k2, if_neg k3]
            have b2 : (s.kind == 2) = false := by simpa using k2
            have b3 : (s.kind == 3) = false := by simpa using k3
            clear k1 k2 k3
            go_wp2_with fail
            go_roundw
            case rel => exact hfin.out _ _ _ hz.out (own_cast hown (by simp) (by simp)) ho
            case measure => simp [intOf]; omega
    · obtain rfl : k = steps.length := by omega
      rw [List.take_length] at hown ⊢
      have hBr := hB2.kept0 ho
      have hwant : Bs wr (.slice ba (layL steps).length bc) (layL steps) := Cs.of_own hown (by omega)
      have howr := how2.trans0 ho
      clear hown hlen hok
      go_wp2_with fail
      obtain ⟨w3, hw3⟩ : ∃ w3, w3 = wr.alloc (Obj.cells #[.bool true] 4) := ⟨_, rfl⟩
      rw [← hw3]
      have hp3 : Only [] wr w3 := by rw [hw3]; exact (Only.refl [] wr).alloc _
      have hs3 : w3.heap.size = wr.heap.size + 1 := by rw [hw3]; simp
      have q0 : w3.cell? ⟨wr.heap.size, 0, none⟩ = some (.bool true) ∧ w3.frozen? ⟨wr.heap.size, 0, none⟩ = false := by rw [hw3]; constructor <;> simp [go_sem]
      clear hw3
      have hl3 := hp3.cell hlr (by simp)
      have hB3 := hBr.kept0 hp3
      have how3 := howr.trans0 hp3
      obtain ⟨fb, hfb, hfar⟩ : ∃ fb, (∀ x, bv.ownBlock = some x → layL steps = [] ∨ x = fb) ∧ (fb < wr.heap.size ∧ fb ≠ w.heap.size ∨ w3.heap.size + 10 < fb) := by
        cases hbo : bv.ownBlock with
        | none => exact ⟨w3.heap.size + 11, fun _ h => (by cases h), .inr (by omega)⟩
        | some b0 =>
          obtain ⟨g1, g2⟩ := hbw.out b0 hbo
          exact ⟨b0, fun x h => .inr (by simpa using h.symm), .inl ⟨by omega, by omega⟩⟩
      refine (read_any bv (layL steps) fb 46 #[.pointer (some ⟨w.heap.size, 0, none⟩), .pointer (some ⟨wr.heap.size, 0, none⟩)] w3
        (fun e w' => e = .returned (.int .i64 0) ∧ w'.cell? ⟨wr.heap.size, 0, none⟩ = some (.bool true) ∧ Only [] wr w') hB3 hfb (by omega) enter_back1 ?_).mono ?_
      · intro w4 hp4 hs4 hr4
        have h0 : RB w w4 w4 w.heap.size wr.heap.size (w3.heap.size + 1) fb (.slice sa steps.length scap) (layL steps) := by
          have q1 := cell_kept hp4 (by simp) q0
          exact ⟨how3.trans0 hp4, hp4.cell hl3 (by simp), q1.1, q1.2, by omega, by omega, hr4, Only.refl _ _, by omega⟩
        refine (back_by w w4 _ _ _ fb _ steps hS hft.out h0).mono ?_
        rintro e w5 ⟨rfl, hR⟩
        refine ⟨⟨_, hR.o, by simp; omega, by simp; omega⟩, .inl ⟨[], rfl, hR.r, fun w6 hp6 => ⟨by simp, hp6.cell hR.okV (by simp; omega), ?_⟩⟩⟩
        have h45 : Only [] wr w5 := (hp3.trans0 hp4).trans hR.o (by simp) (by simp; omega)
        exact h45.trans hp6 (by simp) (by simp; omega)
      rintro e w4 ⟨rfl, hk4, hp4⟩
      have hB4 := hBr.kept0 hp4
      have hW4 := hwant.kept0 hp4
      obtain ⟨_, bva, bvc, rfl, _, _, _, _⟩ := id hB4
      go_wp2_with fail
      refine (same_eq _ _ _ _ hB4 hW4).mono ?_
      rintro e w5 ⟨rfl, hp5⟩
      go_wp2
      go_ret
      exact ⟨rfl, (howr.trans0 hp4).trans0 hp5⟩
end Go.Proofs.Ytcceiejfphokbaa.Sh
