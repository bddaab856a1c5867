/- TopRates: a secret of one byte, dealt to three. -/
import Derived.Test.YtejilfhoeljhkaaTrH
import Derived.Laws.MakeOwn
namespace Go.Proofs.Ytejilfhoeljhkaa.Sh
open Go Go.RowKit

theorem eval_bs (w : World) (fb : Nat) (x : UInt8) (cv : Value) (zs : List UInt8) (hf : Fld w fb) (hc : Bs w cv zs) (h1 : 0 < zs.length) (h2 : zs.length ≤ 4096) :
    Calls Try.prog 19 #[.pointer (some ⟨fb, 0, none⟩), cv, vU8 x] w fun e w' => (∃ z : UInt8, e = .returned (vU8 z)) ∧ Only [] w w' := by
  obtain ⟨b, o, cap, rfl, _, _, _, hr⟩ := hc.form h1
  refine eval_any w fb x b o zs.length cap zs hf h2 (fun j hj => ?_) ?_
  · have := hr j (vU8 zs[j]) (bytes_get hj)
    rw [this]
    simp [hj]
  · have := hr 0 (vU8 zs[0]) (bytes_get h1)
    exact lt_cell this

theorem make_three (w : World) : (Instr.makeSlice 32 (.int .i64 3) (.int .i64 3)).run Try.prog w = .ok (.slice (some ⟨w.heap.size, 0, none⟩) 3 3) (w.alloc (.cells #[.slice none 0 0, .slice none 0 0, .slice none 0 0] 36)) := by
  obtain ⟨i, hi, hz, hs, hb⟩ := info_parts (show (Try.prog.info? 36).map (fun i => (i.zero, i.size, i.bytes)) = some (some (.slice none 0 0), 1, 24) by kernel_rfl)
  have h := run_make (P := Try.prog) w 32 36 i (.slice none 0 0) Try.underlying32 hi hz .i64 .i64 3 3 (by omega) (Int.le_refl _) (by rw [hb]; omega) (by omega)
  rw [hs, show madeCells (Value.slice none 0 0).cells ((3 : Int).toNat * 1) = #[.slice none 0 0, .slice none 0 0, .slice none 0 0] by kernel_rfl] at h
  exact h

set_option maxRecDepth 20000 in
set_option maxHeartbeats 3200000 in
theorem deal_any (w : World) (fb sb cb : Nat) (s c : UInt8) (hf : Fld w fb) (hs : w.cell? ⟨sb, 0, none⟩ = some (vU8 s)) (hc : Bs w (.slice (some ⟨cb, 0, none⟩) 1 1) [c]) :
    Calls Try.prog 10 #[.pointer (some ⟨fb, 0, none⟩), .slice (some ⟨sb, 0, none⟩) 1 1, .slice (some ⟨cb, 0, none⟩) 1 1, .int .i64 2, .int .i64 3] w fun e w' => (∃ a cap, e = .returned (.tuple #[.slice a 3 cap, .int .i64 0])) ∧ Only [] w w' := by
  have hmk := make_three
  go_enter Try.func10, Try.ntmps10
  go_wp2_with fail
  refine (within_yes _ _ _ _ (by omega) (by omega)).mono ?_
  rintro e w' ⟨rfl, rfl⟩
  go_wp2_with fail
  refine (coins_12 _).mono ?_
  rintro e w' ⟨rfl, rfl⟩
  go_wp2_with fail
  obtain ⟨w3, hw3⟩ : ∃ w3, w3 = w'.alloc (.cells #[.slice none 0 0, .slice none 0 0, .slice none 0 0] 36) := ⟨_, rfl⟩
  obtain ⟨ob, hob⟩ : ∃ ob, ob = w'.heap.size := ⟨_, rfl⟩
  rw [← hw3, ← hob]
  have o3 : Only [] w' w3 := by rw [hw3]; exact (Only.refl [] w').alloc _
  have hob3 : ob < w3.heap.size := by rw [hw3, hob]; simp
  have n3 : ∀ q, q < 3 → w3.cell? ⟨ob, q, none⟩ = some (.slice none 0 0) ∧ w3.frozen? ⟨ob, q, none⟩ = false := by
    intro q hq
    rw [hw3, hob]
    constructor
    · rw [World.cell?_alloc_new]
      rcases (by omega : q = 0 ∨ q = 1 ∨ q = 2) with rfl | rfl | rfl <;> rfl
    · simp [go_sem]
  have hobw : w'.heap.size ≤ ob := by omega
  clear hw3 hob hmk
  go_loopw [42] (fun i wr => ∃ n : Nat, n ≤ 1 ∧ i = .int .i64 n ∧ (n = 0 → ∀ q, q < 3 → wr.cell? ⟨ob, q, none⟩ = some (.slice none 0 0) ∧ wr.frozen? ⟨ob, q, none⟩ = false) ∧ Only [ob] w3 wr) (fun i _ => 1 - (intOf i).toNat)
  case atStart => exact ⟨0, by omega, rfl, fun _ => n3, Only.refl _ _⟩
  case round =>
    obtain ⟨n, hn, rfl, hnil, ho⟩ := hrel
    have how : Only [] w' wr := o3.trans ho (by simp) (by simp; omega)
    by_cases hlt : n < 1
    · obtain rfl : n = 0 := by omega
      have hnil0 := hid (hnil rfl)
      clear hnil
      have sr := ho.size
      have hcu := hid (curve_any wr sb cb s c (how.cell hs (by simp)) (hc.kept0 how))
      go_wp2_with fail
      refine hcu.out.mono ?_
      rintro e w4 ⟨cv, rfl, hcv, hcb, o4⟩
      obtain ⟨ca, cc, rfl⟩ : ∃ a k, cv = .slice a 2 k := by obtain ⟨_, a, k, e, _⟩ := hcv; exact ⟨a, k, e⟩
      have hn4 := hid (fun q hq => cell_kept o4 (by simp) (hnil0.out q hq))
      have how4 := how.trans0 o4
      have ho4 : Only [ob] w3 w4 := ho.trans o4 (by simp) (by simp)
      have hcv0 := hid hcv
      have hcb0 := hid hcb
      clear hcu hcv hcb
      go_wp2_with fail
      go_loopw [51] (fun i wr => ∃ m : Nat, m ≤ 3 ∧ i = .int .i64 m ∧ (∀ q, m ≤ q → q < 3 → wr.cell? ⟨ob, q, none⟩ = some (.slice none 0 0) ∧ wr.frozen? ⟨ob, q, none⟩ = false) ∧ Only [ob] w4 wr) (fun i _ => 3 - (intOf i).toNat)
      case atStart => exact ⟨0, by omega, rfl, fun q _ hq => hn4.out q hq, Only.refl _ _⟩
      case round =>
        obtain ⟨m, hm, rfl, hnil, hoi⟩ := hrel
        have howr : Only [] w' wr := how4.trans hoi (by simp) (by have := how4.size; simp; omega)
        by_cases hlt3 : m < 3
        · obtain ⟨q0, q1⟩ := hnil m (Nat.le_refl _) hlt3
          have s4 := o4.size
          have si := hoi.size
          have hcw : Bs wr (.slice ca 2 cc) [s, c] := hcv0.out.kept hoi (fun k hk hm => by have := hcb0.out k hk; simp at hm; omega)
          obtain ⟨x, hx⟩ := u8_of (z := (m : Int) + 1) (by omega)
          have hev : Hid (∀ W, Only [] wr W → Calls Try.prog 19 #[.pointer (some ⟨fb, 0, none⟩), .slice ca 2 cc, .int .u8 (IntKind.u8.wrap (IntKind.i64.wrap ((m : Int) + 1)))] W fun e w' => (∃ z : UInt8, e = .returned (vU8 z)) ∧ Only [] W w') := by
            intro W h
            rw [show IntKind.u8.wrap (IntKind.i64.wrap ((m : Int) + 1)) = (m : Int) + 1 by rw [IntKind.wrap_i64, IntKind.wrap_u8]; omega, hx]
            exact eval_bs W fb x _ _ (hf.kept (howr.trans0 h)) (hcw.kept0 h) (by simp) (by simp)
          have hod : Only [] wr wr.drew := (Only.refl [] wr).drew
          have hnil0 := hid hnil
          have hobr : ob < wr.heap.size := by omega
          clear hnil hcw hx
          go_wp2_with fail
          go_region_law (first
            | (go_simp; go_at_call 19; ((with_reducible refine (hev.out _ hod).mono ?_); rintro e w5 ⟨⟨z, rfl⟩, hq5⟩; have hp5 : Only [] wr w5 := hod.trans0 hq5; have q5 := hp5.cell q0 (by simp); have hx5 : ob ≠ w5.heap.size := (by have := hp5.size; omega); have hx6 : ob < w5.heap.size := (by have := hp5.size; omega)))
            | ((refine step_app (by rfl) _ _ 36 (by rfl) wr.heap.size 5 1 1 el_u8 (by rfl) (World.ownsRow_nil _ _ _ _) (by rfl) (Cs.fresh (cs := [_]) rfl) (one1 rfl) (by omega) (by omega) (by have := hp5.size; simp; omega) ?_); intro v6 w6 own6 app6; have p6 : Only [] wr w6 := (hp5.alloc _).app app6 (fun i hi => by cases hi); obtain ⟨r6a, r6c, rfl⟩ := own_form own6; have q6 := p6.cell q0 (by simp); have y6 := frozen_kept p6 q0 (by simp) q1))
          all_goals
            have hx7 : Only [ob] w4 (w6.setCell ⟨ob, m, none⟩ (.slice r6a 1 r6c)) := (hoi.trans p6 (by simp) (by simp)).setCell (p := ⟨ob, m, none⟩) (.inl (by simp)) _
            have hx8 : Hid (∀ q, m + 1 ≤ q → q < 3 → (w6.setCell ⟨ob, m, none⟩ (.slice r6a 1 r6c)).cell? ⟨ob, q, none⟩ = some (.slice none 0 0) ∧ (w6.setCell ⟨ob, m, none⟩ (.slice r6a 1 r6c)).frozen? ⟨ob, q, none⟩ = false) := by
              intro q hq1 hq2
              have hk := cell_kept p6 (by simp) (hnil0.out q (by omega) hq2)
              constructor
              · rw [World.cell?_setCell_other _ _ _ _ (by intro e; have := congrArg Addr.off e; simp at this; omega)]
                exact hk.1
              · rw [World.frozen?_setCell]
                exact hk.2
            clear q0 q1 q5 q6 y6
            go_wp2_with fail
            go_roundw
            case rel => exact ⟨m + 1, by omega, by go_num, hx8.out, hx7⟩
            case measure => simp [intOf]; omega
        · obtain rfl : m = 3 := by omega
          have hfin : Only [ob] w3 wr := ho4.trans hoi (by simp) (by simp)
          go_wp2
          go_roundw
          case rel => exact ⟨1, by omega, by go_num, fun h => by omega, hfin⟩
          case measure => simp [intOf]
    · obtain rfl : n = 1 := by omega
      go_wp2
      go_ret2
      exact ⟨⟨_, _, rfl⟩, how⟩
end Go.Proofs.Ytejilfhoeljhkaa.Sh
