/- TopRates: the functions of floats. -/
import Derived.Test.YtejilfhoeljhkaaTrD
import Derived.Test.YtejilfhoeljhkaaTrC
namespace Go.Proofs.Ytejilfhoeljhkaa.Sh
open Go Go.RowKit

theorem fl_eq (a : Nat) : floatOfInt .f64 (a : Int) = Ieee.double.nearest false a 0 := by
  unfold floatOfInt FloatKind.nearest FloatKind.encode FloatKind.format Ieee.Format.write
  simp only [Int.natAbs_natCast]
  exact congrArg (fun b => Ieee.double.nearest b a 0) (decide_eq_false (by omega))

theorem rate_any (w : World) (a i p : Nat) (hp : Ieee.double.div (Ieee.double.nearest false a 0) (Ieee.double.nearest false i 0) = some p) :
    Calls Try.prog 6 #[.int .u64 a, .int .i64 i] w fun e w' => e = .returned (.float .f64 p) ∧ w' = w := by
  have f1 := fl_eq a
  have f2 := fl_eq i
  obtain ⟨x, hx⟩ : ∃ x, x = Ieee.double.nearest false a 0 := ⟨_, rfl⟩
  obtain ⟨y, hy⟩ : ∃ y, y = Ieee.double.nearest false i 0 := ⟨_, rfl⟩
  rw [← hx] at f1 hp
  rw [← hy] at f2 hp
  have hq := fun (W : World) => run_float_arith (P := Try.prog) W .quo 26 .f64 x y p hp
  clear hx hy hp
  go_enter Try.func6, Try.ntmps6
  go_wp2
  go_ret
  exact ⟨rfl, rfl⟩

theorem isNaN_any (w : World) (p : Nat) (hp : FloatKind.f64.format.order p p = some .eq) : Calls Try.prog 22 #[.float .f64 p] w fun e w' => e = .returned (.bool false) ∧ w' = w := by
  go_enter Try.func22, Try.ntmps22
  go_wp2
  go_ret
  exact ⟨rfl, rfl⟩

theorem run_bits (p : Nat) (W : World) : (callFunc 27 #[.float .f64 p]).run Try.prog W = .ok (.value (.int .u64 p)) W := by
  rw [run_callFunc_extern Try.func27 (by kernel_rfl) (by kernel_rfl) (by kernel_rfl) (e := Extern.MathFloatBits.float64bits) (by kernel_rfl)]
  rfl

theorem signbit_any (w : World) (p : Nat) (hp : p < 9223372036854775808) : Calls Try.prog 23 #[.float .f64 p] w fun e w' => e = .returned (.bool false) ∧ w' = w := by
  have hb := fun W => run_bits p W
  go_enter Try.func23, Try.ntmps23
  go_wp2
  go_ret
  exact ⟨rfl, rfl⟩

/-- An order as a number. -/
def ordInt : Ordering → Int
  | .lt => -1
  | .eq => 0
  | .gt => 1

theorem scompare_any (w : World) (p q : Nat) (o : Ordering) (hp : FloatKind.f64.format.order p p = some .eq) (hq : FloatKind.f64.format.order q q = some .eq) (ho : FloatKind.f64.format.order p q = some o) (hp1 : p < 9223372036854775808) (hq1 : q < 9223372036854775808) :
    Calls Try.prog 15 #[.float .f64 p, .float .f64 q] w fun e w' => e = .returned (.int .i64 (ordInt o)) ∧ w' = w := by
  replace hp := hid hp
  replace hq := hid hq
  go_enter Try.func15, Try.ntmps15
  go_wp2_with fail
  refine (isNaN_any _ _ hp.out).mono ?_
  rintro e w' ⟨rfl, rfl⟩
  go_wp2_with fail
  refine (isNaN_any _ _ hp.out).mono ?_
  rintro e w' ⟨rfl, rfl⟩
  go_wp2_with fail
  refine (isNaN_any _ _ hq.out).mono ?_
  rintro e w' ⟨rfl, rfl⟩
  cases o with
  | lt =>
    go_wp2
    go_ret
    exact ⟨rfl, rfl⟩
  | gt =>
    go_wp2
    go_ret
    exact ⟨rfl, rfl⟩
  | eq =>
    go_wp2_with fail
    refine (signbit_any _ _ hp1).mono ?_
    rintro e w' ⟨rfl, rfl⟩
    go_wp2_with fail
    refine (signbit_any _ _ hq1).mono ?_
    rintro e w' ⟨rfl, rfl⟩
    go_wp2
    go_ret
    exact ⟨rfl, rfl⟩

theorem less_any (w : World) (p q : Nat) (o : Ordering) (hp : FloatKind.f64.format.order p p = some .eq) (hq : FloatKind.f64.format.order q q = some .eq) (ho : FloatKind.f64.format.order p q = some o) (hp1 : p < 9223372036854775808) (hq1 : q < 9223372036854775808) :
    Calls Try.prog 7 #[.float .f64 p, .float .f64 q] w fun e w' => e = .returned (.bool (o == .lt)) ∧ w' = w := by
  have hc := hid (scompare_any w p q o hp hq ho hp1 hq1)
  clear hp hq ho
  go_enter Try.func7, Try.ntmps7
  go_wp2_with fail
  refine hc.out.mono ?_
  rintro e w' ⟨rfl, rfl⟩
  clear hc
  cases o <;> simp only [ordInt] <;> go_wp2 <;> go_ret <;> exact ⟨rfl, rfl⟩

theorem same_any (w : World) (p q : Nat) (o : Ordering) (hp : FloatKind.f64.format.order p p = some .eq) (hq : FloatKind.f64.format.order q q = some .eq) (ho : FloatKind.f64.format.order p q = some o) (hp1 : p < 9223372036854775808) (hq1 : q < 9223372036854775808) :
    Calls Try.prog 8 #[.float .f64 p, .float .f64 q] w fun e w' => e = .returned (.bool (o == .eq)) ∧ w' = w := by
  have hc := hid (scompare_any w p q o hp hq ho hp1 hq1)
  clear hp hq ho
  go_enter Try.func8, Try.ntmps8
  go_wp2_with fail
  refine hc.out.mono ?_
  rintro e w' ⟨rfl, rfl⟩
  clear hc
  cases o <;> simp only [ordInt] <;> go_wp2 <;> go_ret <;> exact ⟨rfl, rfl⟩
end Go.Proofs.Ytejilfhoeljhkaa.Sh
