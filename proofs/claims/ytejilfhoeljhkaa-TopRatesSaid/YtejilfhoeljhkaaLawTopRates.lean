/- Of two fees for some bytes the one that is more for each byte never has the lesser rate, and with one of the same for each byte it has the same: the law's walk. -/
import Derived.Test.YtejilfhoeljhkaaTrJ
import Derived.Test.YtejilfhoeljhkaaRead
namespace Go.Proofs.Ytejilfhoeljhkaa.Sh
open Go Go.RowKit

set_option maxRecDepth 20000 in
set_option maxHeartbeats 1600000 in
theorem topRates_mid (w : World) (a b x y : Nat) (ha : a < 4294967296) (hb : b < 4294967296) (hx : x < 256) (hy : y < 256) :
    Calls Try.prog 3 #[.int .u32 a, .int .u32 b, .int .u8 x, .int .u8 y] w fun e w' => e = .returned (.bool true) ∧ Only [] w w' := by
  have ex : ((x + 1 : Nat) : Int) = (x : Int) + 1 := by omega
  have ey : ((y + 1 : Nat) : Int) = (y : Int) + 1 := by omega
  obtain ⟨p, hp, hp2⟩ := rate_ok (a := a) (i := x + 1) (by omega) (by omega) (by omega)
  obtain ⟨q, hq, hq2⟩ := rate_ok (a := b) (i := y + 1) (by omega) (by omega) (by omega)
  have m1 := fun h => rate_mono (a := a) (b := b) (i := x + 1) (j := y + 1) (by omega) (by omega) (by omega) (by omega) (by omega) (by omega) hp hq h
  have m2 := fun h => rate_mono (a := b) (b := a) (i := y + 1) (j := x + 1) (by omega) (by omega) (by omega) (by omega) (by omega) (by omega) hq hp h
  have hr := fun W => rank_any W a (x + 1) b (y + 1) ha hb (by omega) (by omega) (by omega) (by omega)
  have hR1 := fun W => rate_any W a (x + 1) p hp
  have hR2 := fun W => rate_any W b (y + 1) q hq
  rw [ex, ey] at hr
  rw [ex] at hR1
  rw [ey] at hR2
  have pp : FloatKind.f64.format.order p p = some .eq := order_self hp2
  have qq : FloatKind.f64.format.order q q = some .eq := order_self hq2
  have hp3 : p < 9223372036854775808 := by omega
  have hq3 : q < 9223372036854775808 := by omega
  replace hR1 := hid hR1
  replace hR2 := hid hR2
  clear ex ey hp hq
  rcases Nat.lt_trichotomy (a * (y + 1)) (b * (x + 1)) with h | h | h
  · -- the other one is more for each byte
    have hs : sgn (a * (y + 1)) (b * (x + 1)) = -1 := by simp [sgn, h]
    rw [hs] at hr
    replace hr := hid hr
    have hle := m1 (by omega)
    have hL : Hid (∀ W, Calls Try.prog 7 #[.float .f64 q, .float .f64 p] W fun e w' => e = .returned (.bool false) ∧ w' = W) := by
      intro W
      rcases order_ge hp2 hq2 hle with o | o
      · exact less_any W q p _ qq pp o hq3 hp3
      · exact less_any W q p _ qq pp o hq3 hp3
    clear hs m1 m2 pp qq h hle hp2 hq2 hp3 hq3
    go_enter Try.func3, Try.ntmps3
    go_wp2_with fail
    refine (awake_top w).mono ?_
    rintro e w1 ⟨rfl, o1⟩
    go_wp2_with fail
    refine (hr.out _).mono ?_
    rintro e w2 ⟨rfl, o2⟩
    go_wp2_with fail
    refine (hR1.out _).mono ?_
    rintro e w' ⟨rfl, rfl⟩
    go_wp2_with fail
    refine (hR2.out _).mono ?_
    rintro e w' ⟨rfl, rfl⟩
    go_wp2_with fail
    refine (hL.out _).mono ?_
    rintro e w' ⟨rfl, rfl⟩
    go_wp2
    go_ret
    exact ⟨rfl, o1.trans0 o2⟩
  · -- one of the same
    have hs : sgn (a * (y + 1)) (b * (x + 1)) = 0 := by simp [sgn, h]
    rw [hs] at hr
    replace hr := hid hr
    have hle := m1 (by omega)
    have hge := m2 (by omega)
    have hL : Hid (∀ W, Calls Try.prog 8 #[.float .f64 p, .float .f64 q] W fun e w' => e = .returned (.bool true) ∧ w' = W) := by
      intro W
      obtain rfl : p = q := Nat.le_antisymm hle hge
      exact same_any W p p _ pp qq pp hp3 hq3
    clear hs m1 m2 pp qq h hle hge hp2 hq2 hp3 hq3
    go_enter Try.func3, Try.ntmps3
    go_wp2_with fail
    refine (awake_top w).mono ?_
    rintro e w1 ⟨rfl, o1⟩
    go_wp2_with fail
    refine (hr.out _).mono ?_
    rintro e w2 ⟨rfl, o2⟩
    go_wp2_with fail
    refine (hR1.out _).mono ?_
    rintro e w' ⟨rfl, rfl⟩
    go_wp2_with fail
    refine (hR2.out _).mono ?_
    rintro e w' ⟨rfl, rfl⟩
    go_wp2_with fail
    refine (hL.out _).mono ?_
    rintro e w' ⟨rfl, rfl⟩
    go_wp2
    go_ret
    exact ⟨rfl, o1.trans0 o2⟩
  · -- the first one is more for each byte
    have hs : sgn (a * (y + 1)) (b * (x + 1)) = 1 := by
      have h' : ¬ a * (y + 1) < b * (x + 1) := by omega
      simp [sgn, h, h']
    rw [hs] at hr
    replace hr := hid hr
    have hge := m2 (by omega)
    have hL : Hid (∀ W, Calls Try.prog 7 #[.float .f64 p, .float .f64 q] W fun e w' => e = .returned (.bool false) ∧ w' = W) := by
      intro W
      rcases order_ge hq2 hp2 hge with o | o
      · exact less_any W p q _ pp qq o hp3 hq3
      · exact less_any W p q _ pp qq o hp3 hq3
    clear hs m1 m2 pp qq h hge hp2 hq2 hp3 hq3
    go_enter Try.func3, Try.ntmps3
    go_wp2_with fail
    refine (awake_top w).mono ?_
    rintro e w1 ⟨rfl, o1⟩
    go_wp2_with fail
    refine (hr.out _).mono ?_
    rintro e w2 ⟨rfl, o2⟩
    go_wp2_with fail
    refine (hR1.out _).mono ?_
    rintro e w' ⟨rfl, rfl⟩
    go_wp2_with fail
    refine (hR2.out _).mono ?_
    rintro e w' ⟨rfl, rfl⟩
    go_wp2_with fail
    refine (hL.out _).mono ?_
    rintro e w' ⟨rfl, rfl⟩
    go_wp2
    go_ret
    exact ⟨rfl, o1.trans0 o2⟩

theorem wf_u32_top {n : Int} (h : (Lit.int .u32 n).wf = true) : 0 ≤ n ∧ n < 4294967296 := by
  simp only [Lit.wf, Bool.and_eq_true, decide_eq_true_eq] at h
  have h1 : IntKind.u32.min = 0 := rfl
  have h2 : IntKind.u32.max = 4294967295 := rfl
  omega

theorem topRates_walk (w : World) {a b x y : Int} (ha : (Lit.int .u32 a).wf = true) (hb : (Lit.int .u32 b).wf = true) (hx : (Lit.int .u8 x).wf = true) (hy : (Lit.int .u8 y).wf = true) :
    Calls Try.prog 3 #[.int .u32 a, .int .u32 b, .int .u8 x, .int .u8 y] w fun e w' => e = .returned (.bool true) ∧ Only [] w w' := by
  obtain ⟨a1, a2⟩ := wf_u32_top ha
  obtain ⟨b1, b2⟩ := wf_u32_top hb
  obtain ⟨x1, x2⟩ := wf_u8_bound hx
  obtain ⟨y1, y2⟩ := wf_u8_bound hy
  obtain ⟨a', rfl⟩ := Int.eq_ofNat_of_zero_le a1
  obtain ⟨b', rfl⟩ := Int.eq_ofNat_of_zero_le b1
  obtain ⟨x', rfl⟩ := Int.eq_ofNat_of_zero_le x1
  obtain ⟨y', rfl⟩ := Int.eq_ofNat_of_zero_le y1
  exact topRates_mid w a' b' x' y' (by omega) (by omega) (by omega) (by omega)
end Go.Proofs.Ytejilfhoeljhkaa.Sh
