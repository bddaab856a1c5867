/- TopRates: the field's tables, and a product. -/
import Derived.Test.YtejilfhoeljhkaaTrD
import Derived.StillTailTactics
import Derived.BigRegion
namespace Go.Proofs.Ytejilfhoeljhkaa.Sh
open Go Go.RowKit

/-- The powers of the maker. -/
def pw : Nat → Nat
  | 0 => 1
  | n + 1 => let y := pw n ^^^ (pw n <<< 1); if 256 ≤ y then y ^^^ 283 else y

theorem pw_step : ∀ x : Fin 256, (let y := x.val ^^^ (x.val <<< 1); y < 512 ∧ (if 256 ≤ y then y ^^^ 283 else y) < 256) := by decide +kernel
theorem pw_lt : ∀ n, pw n < 256
  | 0 => by decide
  | n + 1 => (pw_step ⟨pw n, pw_lt n⟩).2
theorem pw_2 : ∀ m : Fin 255, pw m = 2 → m.val = 25 := by decide +kernel
theorem pw_3 : ∀ m : Fin 255, pw m = 3 → m.val = 1 := by decide +kernel
theorem pw_25 : pw 25 = 2 := by decide +kernel
theorem pw_1 : pw 1 = 3 := by decide +kernel
theorem pw_26 : pw 26 = 6 := by decide +kernel

/-- The tables as they are while they are made. -/
def Tab (w : World) (b n : Nat) (E : Nat → UInt8) (L : Nat → Nat) : Prop :=
  (∀ m, m < 510 → w.cell? ⟨b, m, none⟩ = some (vU8 (E m)) ∧ w.frozen? ⟨b, m, none⟩ = false) ∧
  (∀ v, v < 256 → w.cell? ⟨b, 510 + v, none⟩ = some (.int .i64 (L v)) ∧ w.frozen? ⟨b, 510 + v, none⟩ = false) ∧
  (∀ v, L v ≤ 254) ∧ (25 < n → L 2 = 25) ∧ (1 < n → L 3 = 1) ∧ (∀ m, m < n → (E m).toNat = pw m)

theorem zero_field (w : World) : (zeroValue 47).run Try.prog w = .ok (.agg (Array.replicate 510 (.int .u8 0) ++ Array.replicate 256 (.int .i64 0))) w := by kernel_rfl

theorem Tab.start (w : World) (t : TypeId) : Tab (w.alloc (.cells (Array.replicate 510 (.int .u8 0) ++ Array.replicate 256 (.int .i64 0)) t)) w.heap.size 0 (fun _ => 0) (fun _ => 0) := by
  refine ⟨fun m hm => ⟨?_, ?_⟩, fun v hv => ⟨?_, ?_⟩, fun _ => Nat.zero_le _, fun h => by omega, fun h => by omega, fun m hm => by omega⟩
  · rw [World.cell?_alloc_new, Array.getElem?_append_left (by simpa using hm)]
    simp [hm]
  · simp [go_sem]
  · rw [World.cell?_alloc_new, Array.getElem?_append_right (by simp)]
    simp [hv]
  · simp [go_sem]

theorem Tab.step {w W : World} {b n : Nat} {E : Nat → UInt8} {L : Nat → Nat} (h : Tab w b n E L) (hn : n < 255) (x : UInt8) (hx : x.toNat = pw n)
    (h1 : W.cell? ⟨b, n, none⟩ = some (vU8 x)) (h2 : W.cell? ⟨b, n + 255, none⟩ = some (vU8 x)) (h3 : W.cell? ⟨b, 510 + pw n, none⟩ = some (.int .i64 n))
    (ho : ∀ o, o ≠ n → o ≠ n + 255 → o ≠ 510 + pw n → W.cell? ⟨b, o, none⟩ = w.cell? ⟨b, o, none⟩) (hf : ∀ o, W.frozen? ⟨b, o, none⟩ = w.frozen? ⟨b, o, none⟩) :
    ∃ E' L', Tab W b (n + 1) E' L' := by
  obtain ⟨t1, t2, t3, t4, t5, t6⟩ := h
  refine ⟨fun m => if m = n ∨ m = n + 255 then x else E m, fun v => if v = pw n then n else L v, fun m hm => ⟨?_, (hf m).trans (t1 m hm).2⟩, fun v hv => ⟨?_, (hf _).trans (t2 v hv).2⟩, fun v => ?_, fun h => ?_, fun h => ?_, fun m hm => ?_⟩
  · by_cases c1 : m = n
    · subst c1; simpa using h1
    · by_cases c2 : m = n + 255
      · subst c2; simpa using h2
      · simp only [c1, c2, or_self, if_false]
        exact (ho m c1 c2 (by omega)).trans (t1 m hm).1
  · by_cases c1 : v = pw n
    · subst c1; simpa using h3
    · simp only [c1, if_false]
      exact (ho _ (by omega) (by omega) (by omega)).trans (t2 v hv).1
  · show (if v = pw n then n else L v) ≤ 254
    have := t3 v
    split <;> omega
  · show (if 2 = pw n then n else L 2) = 25
    by_cases c : 2 = pw n
    · rw [if_pos c]; exact pw_2 ⟨n, hn⟩ c.symm
    · rw [if_neg c]
      refine t4 ?_
      rcases Nat.lt_or_ge 25 n with d | d
      · exact d
      · obtain rfl : n = 25 := by omega
        exact absurd pw_25.symm c
  · show (if 3 = pw n then n else L 3) = 1
    by_cases c : 3 = pw n
    · rw [if_pos c]; exact pw_3 ⟨n, hn⟩ c.symm
    · rw [if_neg c]
      refine t5 ?_
      rcases Nat.lt_or_ge 1 n with d | d
      · exact d
      · obtain rfl : n = 1 := by omega
        exact absurd pw_1.symm c
  · show (if m = n ∨ m = n + 255 then x else E m).toNat = pw m
    by_cases c : m = n
    · subst c; simpa using hx
    · have c2 : m ≠ n + 255 := by omega
      simp only [c, c2, or_self, if_false]
      exact t6 m (by omega)

theorem xor_i64 (a b : Nat) (ha : a < 1024) (hb : b < 1024) : bits .xor .i64 (a : Int) (b : Int) = ((a ^^^ b : Nat) : Int) := by
  have hx : a ^^^ b < 2 ^ 10 := Nat.xor_lt_two_pow (by omega) (by omega)
  have h1 : (BitVec.ofInt 64 (a : Int)).toNat = a := by
    rw [BitVec.ofInt_natCast, BitVec.toNat_ofNat]; exact Nat.mod_eq_of_lt (by omega)
  have h2 : (BitVec.ofInt 64 (b : Int)).toNat = b := by
    rw [BitVec.ofInt_natCast, BitVec.toNat_ofNat]; exact Nat.mod_eq_of_lt (by omega)
  show IntKind.i64.wrap ((BitVec.ofInt 64 (a : Int) ^^^ BitVec.ofInt 64 (b : Int)).toNat : Int) = _
  rw [BitVec.toNat_xor, h1, h2, IntKind.wrap_i64]
  omega

theorem pw_next (n : Nat) : ∃ y : Nat, y < 512 ∧ bits .xor .i64 (pw n : Int) ((pw n : Int) * 2) = (y : Int) ∧ bits .xor .i64 (y : Int) 283 = ((y ^^^ 283 : Nat) : Int) ∧ pw (n + 1) = if 256 ≤ y then y ^^^ 283 else y := by
  have h := pw_lt n
  obtain ⟨h1, _⟩ := pw_step ⟨pw n, h⟩
  refine ⟨pw n ^^^ (pw n <<< 1), h1, ?_, ?_, rfl⟩
  · have e : ((pw n <<< 1 : Nat) : Int) = (pw n : Int) * 2 := by rw [Nat.shiftLeft_eq]; omega
    have h2 := xor_i64 (pw n) (pw n <<< 1) (by omega) (by rw [Nat.shiftLeft_eq]; omega)
    rw [e] at h2
    exact h2
  · exact xor_i64 _ 283 (by have : (⟨pw n, h⟩ : Fin 256).val = pw n := rfl; simp only at h1; omega) (by omega)

set_option maxRecDepth 20000 in
set_option maxHeartbeats 1600000 in
theorem new_any (w : World) : Calls Try.prog 9 #[] w fun e w' => (∃ b E L, e = .returned (.pointer (some ⟨b, 0, none⟩)) ∧ w.heap.size ≤ b ∧ Tab w' b 255 E L) ∧ Only [] w w' := by
  obtain ⟨Z, hZ⟩ : ∃ Z, Z = Array.replicate 510 (Value.int .u8 0) ++ Array.replicate 256 (.int .i64 0) := ⟨_, rfl⟩
  have hz := zero_field
  have ht := fun (t : TypeId) => Tab.start w t
  rw [← hZ] at hz ht
  replace ht := hid ht
  clear hZ
  obtain ⟨w1, hw1⟩ : ∃ w1, w1 = w.alloc (Obj.cells Z 47) := ⟨_, rfl⟩
  have ht1 := ht.out 47
  have o1 : Only [] w w1 := by rw [hw1]; exact (Only.refl [] w).alloc _
  rw [← hw1] at ht1
  obtain ⟨b, hb⟩ : ∃ b, b = w.heap.size := ⟨_, rfl⟩
  rw [← hb] at ht1
  have hbw : w.heap.size ≤ b := by omega
  replace ht1 := hid ht1
  clear ht
  go_enter Try.func9, Try.ntmps9
  go_wp2
  rw [← hw1, ← hb]
  clear hw1 hb hz
  go_loopw [2, 6] (fun x i wr => ∃ (n : Nat) (E : Nat → UInt8) (L : Nat → Nat), n ≤ 255 ∧ i = .int .i64 n ∧ x = .int .i64 (pw n) ∧ Hid (Tab wr b n E L) ∧ Only [] w wr) (fun _ i _ => 255 - (intOf i).toNat)
  case atStart => exact ⟨0, _, _, by omega, rfl, rfl, ht1, o1⟩
  case round =>
    obtain ⟨n, E, L, hn, rfl, rfl, hT, ho⟩ := hrel
    have hp := pw_lt n
    by_cases hlt : n < 255
    · have c1 := (hT.out.1 n (by omega)).1
      have c2 := (hT.out.1 (n + 255) (by omega)).1
      have c3 := (hT.out.2.1 (pw n) hp).1
      have z1 := (hT.out.1 n (by omega)).2
      have z2 := (hT.out.1 (n + 255) (by omega)).2
      have z3 := (hT.out.2.1 (pw n) hp).2
      obtain ⟨e1, he1⟩ : ∃ e, e = E n := ⟨_, rfl⟩
      obtain ⟨e2, he2⟩ : ∃ e, e = E (n + 255) := ⟨_, rfl⟩
      obtain ⟨l1, hl1⟩ : ∃ e, e = L (pw n) := ⟨_, rfl⟩
      rw [← he1] at c1
      rw [← he2] at c2
      rw [← hl1] at c3
      clear he1 he2 hl1
      go_wp2_with fail
      go_region
      obtain ⟨W2, hW2⟩ : ∃ W2, W2 = ((wr.setCell { block := b, off := n } (Value.int IntKind.u8 ↑(pw n))).setCell { block := b, off := n + 255 } (Value.int IntKind.u8 ↑(pw n))).drew := ⟨_, rfl⟩
      rw [← hW2]
      have d3 : W2.cell? ⟨b, 510 + pw n, none⟩ = some (.int .i64 l1) := by
        rw [hW2]
        show ((wr.setCell { block := b, off := n } (Value.int IntKind.u8 ↑(pw n))).setCell { block := b, off := n + 255 } (Value.int IntKind.u8 ↑(pw n))).cell? _ = _
        rw [World.cell?_setCell_other _ _ _ _ (by intro e; have := congrArg Addr.off e; simp at this; omega), World.cell?_setCell_other _ _ _ _ (by intro e; have := congrArg Addr.off e; simp at this; omega)]
        exact c3
      have y3 : W2.frozen? ⟨b, 510 + pw n, none⟩ = false := by rw [hW2]; simpa [go_sem] using z3
      replace hW2 := hid hW2
      obtain ⟨y, hy1, hy2, hy3, hy4⟩ := pw_next n
      have hfin : Hid (∃ E' L', Tab (W2.setCell ⟨b, 510 + pw n, none⟩ (.int .i64 n)) b (n + 1) E' L') := by
        obtain ⟨X, hX⟩ := u8_of (z := (pw n : Int)) (by omega)
        refine hT.out.step hlt X (by omega) ?_ ?_ ?_ ?_ ?_
        · rw [World.cell?_setCell_other _ _ _ _ (by intro e; have := congrArg Addr.off e; simp at this; omega), hW2.out]
          show ((wr.setCell { block := b, off := n } (Value.int IntKind.u8 ↑(pw n))).setCell { block := b, off := n + 255 } (Value.int IntKind.u8 ↑(pw n))).cell? _ = _
          rw [World.cell?_setCell_other _ _ _ _ (by intro e; have := congrArg Addr.off e; simp at this), World.cell?_setCell_same' _ _ _ (by rw [(hT.out.1 n (by omega)).1]; rfl), hX]
        · rw [World.cell?_setCell_other _ _ _ _ (by intro e; have := congrArg Addr.off e; simp at this; omega), hW2.out]
          show ((wr.setCell { block := b, off := n } (Value.int IntKind.u8 ↑(pw n))).setCell { block := b, off := n + 255 } (Value.int IntKind.u8 ↑(pw n))).cell? _ = _
          rw [World.cell?_setCell_same' _ _ _ (by rw [World.cell?_setCell_other _ _ _ _ (by intro e; have := congrArg Addr.off e; simp at this), (hT.out.1 (n + 255) (by omega)).1]; rfl), hX]
        · rw [World.cell?_setCell_same' _ _ _ (by rw [d3]; rfl)]
        · intro o q1 q2 q3
          rw [World.cell?_setCell_other _ _ _ _ (by intro e; have := congrArg Addr.off e; simp at this; omega), hW2.out]
          show ((wr.setCell { block := b, off := n } (Value.int IntKind.u8 ↑(pw n))).setCell { block := b, off := n + 255 } (Value.int IntKind.u8 ↑(pw n))).cell? _ = _
          rw [World.cell?_setCell_other _ _ _ _ (by intro e; have := congrArg Addr.off e; simp at this; omega), World.cell?_setCell_other _ _ _ _ (by intro e; have := congrArg Addr.off e; simp at this; omega)]
        · intro o
          rw [hW2.out]
          simp [go_sem]
      have ho2 : Only [] w (W2.setCell ⟨b, 510 + pw n, none⟩ (.int .i64 n)) := by
        rw [hW2.out]
        exact (((ho.setCell (p := ⟨b, n, none⟩) (.inr hbw) _).setCell (p := ⟨b, n + 255, none⟩) (.inr hbw) _).drew).setCell (p := ⟨b, 510 + pw n, none⟩) (.inr hbw) _
      clear c1 c2 c3 z1 z2 z3
      by_cases hc : 256 ≤ y
      · rw [if_pos hc] at hy4
        replace hy4 := hid hy4
        go_wp2_with fail
        go_roundw
        case rel =>
          obtain ⟨E', L', hT'⟩ := hfin.out
          exact ⟨n + 1, E', L', by omega, by go_num, by rw [hy4.out], hid hT', ho2⟩
        case measure => simp [intOf]; omega
      · rw [if_neg hc] at hy4
        replace hy4 := hid hy4
        go_wp2_with fail
        go_roundw
        case rel =>
          obtain ⟨E', L', hT'⟩ := hfin.out
          exact ⟨n + 1, E', L', by omega, by go_num, by rw [hy4.out], hid hT', ho2⟩
        case measure => simp [intOf]; omega
    · obtain rfl : n = 255 := by omega
      go_wp2
      go_ret
      exact ⟨⟨b, E, L, rfl, hbw, hT.out⟩, ho⟩

/-- A field's tables, made. -/
def Fld (w : World) (b : Nat) : Prop := ∃ E L, Tab w b 255 E L

theorem Fld.kept {w w' : World} {b : Nat} (h : Fld w b) (ho : Only [] w w') : Fld w' b := by
  obtain ⟨E, L, t1, t2, t3, t4, t5, t6⟩ := h
  exact ⟨E, L, fun m hm => cell_kept ho (by simp) (t1 m hm), fun v hv => cell_kept ho (by simp) (t2 v hv), t3, t4, t5, t6⟩

theorem mul_any (w : World) (b : Nat) (x y : UInt8) (hf : Fld w b) : Calls Try.prog 11 #[.pointer (some ⟨b, 0, none⟩), vU8 x, vU8 y] w fun e w' => (∃ z : UInt8, e = .returned (vU8 z) ∧ (x = 2 → y = 3 → z = 6)) ∧ Only [] w w' := by
  obtain ⟨E, L, t1, t2, t3, t4, t5, t6⟩ := hf
  have hx := UInt8.toNat_lt x
  have hy := UInt8.toNat_lt y
  by_cases h0 : x = 0
  · subst h0
    have q1 : (((0 : UInt8).toNat : Int) == 0) = true := by decide
    clear t1 t2 t3 t4 t5 t6
    go_enter Try.func11, Try.ntmps11
    go_wp2
    go_ret
    exact ⟨⟨0, rfl, fun e => absurd e (by decide)⟩, Only.refl _ _⟩
  by_cases h1 : y = 0
  · subst h1
    have nx : x.toNat ≠ 0 := fun h => h0 (UInt8.toNat_inj.1 h)
    have q0 : ((x.toNat : Int) == 0) = false := by rw [beq_eq_false_iff_ne]; omega
    have q1 : (((0 : UInt8).toNat : Int) == 0) = true := by decide
    clear t1 t2 t3 t4 t5 t6
    go_enter Try.func11, Try.ntmps11
    go_wp2
    go_ret
    exact ⟨⟨0, rfl, fun _ e => absurd e (by decide)⟩, Only.refl _ _⟩
  · have nx : x.toNat ≠ 0 := fun h => h0 (UInt8.toNat_inj.1 h)
    have ny : y.toNat ≠ 0 := fun h => h1 (UInt8.toNat_inj.1 h)
    have q0 : ((x.toNat : Int) == 0) = false := by rw [beq_eq_false_iff_ne]; omega
    have q1 : ((y.toNat : Int) == 0) = false := by rw [beq_eq_false_iff_ne]; omega
    obtain ⟨lx, hlx⟩ : ∃ l, l = L x.toNat := ⟨_, rfl⟩
    obtain ⟨ly, hly⟩ : ∃ l, l = L y.toNat := ⟨_, rfl⟩
    have bx := t3 x.toNat
    have bY := t3 y.toNat
    have c1 := (t2 x.toNat (by omega)).1
    have c2 := (t2 y.toNat (by omega)).1
    have c3 := (t1 (lx + ly) (by omega)).1
    rw [← hlx] at c1 bx
    rw [← hly] at c2 bY
    obtain ⟨z, hz⟩ : ∃ z, z = E (lx + ly) := ⟨_, rfl⟩
    rw [← hz] at c3
    have hfin : Hid (x = 2 → y = 3 → z = 6) := by
      intro q1 q2
      subst q1
      subst q2
      have a1 := t4 (by omega)
      have a2 := t5 (by omega)
      have e1 : lx = 25 := hlx.trans a1
      have e2 : ly = 1 := hly.trans a2
      subst e1
      subst e2
      have := t6 26 (by omega)
      rw [pw_26] at this
      rw [hz]
      exact UInt8.toNat_inj.1 this
    clear hlx hly hz t1 t2 t3 t4 t5 t6 h0 h1
    go_enter Try.func11, Try.ntmps11
    go_wp2_with fail
    go_region
    go_wp2
    go_ret
    exact ⟨⟨z, rfl, hfin.out⟩, (Only.refl _ _).drew⟩
end Go.Proofs.Ytejilfhoeljhkaa.Sh
