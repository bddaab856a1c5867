/- The document's ledger in memory; its calls: walked. -/
import Derived.Test.YtiinfiaemiaamaaLedF
namespace Go.Proofs.Ytiinfiaemiaamaa.Sh
open Go Go.RowKit

/-- Numbers, one behind the other, in a block. -/
def Arr (w : World) (b k : Nat) (g : Nat → Nat) : Prop := ∀ i, i < k → w.cell? ⟨b, i, none⟩ = some (u64 (g i)) ∧ w.frozen? ⟨b, i, none⟩ = false
theorem Arr.kept {w w' : World} {b k : Nat} {g : Nat → Nat} (h : Arr w b k g) {bs : List Nat} (ho : Only bs w w') (hn : b ∉ bs) : Arr w' b k g := fun i hi => cell_kept ho hn (h i hi)
theorem Arr.set {w : World} {b k : Nat} {g : Nat → Nat} (h : Arr w b k g) {a y : Nat} {z : Int} (ha : a < k) (hz : z = (y : Int)) : Arr (w.setCell ⟨b, a, none⟩ (.int .u64 z)) b k (upd g a y) := by
  subst hz
  intro i hi
  by_cases e : i = a
  · subst e
    rw [upd_same]
    exact ⟨World.cell?_setCell_same w _ _ (h i hi).1, by simpa [go_sem] using (h i hi).2⟩
  · rw [upd_other _ _ e]
    exact set_cell _ (h a ha) (h i hi) (by simp only [ne_eq, Addr.mk.injEq]; omega)
/-- A field that leads to such a block. -/
def Fld (w : World) (y o b k : Nat) : Prop := ∃ c, w.cell? ⟨y, o, none⟩ = some (.slice (some ⟨b, 0, none⟩) k c) ∧ k ≤ c ∧ c ≤ maxLen
theorem Fld.kept {w w' : World} {y o b k : Nat} (h : Fld w y o b k) {bs : List Nat} (ho : Only bs w w') (hn : y ∉ bs) : Fld w' y o b k := by
  obtain ⟨c, h1, h2⟩ := h
  exact ⟨c, ho.cell h1 hn, h2⟩

structure RLed (w : World) (y b1 b2 b3 b4 : Nat) (m : Lm) : Prop where
  s1 : Fld w y 0 b1 m.k
  s2 : Fld w y 1 b2 m.k
  s3 : Fld w y 2 b3 m.k
  s4 : Fld w y 3 b4 m.k
  st : w.cell? ⟨y, 4, none⟩ = some (u64 m.t) ∧ w.frozen? ⟨y, 4, none⟩ = false
  c1 : Arr w b1 m.k m.b
  c2 : Arr w b2 m.k m.n
  c3 : Arr w b3 m.k m.f
  c4 : Arr w b4 m.k m.d
  ne : (y ≠ b1 ∧ y ≠ b2 ∧ y ≠ b3 ∧ y ≠ b4) ∧ (b1 ≠ b2 ∧ b1 ≠ b3 ∧ b1 ≠ b4) ∧ (b2 ≠ b3 ∧ b2 ≠ b4) ∧ b3 ≠ b4

section
variable {w w' : World} {y b1 b2 b3 b4 : Nat} {m : Lm}
theorem RLed.kept (h : RLed w y b1 b2 b3 b4 m) {bs : List Nat} (ho : Only bs w w') (hn : y ∉ bs ∧ b1 ∉ bs ∧ b2 ∉ bs ∧ b3 ∉ bs ∧ b4 ∉ bs) : RLed w' y b1 b2 b3 b4 m :=
  ⟨h.s1.kept ho hn.1, h.s2.kept ho hn.1, h.s3.kept ho hn.1, h.s4.kept ho hn.1, cell_kept ho hn.1 h.st, h.c1.kept ho hn.2.1, h.c2.kept ho hn.2.2.1, h.c3.kept ho hn.2.2.2.1, h.c4.kept ho hn.2.2.2.2, h.ne⟩
theorem RLed.kept0 (h : RLed w y b1 b2 b3 b4 m) (ho : Only [] w w') : RLed w' y b1 b2 b3 b4 m := h.kept ho (by simp)
theorem RLed.drew (h : RLed w y b1 b2 b3 b4 m) : RLed w.drew y b1 b2 b3 b4 m := h.kept0 (Only.refl [] w).drew
theorem RLed.lt (h : RLed w y b1 b2 b3 b4 m) : y < w.heap.size := lt_cell h.st.1
theorem RLed.ltA (h : RLed w y b1 b2 b3 b4 m) (hk : 0 < m.k) : b1 < w.heap.size ∧ b2 < w.heap.size ∧ b3 < w.heap.size ∧ b4 < w.heap.size :=
  ⟨lt_cell (h.c1 0 hk).1, lt_cell (h.c2 0 hk).1, lt_cell (h.c3 0 hk).1, lt_cell (h.c4 0 hk).1⟩
theorem RLed.setB (h : RLed w y b1 b2 b3 b4 m) {a x : Nat} {z : Int} (ha : a < m.k) (hz : z = (x : Int)) : RLed (w.setCell ⟨b1, a, none⟩ (.int .u64 z)) y b1 b2 b3 b4 { m with b := upd m.b a x } := by
  obtain ⟨⟨n1, n2, n3, n4⟩, ⟨n5, n6, n7⟩, ⟨n8, n9⟩, n10⟩ := h.ne
  have ho : Only [b1] w (w.setCell ⟨b1, a, none⟩ (.int .u64 z)) := (Only.refl [b1] w).setCell (.inl (by simp)) _
  exact ⟨h.s1.kept ho (by simp; omega), h.s2.kept ho (by simp; omega), h.s3.kept ho (by simp; omega), h.s4.kept ho (by simp; omega), cell_kept ho (by simp; omega) h.st, h.c1.set ha hz, h.c2.kept ho (by simp; omega), h.c3.kept ho (by simp; omega), h.c4.kept ho (by simp; omega), h.ne⟩
theorem RLed.setN (h : RLed w y b1 b2 b3 b4 m) {a x : Nat} {z : Int} (ha : a < m.k) (hz : z = (x : Int)) : RLed (w.setCell ⟨b2, a, none⟩ (.int .u64 z)) y b1 b2 b3 b4 { m with n := upd m.n a x } := by
  obtain ⟨⟨n1, n2, n3, n4⟩, ⟨n5, n6, n7⟩, ⟨n8, n9⟩, n10⟩ := h.ne
  have ho : Only [b2] w (w.setCell ⟨b2, a, none⟩ (.int .u64 z)) := (Only.refl [b2] w).setCell (.inl (by simp)) _
  exact ⟨h.s1.kept ho (by simp; omega), h.s2.kept ho (by simp; omega), h.s3.kept ho (by simp; omega), h.s4.kept ho (by simp; omega), cell_kept ho (by simp; omega) h.st, h.c1.kept ho (by simp; omega), h.c2.set ha hz, h.c3.kept ho (by simp; omega), h.c4.kept ho (by simp; omega), h.ne⟩
theorem RLed.setF (h : RLed w y b1 b2 b3 b4 m) {a x : Nat} {z : Int} (ha : a < m.k) (hz : z = (x : Int)) : RLed (w.setCell ⟨b3, a, none⟩ (.int .u64 z)) y b1 b2 b3 b4 { m with f := upd m.f a x } := by
  obtain ⟨⟨n1, n2, n3, n4⟩, ⟨n5, n6, n7⟩, ⟨n8, n9⟩, n10⟩ := h.ne
  have ho : Only [b3] w (w.setCell ⟨b3, a, none⟩ (.int .u64 z)) := (Only.refl [b3] w).setCell (.inl (by simp)) _
  exact ⟨h.s1.kept ho (by simp; omega), h.s2.kept ho (by simp; omega), h.s3.kept ho (by simp; omega), h.s4.kept ho (by simp; omega), cell_kept ho (by simp; omega) h.st, h.c1.kept ho (by simp; omega), h.c2.kept ho (by simp; omega), h.c3.set ha hz, h.c4.kept ho (by simp; omega), h.ne⟩
theorem RLed.setD (h : RLed w y b1 b2 b3 b4 m) {a x : Nat} {z : Int} (ha : a < m.k) (hz : z = (x : Int)) : RLed (w.setCell ⟨b4, a, none⟩ (.int .u64 z)) y b1 b2 b3 b4 { m with d := upd m.d a x } := by
  obtain ⟨⟨n1, n2, n3, n4⟩, ⟨n5, n6, n7⟩, ⟨n8, n9⟩, n10⟩ := h.ne
  have ho : Only [b4] w (w.setCell ⟨b4, a, none⟩ (.int .u64 z)) := (Only.refl [b4] w).setCell (.inl (by simp)) _
  exact ⟨h.s1.kept ho (by simp; omega), h.s2.kept ho (by simp; omega), h.s3.kept ho (by simp; omega), h.s4.kept ho (by simp; omega), cell_kept ho (by simp; omega) h.st, h.c1.kept ho (by simp; omega), h.c2.kept ho (by simp; omega), h.c3.kept ho (by simp; omega), h.c4.set ha hz, h.ne⟩
theorem RLed.setT (h : RLed w y b1 b2 b3 b4 m) {x : Nat} {z : Int} (hz : z = (x : Int)) : RLed (w.setCell ⟨y, 4, none⟩ (.int .u64 z)) y b1 b2 b3 b4 { m with t := x } := by
  subst hz
  obtain ⟨⟨n1, n2, n3, n4⟩, ⟨n5, n6, n7⟩, ⟨n8, n9⟩, n10⟩ := h.ne
  have ho : Only [y] w (w.setCell ⟨y, 4, none⟩ (.int .u64 (x : Int))) := (Only.refl [y] w).setCell (.inl (by simp)) _
  have hf : ∀ o b, o < 4 → Fld w y o b m.k → Fld (w.setCell ⟨y, 4, none⟩ (.int .u64 (x : Int))) y o b m.k := by
    intro o b ho4 ⟨c, h1, h2⟩
    exact ⟨c, by rw [World.cell?_setCell_other _ _ _ _ (by simp only [ne_eq, Addr.mk.injEq]; omega)]; exact h1, h2⟩
  exact ⟨hf 0 _ (by omega) h.s1, hf 1 _ (by omega) h.s2, hf 2 _ (by omega) h.s3, hf 3 _ (by omega) h.s4, ⟨World.cell?_setCell_same w _ _ h.st.1, by simpa [go_sem] using h.st.2⟩, h.c1.kept ho (by simp; omega), h.c2.kept ho (by simp; omega), h.c3.kept ho (by simp; omega), h.c4.kept ho (by simp; omega), h.ne⟩
end

theorem ris_yes (w : World) (y b1 b2 b3 b4 : Nat) (m : Lm) (h : RLed w y b1 b2 b3 b4 m) (hk : m.k ≤ 6) (a : Nat) (ha : a < m.k) :
    Calls Try.prog 66 #[.pointer (some ⟨y, 0, none⟩), .int .i64 (a : Int)] w fun e w' => e = .returned (.bool true) ∧ w' = w := by
  obtain ⟨c, a1, a2, a3⟩ := h.s1
  go_enter Try.func66, Try.ntmps66
  go_wp2
  go_ret
  exact ⟨by first | rfl | simp [ha], rfl⟩
theorem ris_no (w : World) (y b1 b2 b3 b4 : Nat) (m : Lm) (h : RLed w y b1 b2 b3 b4 m) (hk : m.k ≤ 6) (who : Int) (hw : ¬ m.is who) :
    Calls Try.prog 66 #[.pointer (some ⟨y, 0, none⟩), .int .i64 who] w fun e w' => e = .returned (.bool false) ∧ w' = w := by
  obtain ⟨c, a1, a2, a3⟩ := h.s1
  unfold Lm.is at hw
  by_cases h0 : who < 0
  · go_enter Try.func66, Try.ntmps66
    go_wp2
    go_ret
    exact ⟨by first | rfl | (simp; omega), rfl⟩
  · have h1 : (m.k : Int) ≤ who := by omega
    have h2 : 0 ≤ who := by omega
    have h3 : decide (who < (m.k : Int)) = false := by simp; omega
    clear hw
    go_enter Try.func66, Try.ntmps66
    go_wp2
    go_ret
    exact ⟨by first | rfl | (simp; omega), rfl⟩

def RPost (w : World) (y b1 b2 b3 b4 : Nat) (r : Nat × Lm) (e : Ending) (w' : World) : Prop :=
  e = .returned (.int .i64 (r.1 : Int)) ∧ RLed w' y b1 b2 b3 b4 r.2 ∧ Only [y, b1, b2, b3, b4] w w'

set_option maxRecDepth 20000 in
set_option maxHeartbeats 3200000 in
theorem rhold_any (w : World) (y b1 b2 b3 b4 T : Nat) (m : Lm) (h : RLed w y b1 b2 b3 b4 m) (hi : LInv T m) (who : Int) (fee : Nat) (hfee : fee < 18446744073709551616) :
    Calls Try.prog 62 #[.pointer (some ⟨y, 0, none⟩), .int .i64 who, .int .u64 fee] w (RPost w y b1 b2 b3 b4 (holdE m who fee)) := by
  have hk := hi.few.2
  unfold holdE
  by_cases hw : m.is who
  · obtain ⟨ha, hae⟩ := is_nat hw
    rw [if_pos hw]
    obtain ⟨a, haa⟩ : ∃ a, a = who.toNat := ⟨_, rfl⟩
    rw [← haa] at ha hae ⊢
    subst hae
    have hof := hid (ris_yes w y b1 b2 b3 b4 m h hk a ha)
    obtain ⟨d1, d2⟩ := h.c1 a ha
    obtain ⟨k1, s1, s2, s3⟩ := h.s1
    obtain ⟨q1, q2, q3, q4⟩ := hi.bounds a ha
    have hcap := hi.cap
    obtain ⟨B, hB⟩ : ∃ B, B = m.b a := ⟨_, rfl⟩
    obtain ⟨F, hF⟩ : ∃ F, F = m.f a := ⟨_, rfl⟩
    obtain ⟨D, hD⟩ : ∃ D, D = m.d a := ⟨_, rfl⟩
    simp only [u64] at d1
    rw [← hB] at d1 q1 q4 ⊢
    rw [← hF] at q2 q4
    rw [← hD] at q3 q4
    have HF := hid hF.symm
    have HD := hid hD.symm
    have HB := hid hB.symm
    clear haa hw
    by_cases hbad : B < 50 ∨ B - 50 < fee
    · rw [if_pos hbad]
      have hpost : Hid (RPost w y b1 b2 b3 b4 (9, m) (.returned (.int .i64 9)) w) := ⟨rfl, h, Only.refl _ _⟩
      clear hi hB hF hD
      by_cases h50 : B < 50
      · clear hbad
        go_enter Try.func62, Try.ntmps62
        go_wp2_with fail
        refine hof.out.mono ?_
        rintro e w' ⟨rfl, rfl⟩
        go_wp2
        go_ret
        exact hpost
      · have hlt : B - 50 < fee := by omega
        have hsub : IntKind.u64.wrap ((B : Int) - 50) = ((B - 50 : Nat) : Int) := by rw [IntKind.wrap_u64]; omega
        clear hbad
        go_enter Try.func62, Try.ntmps62
        go_wp2_with fail
        refine hof.out.mono ?_
        rintro e w' ⟨rfl, rfl⟩
        go_wp2
        go_ret
        exact hpost
    · rw [if_neg hbad]
      have hlo : fee + 50 ≤ B := by omega
      have h50 : ¬ B < 50 := by omega
      have hnl : ¬ B - 50 < fee := by omega
      have hsub : IntKind.u64.wrap ((B : Int) - 50) = ((B - 50 : Nat) : Int) := by rw [IntKind.wrap_u64]; omega
      have hms : Hid (({ m with b := upd m.b a (B - fee - 50), f := upd m.f a (F + fee), d := upd m.d a (D + 50) } : Lm) = m.hold a fee) := by show _ = _; rw [hF, hD, hB]; rfl
      clear hbad hi hB hF hD
      go_enter Try.func62, Try.ntmps62
      go_wp2_with fail
      refine hof.out.mono ?_
      rintro e w' ⟨rfl, rfl⟩
      go_wp2_with fail
      clear hsub d1 d2 s1 s2 s3
      obtain ⟨e1, e2⟩ := h.c1 a ha
      obtain ⟨kk, s4, s5, s6⟩ := h.s1
      simp only [u64] at e1 s4 s5
      rw [HB.out] at e1
      have hx0 : IntKind.u64.wrap ((B : Int) - (fee : Int)) = (B : Int) - (fee : Int) := by rw [IntKind.wrap_u64]; omega
      have hx1 : IntKind.u64.wrap ((B : Int) - (fee : Int) - 50) = (B : Int) - (fee : Int) - 50 := by rw [IntKind.wrap_u64]; omega
      go_still_tail 16, (by kernel_rfl)
      change wpList _ _ _ _ _ w'.drew
      clear hx0 hx1
      go_wp2_with fail
      obtain ⟨w2, hw9⟩ : ∃ w2, w2 = (w'.setCell ⟨b1, a, none⟩ (.int .u64 ((B : Int) - (fee : Int) - 50))).drew := ⟨_, rfl⟩
      have h2 := (h.setB (x := B - fee - 50) (z := (B : Int) - (fee : Int) - 50) ha (by omega)).drew
      rw [← hw9] at h2 ⊢
      have ho2 : Only [y, b1, b2, b3, b4] w' w2 := by rw [hw9]; exact ((Only.refl [y, b1, b2, b3, b4] w').setCell (.inl (by simp)) _).drew
      clear hw9 e1 e2 s4 s5 s6 h
      obtain ⟨e1, e2⟩ := h2.c3 a ha
      obtain ⟨kk, s4, s5, s6⟩ := h2.s3
      simp only [u64] at e1 s4 s5
      rw [(show m.f a = F from HF.out)] at e1
      have hx0 : IntKind.u64.wrap ((F : Int) + (fee : Int)) = (F : Int) + (fee : Int) := by rw [IntKind.wrap_u64]; omega
      go_still_tail 15, (by kernel_rfl)
      change wpList _ _ _ _ _ w2.drew
      clear hx0
      go_wp2_with fail
      obtain ⟨w3, hw9⟩ : ∃ w3, w3 = (w2.setCell ⟨b3, a, none⟩ (.int .u64 ((F : Int) + (fee : Int)))).drew := ⟨_, rfl⟩
      have h3 := (h2.setF (x := F + fee) (z := (F : Int) + (fee : Int)) ha (by omega)).drew
      rw [← hw9] at h3 ⊢
      have ho3 : Only [y, b1, b2, b3, b4] w' w3 := by rw [hw9]; exact (ho2.setCell (.inl (by simp)) _).drew
      clear hw9 e1 e2 s4 s5 s6 h2
      obtain ⟨e1, e2⟩ := h3.c4 a ha
      obtain ⟨kk, s4, s5, s6⟩ := h3.s4
      simp only [u64] at e1 s4 s5
      rw [(show m.d a = D from HD.out)] at e1
      have hx0 : IntKind.u64.wrap ((D : Int) + 50) = (D : Int) + 50 := by rw [IntKind.wrap_u64]; omega
      go_still_tail 14, (by kernel_rfl)
      change wpList _ _ _ _ _ w3.drew
      clear hx0
      have hfin := hid (h3.drew.setD (x := D + 50) (z := (D : Int) + 50) ha (by omega))
      clear h3
      go_wp2
      go_ret
      exact ⟨rfl, by rw [← hms.out]; exact hfin.out, ho3.drew.setCell (.inl (by simp)) _⟩
  · rw [if_neg hw]
    have hof := hid (ris_no w y b1 b2 b3 b4 m h hk who hw)
    have hpost : Hid (RPost w y b1 b2 b3 b4 (1, m) (.returned (.int .i64 1)) w) := ⟨rfl, h, Only.refl _ _⟩
    clear hw hi
    go_enter Try.func62, Try.ntmps62
    go_wp2_with fail
    refine hof.out.mono ?_
    rintro e w' ⟨rfl, rfl⟩
    go_wp2
    go_ret
    exact hpost

end Go.Proofs.Ytiinfiaemiaamaa.Sh
