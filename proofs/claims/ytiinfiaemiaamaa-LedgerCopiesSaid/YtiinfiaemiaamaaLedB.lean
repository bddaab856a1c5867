/- The program's ledger in memory; its calls: walked. -/
import Derived.Test.YtiinfiaemiaamaaProg
import Derived.Test.YtiinfiaemiaamaaLedA
import Derived.Test.YtiinfiaemiaamaaKeep
import Derived.Test.YtiinfiaemiaamaaMapA
import Derived.StillTailTactics
import Derived.IntWalk
namespace Go.Proofs.Ytiinfiaemiaamaa.Sh
open Go Go.RowKit
open Go.Maps (Keyed)

@[reducible] def u64 (x : Nat) : Value := .int .u64 (x : Int)
def encH (h : Nat × Nat × Nat) : Value × Value := (.int .i64 (h.1 : Int), .agg #[u64 h.2.1, u64 h.2.2])

theorem keyed_int : Keyed Try.prog 3 := Go.Maps.int_keyed Try.underlying3
theorem zero_held (w : World) : (zeroValue 82).run Try.prog w = .ok (.agg #[.int .u64 0, .int .u64 0]) w := by kernel_rfl
theorem key_nat (a : Nat) (h : a ≤ 100) : keyOf Try.prog 3 (.int .i64 (a : Int)) = some (.int .i64 (a : Int)) :=
  Go.Maps.keyOf_int_mk Try.underlying3 (WalkArith.wf_i64 (by omega))

/-- What is held back, in the map at mb. -/
def Held (w : World) (mb k : Nat) (f d : Nat → Nat) : Prop := ∃ H, Mp Try.prog 3 w mb (H.map encH) ∧ HRel H k f d

theorem Held.kept {w w' : World} {mb k : Nat} {f d : Nat → Nat} (h : Held w mb k f d) {bs : List Nat} (ho : Only bs w w') (hn : mb ∉ bs) : Held w' mb k f d := by
  obtain ⟨H, h1, h2⟩ := h
  exact ⟨H, h1.kept ho hn, h2⟩
theorem held_keys {H : List (Nat × Nat × Nat)} (hn : (H.map (·.1)).Nodup) : ((H.map encH).map (·.1)).Nodup := by
  have : (H.map encH).map (·.1) = (H.map (·.1)).map (fun (i : Nat) => Value.int .i64 (i : Int)) := by
    rw [List.map_map, List.map_map]
    rfl
  rw [this]
  exact List.Pairwise.map (fun (i : Nat) => Value.int .i64 (i : Int)) (fun (a b : Nat) (hne : a ≠ b) => by simp; omega) hn
theorem held_not {H : List (Nat × Nat × Nat)} {a : Nat} (hn : a ∉ H.map (·.1)) : ∀ p ∈ H.map encH, p.1 ≠ Value.int .i64 (a : Int) := by
  intro p hp
  obtain ⟨h, hh, rfl⟩ := List.mem_map.1 hp
  intro e
  simp [encH] at e
  exact hn (List.mem_map.2 ⟨h, hh, by omega⟩)

theorem Held.look {w : World} {mb k : Nat} {f d : Nat → Nat} (h : Held w mb k f d) {a : Nat} (ha : a < k) (hk : k ≤ 6) :
    (Instr.lookup 73 (.map (some mb)) (.int .i64 (a : Int)) false).run Try.prog w = .ok (.agg #[u64 (f a), u64 (d a)]) w := by
  obtain ⟨H, hm, hr⟩ := h
  by_cases hmem : a ∈ H.map (·.1)
  · obtain ⟨j, hj⟩ := hr.some hmem
    have := hm.look_some keyed_int Try.underlying73 (key_nat a (by omega)) (held_keys hr.nodup) (i := j) (v := .agg #[u64 (f a), u64 (d a)]) (by rw [List.getElem?_map, hj]; rfl) false
    simpa using this
  · obtain ⟨z1, z2⟩ := hr.none ha hmem
    have := hm.look_none keyed_int Try.underlying73 (zero_held w) (key_nat a (by omega)) (held_not hmem) false
    rw [z1, z2]
    exact this
theorem Held.put {w : World} {mb k : Nat} {f d : Nat → Nat} (h : Held w mb k f d) {a : Nat} (ha : a < k) (hk : k ≤ 6) (x y : Nat) :
    ∃ w', (Instr.mapUpdate 73 (.map (some mb)) (.int .i64 (a : Int)) (.agg #[u64 x, u64 y])).run Try.prog w = .ok () w' ∧ Held w' mb k (upd f a x) (upd d a y) ∧ Only [mb] w w' ∧ w'.heap.size = w.heap.size := by
  obtain ⟨H, hm, hr⟩ := h
  by_cases hmem : a ∈ H.map (·.1)
  · obtain ⟨j, hj⟩ := hr.some hmem
    obtain ⟨w', h1, h2, h3, h4⟩ := hm.put_old keyed_int Try.underlying73 (key_nat a (by omega)) (held_keys hr.nodup) (i := j) (v0 := .agg #[u64 (f a), u64 (d a)]) (by rw [List.getElem?_map, hj]; rfl) (.agg #[u64 x, u64 y])
    exact ⟨w', h1, ⟨H.set j (a, x, y), by rw [List.map_set]; exact h2, hr.old hj x y⟩, h3, h4⟩
  · obtain ⟨w', h1, h2, h3, h4⟩ := hm.put_new keyed_int Try.underlying73 (key_nat a (by omega)) (held_not hmem) (.agg #[u64 x, u64 y])
    exact ⟨w', h1, ⟨H ++ [(a, x, y)], by rw [List.map_append]; exact h2, hr.new ha hmem x y⟩, h3, h4⟩

/-- A ledger: at x; its accounts in ab, what is held back in mb. -/
structure Led (w : World) (x ab mb : Nat) (m : Lm) : Prop where
  acc : ∃ cap, w.cell? ⟨x, 0, none⟩ = some (.slice (some ⟨ab, 0, none⟩) m.k cap) ∧ m.k ≤ cap ∧ cap ≤ maxLen
  mp : w.cell? ⟨x, 1, none⟩ = some (.map (some mb))
  tr : w.cell? ⟨x, 2, none⟩ = some (u64 m.t) ∧ w.frozen? ⟨x, 2, none⟩ = false
  cb : ∀ i, i < m.k → w.cell? ⟨ab, i * 2, none⟩ = some (u64 (m.b i)) ∧ w.frozen? ⟨ab, i * 2, none⟩ = false
  cn : ∀ i, i < m.k → w.cell? ⟨ab, i * 2 + 1, none⟩ = some (u64 (m.n i)) ∧ w.frozen? ⟨ab, i * 2 + 1, none⟩ = false
  held : Held w mb m.k m.f m.d
  ne : x ≠ ab ∧ x ≠ mb ∧ ab ≠ mb

section
variable {w w' : World} {x ab mb : Nat} {m : Lm}
theorem Led.kept (h : Led w x ab mb m) {bs : List Nat} (ho : Only bs w w') (hn : x ∉ bs ∧ ab ∉ bs ∧ mb ∉ bs) : Led w' x ab mb m := by
  obtain ⟨cap, a1, a2⟩ := h.acc
  exact ⟨⟨cap, ho.cell a1 hn.1, a2⟩, ho.cell h.mp hn.1, cell_kept ho hn.1 h.tr, fun i hi => cell_kept ho hn.2.1 (h.cb i hi), fun i hi => cell_kept ho hn.2.1 (h.cn i hi), h.held.kept ho hn.2.2, h.ne⟩
theorem Led.kept0 (h : Led w x ab mb m) (ho : Only [] w w') : Led w' x ab mb m := h.kept ho (by simp)
theorem Led.drew (h : Led w x ab mb m) : Led w.drew x ab mb m := h.kept0 (Only.refl [] w).drew
theorem Led.lt (h : Led w x ab mb m) : x < w.heap.size ∧ mb < w.heap.size := by
  obtain ⟨cap, a1, a2⟩ := h.acc
  obtain ⟨H, hm, _⟩ := h.held
  exact ⟨by simpa using World.block_lt_of_cell? w _ a1, hm.lt⟩
theorem Led.ltA (h : Led w x ab mb m) {i : Nat} (hi : i < m.k) : ab < w.heap.size := by simpa using World.block_lt_of_cell? w _ (h.cb i hi).1

theorem Led.setB (h : Led w x ab mb m) {a y : Nat} {z : Int} (ha : a < m.k) (hz : z = (y : Int)) : Led (w.setCell ⟨ab, a * 2, none⟩ (.int .u64 z)) x ab mb { m with b := upd m.b a y } := by
  subst hz
  obtain ⟨n1, n2, n3⟩ := h.ne
  have ho : Only [ab] w (w.setCell ⟨ab, a * 2, none⟩ (.int .u64 (y : Int))) := (Only.refl [ab] w).setCell (.inl (by simp)) _
  obtain ⟨cap, a1, a2⟩ := h.acc
  refine ⟨⟨cap, ho.cell a1 (by simpa using n1), a2⟩, ho.cell h.mp (by simpa using n1), cell_kept ho (by simpa using n1) h.tr, fun i hi => ?_, fun i hi => set_cell _ (h.cb a ha) (h.cn i hi) (by simp only [ne_eq, Addr.mk.injEq]; omega), h.held.kept ho (by simpa using Ne.symm n3), h.ne⟩
  by_cases e : i = a
  · subst e
    simp only [upd_same]
    exact ⟨World.cell?_setCell_same w _ _ (h.cb i ha).1, by simpa [go_sem] using (h.cb i ha).2⟩
  · simp only [upd_other _ _ e]
    exact set_cell _ (h.cb a ha) (h.cb i hi) (by simp only [ne_eq, Addr.mk.injEq]; omega)
theorem Led.setN (h : Led w x ab mb m) {a y : Nat} {z : Int} (ha : a < m.k) (hz : z = (y : Int)) : Led (w.setCell ⟨ab, a * 2 + 1, none⟩ (.int .u64 z)) x ab mb { m with n := upd m.n a y } := by
  subst hz
  obtain ⟨n1, n2, n3⟩ := h.ne
  have ho : Only [ab] w (w.setCell ⟨ab, a * 2 + 1, none⟩ (.int .u64 (y : Int))) := (Only.refl [ab] w).setCell (.inl (by simp)) _
  obtain ⟨cap, a1, a2⟩ := h.acc
  refine ⟨⟨cap, ho.cell a1 (by simpa using n1), a2⟩, ho.cell h.mp (by simpa using n1), cell_kept ho (by simpa using n1) h.tr, fun i hi => set_cell _ (h.cn a ha) (h.cb i hi) (by simp only [ne_eq, Addr.mk.injEq]; omega), fun i hi => ?_, h.held.kept ho (by simpa using Ne.symm n3), h.ne⟩
  by_cases e : i = a
  · subst e
    simp only [upd_same]
    exact ⟨World.cell?_setCell_same w _ _ (h.cn i ha).1, by simpa [go_sem] using (h.cn i ha).2⟩
  · simp only [upd_other _ _ e]
    exact set_cell _ (h.cn a ha) (h.cn i hi) (by simp only [ne_eq, Addr.mk.injEq]; omega)
theorem Led.setT (h : Led w x ab mb m) {y : Nat} {z : Int} (hz : z = (y : Int)) : Led (w.setCell ⟨x, 2, none⟩ (.int .u64 z)) x ab mb { m with t := y } := by
  subst hz
  obtain ⟨n1, n2, n3⟩ := h.ne
  have ho : Only [x] w (w.setCell ⟨x, 2, none⟩ (.int .u64 (y : Int))) := (Only.refl [x] w).setCell (.inl (by simp)) _
  obtain ⟨cap, a1, a2⟩ := h.acc
  refine ⟨⟨cap, ?_, a2⟩, ?_, ⟨World.cell?_setCell_same w _ _ h.tr.1, by simpa [go_sem] using h.tr.2⟩, fun i hi => cell_kept ho (by simpa using Ne.symm n1) (h.cb i hi), fun i hi => cell_kept ho (by simpa using Ne.symm n1) (h.cn i hi), h.held.kept ho (by simpa using Ne.symm n2), h.ne⟩
  · rw [World.cell?_setCell_other _ _ _ _ (by simp)]; exact a1
  · rw [World.cell?_setCell_other _ _ _ _ (by simp)]; exact h.mp
theorem Led.put (h : Led w x ab mb m) {a y z : Nat} (ha : a < m.k) (hk : m.k ≤ 6) :
    ∃ w', (Instr.mapUpdate 73 (.map (some mb)) (.int .i64 (a : Int)) (.agg #[u64 y, u64 z])).run Try.prog w = .ok () w' ∧ Led w' x ab mb { m with f := upd m.f a y, d := upd m.d a z } ∧ Only [mb] w w' ∧ w'.heap.size = w.heap.size := by
  obtain ⟨n1, n2, n3⟩ := h.ne
  obtain ⟨w', h1, h2, ho, h4⟩ := h.held.put ha hk y z
  obtain ⟨cap, a1, a2⟩ := h.acc
  exact ⟨w', h1, ⟨⟨cap, ho.cell a1 (by simpa using n2), a2⟩, ho.cell h.mp (by simpa using n2), cell_kept ho (by simpa using n2) h.tr, fun i hi => cell_kept ho (by simpa using n3) (h.cb i hi), fun i hi => cell_kept ho (by simpa using n3) (h.cn i hi), h2, h.ne⟩, ho, h4⟩
end

theorem wpList_look {P : Program} {w : World} {ops : Array Oper} {rest : List Oper} {o : Oper} {a : Act} {Q : Exit → Act → World → Prop} (hg : o.guard = none) (t : TypeId) (m x : Operand) (c : Bool) (hop : o.op = Op.lookup t m x c) {mv xv v : Value} (hm : a.eval m = mv) (hx : a.eval x = xv)
    (hr : (Instr.lookup t mv xv c).run P w = .ok v w) (h : wpList P ops Q rest (a.put o.dst v) w) : wpList P ops Q (o :: rest) a w := by
  refine wpList_plain hg fun K' hK' => ?_
  unfold Oper.wp
  simp [execOp, hop, hm, hx, hr, Result.andThen]
  exact hK' _ _ h

/-! the account of one -/
theorem of_out (w : World) (x ab mb : Nat) (m : Lm) (h : Led w x ab mb m) (hk : m.k ≤ 6) (who : Int) (hw : ¬ m.is who) :
    Calls Try.prog 46 #[.pointer (some ⟨x, 0, none⟩), .int .i64 who] w fun e w' => e = .returned (.pointer none) ∧ w' = w := by
  obtain ⟨cap, a1, a2, a3⟩ := h.acc
  unfold Lm.is at hw
  by_cases h0 : who < 0
  · go_enter Try.func46, Try.ntmps46
    go_wp2
    go_ret
    exact ⟨rfl, rfl⟩
  · have h1 : (m.k : Int) ≤ who := by omega
    clear hw
    go_enter Try.func46, Try.ntmps46
    go_wp2
    go_ret
    exact ⟨rfl, rfl⟩
theorem of_in (w : World) (x ab mb : Nat) (m : Lm) (h : Led w x ab mb m) (hk : m.k ≤ 6) (a : Nat) (ha : a < m.k) :
    Calls Try.prog 46 #[.pointer (some ⟨x, 0, none⟩), .int .i64 (a : Int)] w fun e w' => e = .returned (.pointer (some ⟨ab, a * 2, none⟩)) ∧ w' = w := by
  obtain ⟨cap, a1, a2, a3⟩ := h.acc
  go_enter Try.func46, Try.ntmps46
  go_wp2
  go_ret
  exact ⟨rfl, rfl⟩

def HoldPost (w : World) (x ab mb : Nat) (m : Lm) (r : Nat × Lm) (e : Ending) (w' : World) : Prop :=
  e = .returned (.int .i64 (r.1 : Int)) ∧ Led w' x ab mb r.2 ∧ Only [x, ab, mb] w w'

set_option maxRecDepth 20000 in
set_option maxHeartbeats 1600000 in
theorem hold_any (w : World) (x ab mb T : Nat) (m : Lm) (h : Led w x ab mb m) (hi : LInv T m) (who : Int) (fee : Nat) (hwho : i64b who) (hfee : fee < 18446744073709551616) :
    Calls Try.prog 17 #[.pointer (some ⟨x, 0, none⟩), .int .i64 who, .int .u64 fee] w (HoldPost w x ab mb m (holdE m who fee)) := by
  have hk := hi.few.2
  unfold holdE
  by_cases hw : m.is who
  · obtain ⟨ha, hae⟩ := is_nat hw
    rw [if_pos hw]
    obtain ⟨a, haa⟩ : ∃ a, a = who.toNat := ⟨_, rfl⟩
    rw [← haa] at ha hae ⊢
    subst hae
    have hof := hid (of_in w x ab mb m h hk a ha)
    obtain ⟨b1, b2⟩ := h.cb a ha
    obtain ⟨q1, q2, q3, _⟩ := hi.bounds a ha
    have hcap := hi.cap
    obtain ⟨B, hB⟩ : ∃ B, B = m.b a := ⟨_, rfl⟩
    rw [← hB] at b1 q1 ⊢
    clear haa hw hwho
    by_cases hbad : B < 50 ∨ B - 50 < fee
    · rw [if_pos hbad]
      have hpost : Hid (HoldPost w x ab mb m (9, m) (.returned (.int .i64 9)) w) := ⟨rfl, h, Only.refl _ _⟩
      clear hi hB
      by_cases h50 : B < 50
      · clear hbad
        go_enter Try.func17, Try.ntmps17
        go_wp2_with fail
        refine hof.out.mono ?_
        rintro e w' ⟨rfl, rfl⟩
        go_wp2
        go_ret
        exact hpost
      · have hlt : B - 50 < fee := by omega
        have hsub : IntKind.u64.wrap ((B : Int) - 50) = ((B - 50 : Nat) : Int) := by rw [IntKind.wrap_u64]; omega
        clear hbad
        go_enter Try.func17, Try.ntmps17
        go_wp2_with fail
        refine hof.out.mono ?_
        rintro e w' ⟨rfl, rfl⟩
        go_wp2
        go_ret
        exact hpost
    · rw [if_neg hbad]
      have hlo : fee + 50 ≤ B := by omega
      have h50 : ¬ B < 50 := by omega
      have hnl : ¬ B - 50 < fee := by omega
      have hsub : IntKind.u64.wrap ((B : Int) - 50) = ((B - 50 : Nat) : Int) := by rw [IntKind.wrap_u64]; omega
      obtain ⟨F, hF⟩ : ∃ F, F = m.f a := ⟨_, rfl⟩
      obtain ⟨D, hD⟩ : ∃ D, D = m.d a := ⟨_, rfl⟩
      rw [← hF] at q2
      rw [← hD] at q3
      have L1 := h.setB (y := B - fee - 50) (z := (B : Int) - ((fee : Int) + 50)) ha (by omega)
      have hlk := L1.held.look ha hk
      simp only [← hF, ← hD, u64] at hlk
      have hms : ({ m with b := upd m.b a (B - fee - 50), f := upd m.f a (F + fee), d := upd m.d a (D + 50) } : Lm) = m.hold a fee := by rw [hF, hD, hB]; rfl
      have L1 := hid L1
      have hms := hid hms
      have hmp := L1.out.mp
      clear hbad hF hD hB hi
      go_enter Try.func17, Try.ntmps17
      go_wp2_with fail
      refine hof.out.mono ?_
      rintro e w' ⟨rfl, rfl⟩
      go_wp2_with (at_lookup; refine wpList_look rfl _ _ _ _ rfl rfl rfl hlk ?_)
      obtain ⟨w2, hw2⟩ : ∃ w2, w2 = (w'.setCell ⟨ab, a * 2, none⟩ (.int .u64 ((B : Int) - ((fee : Int) + 50)))).alloc (Obj.cells #[.int .u64 (F : Int), .int .u64 (D : Int)] 82) := ⟨_, rfl⟩
      have ho2 : Only [ab] w' w2 := by rw [hw2]; exact ((Only.refl [ab] w').setCell (.inl (by simp)) _).alloc _
      have hL2 : Led w2 x ab mb { m with b := upd m.b a (B - fee - 50) } := by rw [hw2]; exact L1.out.kept0 ((Only.refl [] _).alloc _)
      have c0 : w2.cell? ⟨w'.heap.size, 0, none⟩ = some (.int .u64 (F : Int)) := by rw [hw2]; simp [go_sem]
      have c1 : w2.cell? ⟨w'.heap.size, 1, none⟩ = some (.int .u64 (D : Int)) := by rw [hw2]; simp [go_sem]
      have hmp2 := hL2.mp
      rw [← hw2]
      clear hw2
      have hwF : IntKind.u64.wrap ((F : Int) + (fee : Int)) = (F : Int) + (fee : Int) := by rw [IntKind.wrap_u64]; omega
      have hwD : IntKind.u64.wrap ((D : Int) + 50) = (D : Int) + 50 := by rw [IntKind.wrap_u64]; omega
      go_still_tail 13, (by kernel_rfl)
      change wpList _ _ _ _ _ w2.drew
      obtain ⟨w3, hr, hL3, ho3, hs3⟩ := hL2.drew.put (y := F + fee) (z := D + 50) ha hk
      simp only [u64, show ((F + fee : Nat) : Int) = (F : Int) + (fee : Int) by omega, show ((D + 50 : Nat) : Int) = (D : Int) + 50 by omega] at hr
      have hpost : HoldPost w' x ab mb m (0, m.hold a fee) (.returned (.int .i64 0)) w3 := ⟨rfl, by rw [← hms.out]; exact hL3, (ho2.drew.trans ho3 (ds := [x, ab, mb]) (by simp) (by simp))⟩
      replace hpost := hid hpost
      refine wpList_put rfl _ _ _ rfl rfl rfl rfl ⟨w3, hr, ?_⟩
      clear hr hL3 hwF hwD
      go_wp2
      go_ret
      exact hpost
  · rw [if_neg hw]
    have hof := hid (of_out w x ab mb m h hk who hw)
    have hpost : Hid (HoldPost w x ab mb m (1, m) (.returned (.int .i64 1)) w) := ⟨rfl, h, Only.refl _ _⟩
    clear hw hi
    go_enter Try.func17, Try.ntmps17
    go_wp2_with fail
    refine hof.out.mono ?_
    rintro e w' ⟨rfl, rfl⟩
    go_wp2
    go_ret
    exact hpost
end Go.Proofs.Ytiinfiaemiaamaa.Sh
