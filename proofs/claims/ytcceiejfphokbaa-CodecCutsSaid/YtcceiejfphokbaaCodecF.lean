/- Layer 8: what is awake. -/
import Derived.Test.YtcceiejfphokbaaCodecE
namespace Go.Proofs.Ytcceiejfphokbaa.Sh
open Go Go.RowKit

theorem enter_awake1 (args : Array Value) (w : World) : (callFunc 54 args).run Try.prog w = .ok (.enter 54 args) w := by
  simp [go_sem, Try.func54]
theorem enter_awake2 (args : Array Value) (w : World) : (callFunc 55 args).run Try.prog w = .ok (.enter 55 args) w := by
  simp [go_sem, Try.func55]

theorem num_awake1 : numL 1000 [172, 2] = (0, 300, []) := by decide +kernel
theorem num_awake2 : (numL 1000 [128, 0]).1 = 14 := by decide +kernel
theorem numB_awake : numB 300 = [172, 2] := by
  rw [numB, if_neg (by omega), numB, if_pos (by omega)]
  rfl

theorem awake1_by (rb fb nb : Nat) (w : World) (x : Value) (hr : Rd w rb fb [172, 2]) (hn : w.cell? ⟨nb, 0, none⟩ = some x) (hz : w.frozen? ⟨nb, 0, none⟩ = false) (hne : nb ≠ rb) :
    Calls Try.prog 54 #[.pointer (some ⟨rb, 0, none⟩), .pointer (some ⟨nb, 0, none⟩)] w fun e w' => e = .returned (.tuple #[]) ∧ Rd w' rb fb [] ∧ w'.cell? ⟨nb, 0, none⟩ = some (.int .u64 300) ∧ Only [rb, nb] w w' := by
  have hnl : nb < w.heap.size := World.block_lt_of_cell? w _ hn
  go_enter Try.func54, Try.ntmps54
  go_wp2_with fail
  refine (number_any rb fb 1000 _ w hr (by omega)).mono ?_
  rintro e w1 ⟨ho1, _, hcase⟩
  rw [num_awake1] at hcase
  rcases hcase with ⟨_, rfl, hr1⟩ | ⟨h, _⟩
  · have hn1 := ho1.cell hn (by simpa using hne)
    have hz1 : w1.frozen? ⟨nb, 0, none⟩ = false := by rw [ho1.frozen' hnl (by simpa using hne)]; exact hz
    go_wp2
    go_end0
    refine ⟨rfl, ?_, World.cell?_setCell_same _ _ _ hn1, ?_⟩
    · exact hr1.kept ((Only.refl [nb] w1).setCell (.inl (by simp)) _) (by simpa using Ne.symm hne) (.inl rfl)
    · exact (ho1.trans ((Only.refl [nb] w1).setCell (.inl (by simp)) _) (by simp) (by simp))
  · exact absurd rfl h

theorem awake2_by (rb fb : Nat) (w : World) (hr : Rd w rb fb [128, 0]) :
    Calls Try.prog 55 #[.pointer (some ⟨rb, 0, none⟩)] w fun e w' => e = .panicked (ownEnd rb 14) ∧ (∃ l', Rd w' rb fb l') ∧ Only [rb] w w' := by
  go_enter Try.func55, Try.ntmps55
  go_wp2_with fail
  refine (number_any rb fb 1000 _ w hr (by omega)).mono ?_
  rintro e w1 ⟨ho1, hr1, hcase⟩
  rw [num_awake2] at hcase
  rcases hcase with ⟨h, _⟩ | ⟨_, rfl⟩
  · cases h
  · exact ⟨rfl, rfl, hr1, ho1⟩

theorem Bs.fb {w : World} {v : Value} {l : List UInt8} (h : Bs w v l) : ∃ fb, (∀ b, v.ownBlock = some b → l = [] ∨ b = fb) ∧ fb ≤ w.heap.size ∧ (l = [] ∨ fb < w.heap.size) := by
  by_cases hl : 0 < l.length
  · obtain ⟨b, o, c, rfl, _, _, _, hat⟩ := h.form hl
    have := World.block_lt_of_cell? w _ (hat 0 (vU8 l[0]) (bytes_get hl))
    simp only at this
    exact ⟨b, fun b' hb' => .inr (by simpa [Value.ownBlock] using hb'.symm), by omega, .inr this⟩
  · have : l = [] := List.eq_nil_of_length_eq_zero (by omega)
    exact ⟨0, fun _ _ => .inl this, by omega, .inl this⟩

set_option maxRecDepth 20000 in
set_option maxHeartbeats 1600000 in
theorem awake08_any (w : World) : Calls Try.prog 19 #[] w fun e w' => e = .returned (.bool true) ∧ Only [] w w' := by
  have hmf : ∀ (fn : Fn) (first cap : Array Value) (w : World), (Instr.makeFunc fn first cap).run Try.prog w = .ok (.func fn first cap) w := fun _ _ _ _ => rfl
  go_enter Try.func19, Try.ntmps19
  go_wp2_with fail
  refine (putNum_any _ [] 300 w.heap.size w (World.ownsRow_nil _ _ _ _) (by simp) (by omega) (Nat.le_refl _)).mono ?_
  rintro e w1 ⟨v1, rfl, hown1, happ1⟩
  rw [List.nil_append, numB_awake] at hown1
  have ho1 : Only [] w w1 := happ1.nil
  have hB1 : Bs w1 v1 [172, 2] := Cs.of_own hown1 (by simp)
  obtain ⟨fb, hfb, hfl, hfe⟩ := hB1.fb
  go_wp2_with fail
  obtain ⟨wa, hwa⟩ : ∃ wa, wa = w1.alloc (Obj.cells #[Value.int IntKind.u64 0] 55) := ⟨_, rfl⟩
  have hsa : wa.heap.size = w1.heap.size + 1 := by rw [hwa]; simp
  have hna : wa.cell? ⟨w1.heap.size, 0, none⟩ = some (.int .u64 0) ∧ wa.frozen? ⟨w1.heap.size, 0, none⟩ = false := by rw [hwa]; constructor <;> simp [go_sem]
  have hpa : Only [] w1 wa := by rw [hwa]; exact (Only.refl [] w1).alloc _
  rw [← hwa]
  clear hwa
  refine (read_any v1 [172, 2] fb 54 #[.pointer (some ⟨w1.heap.size, 0, none⟩)] wa (fun e w' => e = .returned (.int .i64 0) ∧ w'.cell? ⟨w1.heap.size, 0, none⟩ = some (.int .u64 300) ∧ Only [] w1 w') (hB1.kept0 hpa) hfb (by omega) enter_awake1 ?_).mono ?_
  · intro w2 hp2 hs2 hr2
    have hn2 := hp2.cell hna.1 (by simp)
    have hz2 : w2.frozen? ⟨w1.heap.size, 0, none⟩ = false := by rw [hp2.frozen' (by simp only; omega) (by simp)]; exact hna.2
    refine (awake1_by (wa.heap.size + 1) fb w1.heap.size w2 _ hr2 hn2 hz2 (by omega)).mono ?_
    rintro e w3 ⟨rfl, hr3, hn3, hp3⟩
    refine ⟨⟨_, hp3, by simp; omega, by simp; omega⟩, .inl ⟨[], rfl, hr3, fun w4 hp4 => ⟨rfl, hp4.cell hn3 (by simp; omega), ?_⟩⟩⟩
    have h12 : Only [] w1 w2 := hpa.trans0 hp2
    have h13 : Only [] w1 w3 := h12.trans hp3 (by simp) (by simp; omega)
    exact h13.trans hp4 (by simp) (by simp; omega)
  rintro e w4 ⟨rfl, hn4, hp4⟩
  have ho4 := ho1.trans0 hp4
  have hs4 := hp4.size
  go_wp2_with fail
  have hBb : Bs (w4.alloc (Obj.cells #[Value.int IntKind.u8 128, Value.int IntKind.u8 0] 5)) (.slice (some ⟨w4.heap.size, 0, none⟩) 2 2) [128, 0] := Cs.of_own (own_built w4 [_, _] 5 1 2 rfl (by unfold maxLen; omega)) (by simp)
  have hpb : Only [] w4 (w4.alloc (Obj.cells #[Value.int IntKind.u8 128, Value.int IntKind.u8 0] 5)) := (Only.refl [] w4).alloc _
  refine (read_any _ [128, 0] w4.heap.size 55 #[] _ (fun e w' => e = .returned (.int .i64 14) ∧ Only [] w4 w') hBb (fun b hb => .inr (by simpa [Value.ownBlock] using hb.symm)) (by simp; omega) enter_awake2 ?_).mono ?_
  · intro w5 hp5 hs5 hr5
    refine (awake2_by _ _ w5 hr5).mono ?_
    rintro e w6 ⟨rfl, ⟨l', hr6⟩, hp6⟩
    refine ⟨⟨_, hp6, by simp, by simp⟩, .inr (.inl ⟨l', 14, rfl, hr6, fun w7 hp7 => ⟨rfl, ?_⟩⟩)⟩
    have h5 : Only [] w4 w5 := hpb.trans0 hp5
    have h6 : Only [] w4 w6 := h5.trans hp6 (by simp) (by simp; omega)
    exact h6.trans hp7 (by simp) (by simp; omega)
  rintro e w7 ⟨rfl, hp7⟩
  have hn7 := hp7.cell hn4 (by simp)
  have ho7 := ho4.trans0 hp7
  have hB7 := (hB1.kept0 hp4).kept0 hp7
  go_wp2_with fail
  refine (same_any _ _ [172, 2] [172, 2] _ (hB7.kept0 ((Only.refl [] w7).alloc _)) (Cs.of_own (own_built w7 [_, _] 5 1 2 rfl (by unfold maxLen; omega)) (by simp))).mono ?_
  rintro e w8 ⟨rfl, hp8⟩
  have hp8' := ((Only.refl [] w7).alloc (Obj.cells #[Value.int IntKind.u8 172, Value.int IntKind.u8 2] 5)).trans0 hp8
  have hn8 := hp8'.cell hn7 (by simp)
  rw [decide_eq_true rfl]
  go_wp2
  go_ret
  exact ⟨rfl, ho7.trans0 hp8'⟩
end Go.Proofs.Ytcceiejfphokbaa.Sh
