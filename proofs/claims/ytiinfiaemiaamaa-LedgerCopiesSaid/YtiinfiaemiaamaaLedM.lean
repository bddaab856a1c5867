/- The document's ledger, made: walked. -/
import Derived.Test.YtiinfiaemiaamaaLedK
import Derived.Test.YtiinfiaemiaamaaFreshApp
import Derived.Deep.RegionLaw
namespace Go.Proofs.Ytiinfiaemiaamaa.Sh
open Go Go.RowKit

theorem rled_made (W : World) (B T : Nat) (l : List Nat) (g1 g2 g3 g4 c1 c2 c3 c4 : Nat) (hl : 0 < l.length)
    (o1 : W.ownsRow B 22 1 (.slice (some ⟨g1, 0, none⟩) l.length c1) l.length (l.map u64))
    (o2 : W.ownsRow B 22 1 (.slice (some ⟨g2, 0, none⟩) l.length c2) l.length (List.replicate l.length (.int .u64 0)))
    (o3 : W.ownsRow B 22 1 (.slice (some ⟨g3, 0, none⟩) l.length c3) l.length (List.replicate l.length (.int .u64 0)))
    (o4 : W.ownsRow B 22 1 (.slice (some ⟨g4, 0, none⟩) l.length c4) l.length (List.replicate l.length (.int .u64 0)))
    (ne : (g1 ≠ g2 ∧ g1 ≠ g3 ∧ g1 ≠ g4) ∧ (g2 ≠ g3 ∧ g2 ≠ g4) ∧ g3 ≠ g4) :
    RLed (W.alloc (Obj.cells #[.slice (some ⟨g1, 0, none⟩) l.length c1, .slice (some ⟨g2, 0, none⟩) l.length c2, .slice (some ⟨g3, 0, none⟩) l.length c3, .slice (some ⟨g4, 0, none⟩) l.length c4, .int .u64 0] T)) W.heap.size g1 g2 g3 g4 (initM l) := by
  have hoA : Only [] W (W.alloc (Obj.cells #[.slice (some ⟨g1, 0, none⟩) l.length c1, .slice (some ⟨g2, 0, none⟩) l.length c2, .slice (some ⟨g3, 0, none⟩) l.length c3, .slice (some ⟨g4, 0, none⟩) l.length c4, .int .u64 0] T)) := (Only.refl [] W).alloc _
  obtain ⟨_, _, e1, _, p1, p2, p3, p4⟩ := own_at o1 hl
  obtain ⟨_, _, e2, _, q1, q2, q3, q4⟩ := own_at o2 hl
  obtain ⟨_, _, e3, _, r1, r2, r3, r4⟩ := own_at o3 hl
  obtain ⟨_, _, e4, _, s1, s2, s3, s4⟩ := own_at o4 hl
  simp only [Value.slice.injEq, Option.some.injEq, Addr.mk.injEq, and_true, true_and] at e1 e2 e3 e4
  obtain ⟨rfl, rfl⟩ := e1
  obtain ⟨rfl, rfl⟩ := e2
  obtain ⟨rfl, rfl⟩ := e3
  obtain ⟨rfl, rfl⟩ := e4
  refine ⟨⟨_, ?_, p2, p3⟩, ⟨_, ?_, q2, q3⟩, ⟨_, ?_, r2, r3⟩, ⟨_, ?_, s2, s3⟩, ⟨?_, ?_⟩, ?_, ?_, ?_, ?_, ⟨by omega, by omega, by omega, by omega⟩, ne⟩
  · simp [go_sem, initM]
  · simp [go_sem, initM]
  · simp [go_sem, initM]
  · simp [go_sem, initM]
  · simp [go_sem, initM]
  · simp [go_sem]
  · intro i hi
    have hi : i < l.length := hi
    have := p4 i (u64 (l.getD i 0)) (by rw [List.getElem?_map, List.getElem?_eq_getElem hi, List.getD_eq_getElem?_getD, List.getElem?_eq_getElem hi]; rfl)
    exact cell_kept hoA (by simp) this
  · intro i hi
    exact cell_kept hoA (by simp) (q4 i (u64 0) (by rw [List.getElem?_replicate, if_pos (show i < l.length from hi)]; rfl))
  · intro i hi
    exact cell_kept hoA (by simp) (r4 i (u64 0) (by rw [List.getElem?_replicate, if_pos (show i < l.length from hi)]; rfl))
  · intro i hi
    exact cell_kept hoA (by simp) (s4 i (u64 0) (by rw [List.getElem?_replicate, if_pos (show i < l.length from hi)]; rfl))

def RNewPost (w : World) (l : List Nat) (e : Ending) (w' : World) : Prop :=
  Only [] w w' ∧ ((newE l ≠ 0 ∧ e = .returned (.tuple #[.pointer none, .int .i64 (newE l : Int)])) ∨ newE l = 0 ∧ ∃ y b1 b2 b3 b4, (w.heap.size ≤ y ∧ w.heap.size ≤ b1 ∧ w.heap.size ≤ b2 ∧ w.heap.size ≤ b3 ∧ w.heap.size ≤ b4) ∧ e = .returned (.tuple #[.pointer (some ⟨y, 0, none⟩), .int .i64 0]) ∧ RLed w' y b1 b2 b3 b4 (initM l))

theorem u64_info : ∃ i, Try.prog.info? 22 = some i ∧ i.zero = some (.int .u64 0) ∧ i.size = 1 ∧ i.bytes = 8 := by
  obtain ⟨i, h1, h2, h3, h4⟩ := info_parts (show (Try.prog.info? 22).map (fun i => (i.zero, i.size, i.bytes)) = some (some (.int .u64 0), 1, 8) by kernel_rfl)
  exact ⟨i, h1, h2, h3, h4⟩

set_option maxRecDepth 20000 in
set_option maxHeartbeats 12800000 in
theorem rnew_any (w : World) (v : Value) (l : List Nat) (hv : Ns w v l) :
    Calls Try.prog 35 #[v] w (RNewPost w l) := by
  obtain ⟨a, cap, rfl, h1, h2, h3⟩ := hv.form
  by_cases hbad : l.length < 1 ∨ 6 < l.length
  · have hpost : Hid (RNewPost w l (.returned (.tuple #[.pointer none, .int .i64 1])) w) := by
      have he : newE l = 1 := by unfold newE; rw [if_pos hbad]
      exact ⟨Only.refl _ _, .inl ⟨by rw [he]; omega, by rw [he]; rfl⟩⟩
    by_cases h0 : l.length < 1
    · clear hbad
      go_enter Try.func35, Try.ntmps35
      go_wp2
      go_ret2
      exact hpost
    · have h6 : 6 < l.length := by omega
      clear hbad
      go_enter Try.func35, Try.ntmps35
      go_wp2
      go_ret2
      exact hpost
  · have hl1 : 1 ≤ l.length := by omega
    have hl6 : l.length ≤ 6 := by omega
    clear hbad
    go_enter Try.func35, Try.ntmps35
    go_wp2_with fail
    go_loop [4, 17] (fun lf i => ∃ (k : Nat) (L : Nat), k ≤ l.length ∧ i = .int .i64 k ∧ lf = .int .u64 (L : Int) ∧ Hid (L + (l.take k).sum = 1152921504606846976) ∧ L ≤ 1152921504606846976) (fun _ i => l.length - (intOf i).toNat)
    case atStart => exact ⟨0, 1152921504606846976, Nat.zero_le _, rfl, rfl, hid (by simp), by omega⟩
    case round =>
      obtain ⟨k, L, hk, rfl, rfl, hL, hL6⟩ := hrel
      by_cases hlt : k < l.length
      · obtain ⟨vb, vo, rfl, c1⟩ := hv.at k hlt
        have hts : (l.take (k + 1)).sum = (l.take k).sum + l[k] := by rw [List.take_succ_eq_append_getElem hlt, List.sum_append]; simp
        have htl := take_sum_le l (k + 1)
        obtain ⟨b, hb⟩ : ∃ b, b = l[k] := ⟨_, rfl⟩
        rw [← hb] at c1 hts
        simp only [u64] at c1
        by_cases hgt : L < b
        · have hpost : Hid (RNewPost w l (.returned (.tuple #[.pointer none, .int .i64 10])) w) := by
            have he : newE l = 10 := by unfold newE; rw [if_neg (by omega), if_pos (by have := hL.out; omega)]
            exact ⟨Only.refl _ _, .inl ⟨by rw [he]; omega, by rw [he]; rfl⟩⟩
          clear hb hts htl hL
          go_wp2
          go_ret2
          exact hpost
        · have hle : b ≤ L := by omega
          have hL' : Hid (L - b + (l.take (k + 1)).sum = 1152921504606846976) := by have := hL.out; show _ = _; omega
          clear hb hts htl hL hgt
          go_wp2
          go_round
          case rel => exact ⟨k + 1, L - b, by omega, by go_num, by go_num, hL', by omega⟩
          case measure => simp [intOf]; omega
      · obtain rfl : k = l.length := by omega
        have hz : Hid (newE l = 0) := by
          have := hL.out
          rw [List.take_length] at this
          show _ = _
          unfold newE
          rw [if_neg (by omega), if_neg (by omega)]
        clear hL
        obtain ⟨ti, ti1, ti2, ti3, ti4⟩ := u64_info
        obtain ⟨G, hmk, hG, hGs⟩ := run_make_one (P := Try.prog) 32 22 ti (.int .u64 0) Try.underlying32 ti1 ti2 ti3 rfl l.length (by rw [ti4]; omega) (by omega)
        replace hG := hid hG
        replace hGs := hid hGs
        have hG1 : Hid (∀ X : World, (G (X.alloc (Obj.cells #[] 22))).ownsRow X.heap.size 22 1 (.slice (some ⟨X.heap.size + 1, 0, none⟩) l.length l.length) l.length (List.replicate l.length (.int .u64 0))) := by
          intro X
          have := (hG.out (X.alloc (Obj.cells #[] 22))).1
          rw [World.size_alloc] at this
          exact own_lower this (by omega)
        have hG0 : Hid ((G w.drew).ownsRow w.heap.size 22 1 (.slice (some ⟨w.heap.size, 0, none⟩) l.length l.length) l.length (List.replicate l.length (.int .u64 0))) := (hG.out w.drew).1
        have hG2 : Hid ((G (w.alloc (Obj.cells #[] 22)).drew).ownsRow (w.heap.size + 1) 22 1 (.slice (some ⟨w.heap.size + 1, 0, none⟩) l.length l.length) l.length (List.replicate l.length (.int .u64 0))) := by
          have := (hG.out (w.alloc (Obj.cells #[] 22)).drew).1
          have hs : (w.alloc (Obj.cells #[] 22)).drew.heap.size = w.heap.size + 1 := World.size_alloc _ _
          rw [hs] at this
          exact this
        clear ti1 ti2 ti3 ti4
        go_wp2_with fail
        go_region_law (first
          | ((refine step_app_new (by rfl) _ _ 32 (by rfl) 22 1 8 el_u64 (by rfl) (by rfl) ((hv.kept0 (by repeat (first | exact Only.refl _ _ | refine Only.alloc ?_ _ | refine Only.trans0 ?_ (hG.out _).2 | refine Only.drew ?_))).1) (by intro u hu; obtain ⟨y, _, rfl⟩ := List.mem_map.1 hu; rfl) (by omega) (by omega) (by omega) ?_); intro v1 w1 own1 q1; obtain ⟨g1, k1, rfl, b1, l1, _, _, _⟩ := own_at own1 (by omega); replace own1 := hid own1; replace q1 := hid q1; replace b1 := hid b1; replace l1 := hid l1))
        all_goals
          go_wp2
          go_ret2
          have hfin : ∀ (Wf : World) (g2 g3 g4 T : Nat), Only [] w Wf → w.heap.size ≤ g1 ∧ w.heap.size ≤ g2 ∧ w.heap.size ≤ g3 ∧ w.heap.size ≤ g4 → Wf.ownsRow 0 22 1 (.slice (some ⟨g1, 0, none⟩) l.length k1) l.length (l.map u64) → Wf.ownsRow 0 22 1 (.slice (some ⟨g2, 0, none⟩) l.length l.length) l.length (List.replicate l.length (.int .u64 0)) → Wf.ownsRow 0 22 1 (.slice (some ⟨g3, 0, none⟩) l.length l.length) l.length (List.replicate l.length (.int .u64 0)) → Wf.ownsRow 0 22 1 (.slice (some ⟨g4, 0, none⟩) l.length l.length) l.length (List.replicate l.length (.int .u64 0)) → (g1 ≠ g2 ∧ g1 ≠ g3 ∧ g1 ≠ g4) ∧ (g2 ≠ g3 ∧ g2 ≠ g4) ∧ g3 ≠ g4 →
              RNewPost w l (.returned (.tuple #[.pointer (some ⟨Wf.heap.size, 0, none⟩), .int .i64 0])) (Wf.alloc (Obj.cells #[.slice (some ⟨g1, 0, none⟩) l.length k1, .slice (some ⟨g2, 0, none⟩) l.length l.length, .slice (some ⟨g3, 0, none⟩) l.length l.length, .slice (some ⟨g4, 0, none⟩) l.length l.length, .int .u64 0] T)) := fun Wf g2 g3 g4 T hO hb o1 o2 o3 o4 ne =>
            ⟨hO.alloc _, .inr ⟨hz.out, _, g1, g2, g3, g4, ⟨hO.size, hb.1, hb.2.1, hb.2.2.1, hb.2.2.2⟩, rfl, rled_made Wf 0 T l g1 g2 g3 g4 _ _ _ _ (by omega) o1 o2 o3 o4 ne⟩⟩
          refine hfin _ _ _ _ _ ?_ ?_ ?_ ?_ ?_ ?_ ?_
          · (repeat (first | exact Only.refl _ _ | refine Only.alloc ?_ _ | refine Only.trans0 ?_ (hG.out _).2 | refine Only.trans0 ?_ q1.out | refine Only.drew ?_))
          · refine ⟨?_, ?_, ?_, ?_⟩ <;> (have B1 := b1.out; have L1 := l1.out; (try simp [hGs.out] at B1); (try simp [hGs.out]); (try omega))
          · refine own_only0 (own_lower own1.out (Nat.zero_le _)) ?_
            (repeat (first | exact Only.refl _ _ | refine Only.alloc ?_ _ | refine Only.trans0 ?_ (hG.out _).2 | refine Only.trans0 ?_ q1.out | refine Only.drew ?_))
          · first | (refine own_only0 (own_lower hG2.out (Nat.zero_le _)) ?_; (repeat (first | exact Only.refl _ _ | refine Only.alloc ?_ _ | refine Only.trans0 ?_ (hG.out _).2 | refine Only.trans0 ?_ q1.out | refine Only.drew ?_)); done) | (refine own_only0 (own_lower (hG.out _).1 (Nat.zero_le _)) ?_; (repeat (first | exact Only.refl _ _ | refine Only.alloc ?_ _ | refine Only.trans0 ?_ (hG.out _).2 | refine Only.trans0 ?_ q1.out | refine Only.drew ?_)); done) | (refine own_only0 (own_lower (hG1.out _) (Nat.zero_le _)) ?_; (repeat (first | exact Only.refl _ _ | refine Only.alloc ?_ _ | refine Only.trans0 ?_ (hG.out _).2 | refine Only.trans0 ?_ q1.out | refine Only.drew ?_)); done) | (refine own_only0 (own_lower hG0.out (Nat.zero_le _)) ?_; (repeat (first | exact Only.refl _ _ | refine Only.alloc ?_ _ | refine Only.trans0 ?_ (hG.out _).2 | refine Only.trans0 ?_ q1.out | refine Only.drew ?_)); done)
          · first | (refine own_only0 (own_lower hG2.out (Nat.zero_le _)) ?_; (repeat (first | exact Only.refl _ _ | refine Only.alloc ?_ _ | refine Only.trans0 ?_ (hG.out _).2 | refine Only.trans0 ?_ q1.out | refine Only.drew ?_)); done) | (refine own_only0 (own_lower (hG.out _).1 (Nat.zero_le _)) ?_; (repeat (first | exact Only.refl _ _ | refine Only.alloc ?_ _ | refine Only.trans0 ?_ (hG.out _).2 | refine Only.trans0 ?_ q1.out | refine Only.drew ?_)); done) | (refine own_only0 (own_lower (hG1.out _) (Nat.zero_le _)) ?_; (repeat (first | exact Only.refl _ _ | refine Only.alloc ?_ _ | refine Only.trans0 ?_ (hG.out _).2 | refine Only.trans0 ?_ q1.out | refine Only.drew ?_)); done) | (refine own_only0 (own_lower hG0.out (Nat.zero_le _)) ?_; (repeat (first | exact Only.refl _ _ | refine Only.alloc ?_ _ | refine Only.trans0 ?_ (hG.out _).2 | refine Only.trans0 ?_ q1.out | refine Only.drew ?_)); done)
          · first | (refine own_only0 (own_lower hG2.out (Nat.zero_le _)) ?_; (repeat (first | exact Only.refl _ _ | refine Only.alloc ?_ _ | refine Only.trans0 ?_ (hG.out _).2 | refine Only.trans0 ?_ q1.out | refine Only.drew ?_)); done) | (refine own_only0 (own_lower (hG.out _).1 (Nat.zero_le _)) ?_; (repeat (first | exact Only.refl _ _ | refine Only.alloc ?_ _ | refine Only.trans0 ?_ (hG.out _).2 | refine Only.trans0 ?_ q1.out | refine Only.drew ?_)); done) | (refine own_only0 (own_lower (hG1.out _) (Nat.zero_le _)) ?_; (repeat (first | exact Only.refl _ _ | refine Only.alloc ?_ _ | refine Only.trans0 ?_ (hG.out _).2 | refine Only.trans0 ?_ q1.out | refine Only.drew ?_)); done) | (refine own_only0 (own_lower hG0.out (Nat.zero_le _)) ?_; (repeat (first | exact Only.refl _ _ | refine Only.alloc ?_ _ | refine Only.trans0 ?_ (hG.out _).2 | refine Only.trans0 ?_ q1.out | refine Only.drew ?_)); done)
          · refine ⟨⟨?_, ?_, ?_⟩, ⟨?_, ?_⟩, ?_⟩ <;> (have B1 := b1.out; have L1 := l1.out; (try simp [hGs.out] at B1); (try simp [hGs.out]); (try omega))
end Go.Proofs.Ytiinfiaemiaamaa.Sh
