/- slices.Concat of bytes: walked. -/
import Derived.Test.YtnlmeaijnfjakaaBytes
import Derived.Test.YtnlmeaijnfjakaaStepApp
import Derived.Test.YtnlmeaijnfjakaaKeep
import Derived.Laws.MakeOwn
namespace Go.Proofs.Ytnlmeaijnfjakaa.Sh
set_option linter.unusedSimpArgs false
set_option linter.unusedVariables false
open Go Go.RowKit

theorem own_zero {w : World} {B e : Nat} {g cap : Nat} {n : Nat} {xs : List Value} (h : w.ownsRow B e 1 (.slice (some ⟨g, 0, none⟩) n cap) n xs) : w.ownsRow B e 1 (.slice (some ⟨g, 0, none⟩) 0 cap) 0 [] := by
  rcases h.2 with ⟨h1, _⟩ | ⟨g', cap', cur, hv, hb, hg, h1, h2, h3, h4⟩
  · cases h1
  · simp only [Value.slice.injEq, Option.some.injEq, Addr.mk.injEq, and_true, true_and] at hv
    obtain ⟨rfl, rfl⟩ := hv
    exact ⟨rfl, .inr ⟨g, cap, cur, rfl, hb, hg, Nat.zero_le _, h2, h3, rfl⟩⟩

theorem make_bytes (n : Nat) (hn : n ≤ 1000000) (w : World) : (Instr.makeSlice 27 (.int .i64 (n : Int)) (.int .i64 (n : Int))).run Try.prog w = .ok (.slice (some ⟨w.heap.size, 0, none⟩) n n) (w.alloc (.cells (madeCells #[.int .u8 0] n) 5)) := by
  obtain ⟨i, hi, hz, hs, hb⟩ := info_parts (show (Try.prog.info? 5).map (fun i => (i.zero, i.size, i.bytes)) = some (some (.int .u8 0), 1, 1) by kernel_rfl)
  have := run_make (P := Try.prog) w 27 5 i (.int .u8 0) Try.underlying27 hi hz .i64 .i64 (n : Int) (n : Int) (by omega) (Int.le_refl _) (by rw [hb]; omega) (by omega)
  rw [hs] at this
  simpa [Value.cells] using this

theorem made_bs (n : Nat) (hn : n ≤ 1000000) (w : World) : Bs (w.alloc (.cells (madeCells #[.int .u8 0] n) 5)) (.slice (some ⟨w.heap.size, 0, none⟩) n n) (List.replicate n 0) := by
  have hm : madeCells #[Value.int .u8 0] n = (bytes (List.replicate n 0)).toArray := by
    unfold madeCells
    apply Array.ext
    · simp [bytes]
    · intro i h1 h2
      simp [bytes, Nat.mod_one]
  rw [hm]
  exact Cs.cast (cs_built w (bytes (List.replicate n 0)) _ 1 n _ (by simp [bytes]) (by omega)) (by simp) rfl

set_option maxRecDepth 20000 in
theorem grow_nil (n : Nat) (hn : n ≤ 1000000) (w : World) :
    Calls Try.prog 84 #[.slice none 0 0, .int .i64 (n : Int)] w fun e w' => ∃ v', e = .returned v' ∧ w'.ownsRow w.heap.size 5 1 v' 0 [] ∧ Only [] w w' := by
  by_cases h0 : n = 0
  · subst h0
    go_enter Try.func84, Try.ntmps84
    go_wp2
    go_ret
    exact ⟨_, rfl, World.ownsRow_nil _ _ _ _, Only.refl _ _⟩
  · have hpos : 0 < n := by omega
    have hb1 : Try.t5.bytes = 1 := by rfl
    have hx1 : ¬ (281474976710656 < (n : Int) * (Try.t5.bytes : Int)) := by rw [hb1]; omega
    have hx2 : ¬ 281474976710656 < Builtin.nextslicecap n 0 * Try.t5.bytes := by
      rw [hb1]
      have := growslice_fits (need := n) (old := 0) (bytes := 1) (by omega) (by omega)
      omega
    have hge := grownCap_ge w n 0 5
    have hle := grownCap_le_maxLen w n 0 5 (by unfold maxLen; omega)
    unfold grownCap at hge hle
    replace hge := hid hge
    replace hle := hid hle
    clear h0 hb1
    go_enter Try.func84, Try.ntmps84
    go_wp2
    go_ret
    refine ⟨_, rfl, ⟨rfl, .inr ⟨w.heap.size, _, _, rfl, Nat.le_refl _, heap_alloc_new w.drew _, Nat.zero_le _, hle.out, ?_, rfl⟩⟩, ((Only.refl [] w).alloc _).drew⟩
    have h1 := hge.out
    have hs : (Value.int .u8 0).cells.size = 1 := rfl
    simp only [Array.size_append]
    rw [size_zeroCells, size_zeroCells]
    simp
    omega

theorem flat_take (ls : List (List UInt8)) (k : Nat) (hk : k < ls.length) : (ls.take (k + 1)).flatten = (ls.take k).flatten ++ ls[k] := by
  rw [List.take_succ_eq_append_getElem hk, List.flatten_append, List.flatten_cons, List.flatten_nil, List.append_nil]
theorem flat_le (ls : List (List UInt8)) (k : Nat) : (ls.take k).flatten.length ≤ ls.flatten.length := by
  conv => rhs; rw [← List.take_append_drop k ls, List.flatten_append, List.length_append]
  omega

set_option maxRecDepth 20000 in
set_option maxHeartbeats 1600000 in
theorem concat_any (v : Value) (ls : List (List UInt8)) (w : World) (hv : Bss w v ls) (hl : ls.flatten.length ≤ 1000000) :
    Calls Try.prog 56 #[v] w fun e w' => ∃ v', e = .returned v' ∧ Fresh w w' v' ls.flatten ∧ Only [] w w' := by
  obtain ⟨a, cap, rfl, h1, h2, h3⟩ := hv.form
  go_enter Try.func56, Try.ntmps56
  go_wp2_with fail
  go_loop [3, 11] (fun n i => ∃ k : Nat, k ≤ ls.length ∧ i = .int .i64 k ∧ ∃ S : Nat, Hid (S = (ls.take k).flatten.length) ∧ n = .int .i64 (S : Int)) (fun _ i => ls.length - (intOf i).toNat)
  case atStart => exact ⟨0, Nat.zero_le _, rfl, 0, hid (by simp), rfl⟩
  case round =>
    obtain ⟨k, hk, rfl, S, hS, rfl⟩ := hrel
    by_cases hlt : k < ls.length
    · obtain ⟨b, o, x, rfl, c1, hB⟩ := hv.at k hlt
      have hft := flat_take ls k hlt
      have hfl := flat_le ls (k + 1)
      obtain ⟨_, xa, xc, rfl, x1, x2, x3, _⟩ := id hB
      obtain ⟨m, hm⟩ : ∃ m, m = ls[k].length := ⟨_, rfl⟩
      rw [hft, List.length_append, ← hm] at hfl
      have hSm : S + m ≤ 1000000 := by have := hS.out; omega
      have hS' : Hid (S + m = (ls.take (k + 1)).flatten.length) := by have := hS.out; show _ = _; rw [hft, List.length_append, ← hm]; omega
      rw [← hm] at c1 x1 x3
      clear hft hfl hm hS hB
      go_wp2
      go_round
      case rel => exact ⟨k + 1, by omega, by go_num, S + m, hS', by go_num⟩
      case measure => simp [intOf]; omega
    · obtain rfl : k = ls.length := by omega
      have hSl : S ≤ 1000000 := by have := hS.out; rw [List.take_length] at this; omega
      clear hS
      go_wp2_with fail
      refine (grow_nil S hSl w).mono ?_
      rintro e w1 ⟨v1, rfl, hown1, ho1⟩
      obtain ⟨a1, c1, rfl⟩ := own_form hown1
      go_wp2_with fail
      go_loopw [6, 27] (fun b i wr => ∃ k : Nat, k ≤ ls.length ∧ i = .int .i64 k ∧ wr.ownsRow w.heap.size 5 1 b (ls.take k).flatten.length (bytes (ls.take k).flatten) ∧ Only [] w wr) (fun _ i _ => ls.length - (intOf i).toNat)
      case atStart => exact ⟨0, Nat.zero_le _, rfl, own_cast hown1 (by simp) (by simp [bytes]), ho1⟩
      case round =>
        obtain ⟨k, hk, rfl, hown, ho⟩ := hrel
        obtain ⟨ba, bc, rfl⟩ := own_form hown
        have hsz := ho.size
        by_cases hlt : k < ls.length
        · obtain ⟨b, o, x, rfl, c1, hB⟩ := (hv.kept0 ho).at k hlt
          have hft := flat_take ls k hlt
          have hfl := flat_le ls (k + 1)
          obtain ⟨_, xa, xc, rfl, x1, x2, x3, _⟩ := id hB
          rw [hft, List.length_append] at hfl
          obtain ⟨ys, hys⟩ : ∃ ys, ys = (ls.take k).flatten := ⟨_, rfl⟩
          obtain ⟨zs, hzs⟩ : ∃ zs, zs = ls[k] := ⟨_, rfl⟩
          rw [← hys, ← hzs] at hft hfl
          rw [← hys] at hown ⊢
          rw [← hzs] at hB c1
          have hft := hid hft
          clear hys hzs
          go_wp2_with (at_builtin; refine wpList_app (by rfl) _ _ 27 (by rfl) w.heap.size 5 1 1 el_u8 (by rfl) hown (by rfl) hB (bytes_one _) (by omega) (by omega) hsz ?_; intro v2 w2 hown2 happ2)
          go_roundw
          case rel => exact ⟨k + 1, by omega, by go_num, own_cast hown2 (by rw [hft.out]; simp) (by rw [hft.out]; simp), ho.app happ2 (fun i hi => .inr (hown.lt i hi).1)⟩
          case measure => simp [intOf]; omega
        · obtain rfl : k = ls.length := by omega
          rw [List.take_length] at hown ⊢
          go_wp2
          go_ret
          exact ⟨_, rfl, hown, ho⟩
end Go.Proofs.Ytnlmeaijnfjakaa.Sh
