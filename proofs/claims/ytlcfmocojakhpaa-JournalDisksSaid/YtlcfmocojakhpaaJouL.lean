/- A nil log; a log while other blocks are written: walked. -/
import Derived.Test.YtlcfmocojakhpaaJouI
namespace Go.Proofs.Ytlcfmocojakhpaa.Sh
open Go Go.RowKit

theorem LgN.away {w W W1 W2 : World} {x : Nat} {f l : List UInt8} {rs : List (List UInt8)} (h : LgN w W x f l rs) (h1 : Only [] W W1) {ks : List Nat} (h2 : Only ks W1 W2) (hk : ∀ k ∈ ks, W.heap.size ≤ k) : LgN w W2 x f l rs := by
  obtain ⟨bs, g1, g2, g3⟩ := h
  have s1 := h1.size
  have s2 := h2.size
  have s3 := g3.size
  refine ⟨bs, (g1.kept0 h1).only h2 (fun k hm hb => ?_), fun k hm => ?_, (g3.trans0 h1).trans h2 (by simp) (fun k hm => .inr ?_)⟩
  · have := hk k hm
    have := g2 k hb
    omega
  · have := g2 k hm
    omega
  · have := hk k hm
    omega
theorem LgN.below {w w2 W W2 : World} {x : Nat} {f l : List UInt8} {rs : List (List UInt8)} (h : LgN w2 W x f l rs) (h0 : Only [] w w2) {g : Nat} (h2 : Only [g] W W2) (hg : w.heap.size ≤ g) (hg2 : g < w2.heap.size) : LgN w W2 x f l rs := by
  obtain ⟨bs, g1, g2, g3⟩ := h
  have s1 := h0.size
  have s2 := h2.size
  refine ⟨bs, g1.only h2 (fun k hm hb => ?_), fun k hm => ?_, (h0.trans0 g3).trans h2 (by simp) (fun k hm => .inr ?_)⟩
  · obtain rfl : k = g := by simpa using hm
    have := g2 k hb
    omega
  · have := g2 k hm
    omega
  · obtain rfl : k = g := by simpa using hm
    exact hg
theorem LgN.rebase {w w2 W : World} {x : Nat} {f l : List UInt8} {rs : List (List UInt8)} (h : LgN w2 W x f l rs) (h0 : Only [] w w2) : LgN w W x f l rs := by
  obtain ⟨bs, g1, g2, g3⟩ := h
  have s1 := h0.size
  exact ⟨bs, g1, fun k hm => by have := g2 k hm; omega, h0.trans0 g3⟩

theorem allL_one' (b : List UInt8) (h1 : 1 ≤ b.length) (h2 : b.length ≤ 1000) : allL (frameL b) = ([b], 6 + b.length) := by
  have := allL_append b [] h1 h2
  rw [List.append_nil, allL_bad [] (by simp [firstL])] at this
  exact this

set_option maxRecDepth 20000 in
set_option maxHeartbeats 1600000 in
theorem nil_append (w : World) (bv : Value) (b : List UInt8) (hb : Bs w bv b) (hl1 : 1 ≤ b.length) (hl2 : b.length ≤ 1000) :
    Calls Try.prog 17 #[.pointer none, bv] w fun e w' => e = .returned (.int .i64 1) ∧ Only [] w w' := by
  have hfr := hid (frame_good bv b w hb hl1 hl2)
  obtain ⟨ba, bc, rfl⟩ := bs_form hb
  go_enter Try.func17, Try.ntmps17
  go_wp2_with fail
  with_reducible refine hfr.out.mono ?_
  rintro e w1 ⟨v1, rfl, hF1, ho1⟩
  go_wp2
  go_ret
  exact ⟨rfl, ho1⟩
set_option maxRecDepth 20000 in
set_option maxHeartbeats 1600000 in
theorem nil_compact (w : World) (bv : Value) (b : List UInt8) (hb : Bs w bv b) (hl1 : 1 ≤ b.length) (hl2 : b.length ≤ 1000) :
    Calls Try.prog 28 #[.pointer none, bv] w fun e w' => e = .returned (.int .i64 1) ∧ Only [] w w' := by
  have hfr := hid (frame_good bv b w hb hl1 hl2)
  obtain ⟨ba, bc, rfl⟩ := bs_form hb
  go_enter Try.func28, Try.ntmps28
  go_wp2_with fail
  with_reducible refine hfr.out.mono ?_
  rintro e w1 ⟨v1, rfl, hF1, ho1⟩
  go_wp2
  go_ret
  exact ⟨rfl, ho1⟩
theorem nil_sync (w : World) : Calls Try.prog 18 #[.pointer none] w fun e w' => e = .returned (.tuple #[]) ∧ w' = w := by
  go_enter Try.func18, Try.ntmps18
  go_wp2
  go_end0
  exact ⟨rfl, rfl⟩
theorem nil_records (w : World) : Calls Try.prog 21 #[.pointer none] w fun e w' => e = .returned (.slice none 0 0) ∧ w' = w := by
  go_enter Try.func21, Try.ntmps21
  go_wp2
  go_ret
  exact ⟨rfl, rfl⟩
theorem nil_fast (w : World) : Calls Try.prog 19 #[.pointer none] w fun e w' => e = .returned (.int .i64 0) ∧ w' = w := by
  go_enter Try.func19, Try.ntmps19
  go_wp2
  go_ret
  exact ⟨rfl, rfl⟩
set_option maxRecDepth 20000 in
theorem nil_disk (w : World) : Calls Try.prog 20 #[.pointer none] w fun e w' => e = .returned (dskV (.slice none 0 0) (.slice none 0 0)) ∧ Only [] w w' := by
  have hO : Only [] w (w.alloc (Obj.cells #[.slice none 0 0, .slice none 0 0] 26)) := (Only.refl [] w).alloc _
  go_enter Try.func20, Try.ntmps20
  go_wp2
  refine bodyPost_ret (v := dskV (.slice none 0 0) (.slice none 0 0)) (by simp [results, Try.results20, go_sem]) rfl ⟨rfl, ?_⟩
  first | exact hO | exact (hO.setCell (.inr (by simp)) _).setCell (.inr (by simp)) _
end Go.Proofs.Ytlcfmocojakhpaa.Sh
