/- awake of layer 12, walked. -/
import Derived.Test.YtlcfmocojakhpaaJouG
import Derived.Test.YtlcfmocojakhpaaPlFlat
import Derived.Test.YtlcfmocojakhpaaLists
namespace Go.Proofs.Ytlcfmocojakhpaa.Sh
open Go Go.RowKit

theorem crashL_zero (f l : List UInt8) (keep : Int) : crashL f l keep 0 = f ++ l.take (keepN keep l.length) := by
  unfold crashL
  split
  · rw [UInt8.xor_zero]
    generalize f ++ l.take (keepN keep l.length) = y
    apply List.ext_getElem?
    intro i
    rw [List.getElem?_set]
    split
    · rename_i h
      subst h
      split
      · rename_i h
        rw [List.getD_eq_getElem?_getD, List.getElem?_eq_getElem h]
        simp
      · rename_i h
        rw [List.getElem?_eq_none (by omega)]
    · rfl
  · rfl

theorem crash_awake : allL (crashL (frameL [7]) (frameL [8]) 3 0 ++ []) = ([[7]], 7) := by
  rw [crashL_zero, List.append_nil, show keepN 3 (frameL [8]).length = 3 by rw [frameL_length]; rfl, allL_append [7] _ (by simp) (by simp)]
  have h := firstL_cut [8] [] 3 (by simp) (by simp) (by simp)
  rw [List.append_nil] at h
  rw [allL_bad _ h]
  rfl

set_option maxRecDepth 20000 in
set_option maxHeartbeats 1600000 in
theorem awake12_any (w : World) :
    Calls Try.prog 9 #[] w fun e w' => e = .returned (.bool true) ∧ Only [] w w' := by
  have hn0 : ∀ W : World, Bs W (.slice none 0 0) [] := fun W => Bs.empty (by unfold maxLen; omega)
  have hop := nopen_any w w (Only.refl [] w) _ _ [] [] (hn0 w) (hn0 w) (by simp)
  rw [show allL ([] ++ []) = ([], 0) from allL_bad _ (by simp [firstL])] at hop
  simp only [List.append_nil, List.take_nil] at hop
  have hfl : ∀ b : UInt8, (frameL [b]).length = 7 := fun b => by rw [frameL_length]; rfl
  have hcr := crash_awake
  obtain ⟨F7, h7⟩ : ∃ F, F = frameL [7] := ⟨_, rfl⟩
  obtain ⟨F8, h8⟩ : ∃ F, F = frameL [8] := ⟨_, rfl⟩
  have l7 : F7.length = 7 := by rw [h7, hfl]
  have l8 : F8.length = 7 := by rw [h8, hfl]
  have hf7 : (allL F7).1 = [[7]] := by
    have := allL_append [7] [] (by simp) (by simp)
    rw [List.append_nil, allL_bad [] (by simp [firstL])] at this
    rw [h7, this]
  rw [← h7, ← h8] at hcr
  obtain ⟨C, hC⟩ : ∃ C, C = crashL F7 F8 3 0 := ⟨_, rfl⟩
  have hCl : C.length ≤ 14 := by rw [hC, crashL_zero]; simp; omega
  have a7 := fun W x (h : LgN w W x [] [] []) (hb : Bs (W.alloc (Obj.cells #[.int .u8 7] 5)) (.slice (some ⟨W.heap.size, 0, none⟩) 1 1) [7]) => nappend_new w W x [] [] [7] [] h _ _ _ hb (by simp) (by simp) (by simp) (by simp)
  have a8 := fun W x (h : LgN w W x F7 [] [[7]]) (hb : Bs (W.alloc (Obj.cells #[.int .u8 8] 5)) (.slice (some ⟨W.heap.size, 0, none⟩) 1 1) [8]) => nappend_new w W x F7 [] [8] [[7]] h _ _ _ hb (by simp) (by simp) (by simp; omega) (by simp)
  rw [← h7] at a7
  rw [← h8] at a8
  simp only [List.nil_append] at a7 a8
  have sy := fun W x (h : LgN w W x [] F7 [[7]]) => nsync_any w W x _ _ _ h (by simp; omega)
  simp only [List.nil_append] at sy
  have cr := fun W fv lv (hf : Bs W fv F7) (hl : Bs W lv F8) => dcrash_any W fv lv F7 F8 3 0 hf hl (by omega) (by omega)
  rw [← hC] at cr hcr
  simp only [show (((0 : UInt8).toNat : Nat) : Int) = 0 from rfl] at cr
  have o2 := fun W fv (ho : Only [] w W) (hf : Bs W fv C) => nopen_any w W ho fv _ C [] hf (hn0 W) (by simp; omega)
  simp only [hcr] at o2
  have fa := fun W x (h : LgN w W x F7 F8 [[7], [8]]) => nfast_any w W x _ _ _ h (by omega)
  simp only [hf7] at fa
  have rec1 := fun W x (h : LgN w W x F7 F8 [[7], [8]]) => nrecords_any w W x _ _ _ h (by simp) (by simp)
  have di := fun W x (h : LgN w W x F7 F8 [[7], [8]]) => ndisk_any w W x _ _ _ h (by omega)
  replace hop := hid hop
  replace a7 := hid a7
  replace a8 := hid a8
  replace sy := hid sy
  replace cr := hid cr
  replace o2 := hid o2
  replace fa := hid fa
  replace rec1 := hid rec1
  replace di := hid di
  have L7 := hid l7
  have L8 := hid l8
  have HCL := hid hCl
  clear hn0 hfl hcr h7 h8 l7 l8 hf7 hC hCl
  go_enter Try.func9, Try.ntmps9
  go_wp2_with fail
  with_reducible refine hop.out.mono ?_
  rintro e w1 ⟨x, rfl, g1, o1⟩
  go_wp2_with fail
  with_reducible refine (a7.out _ _ g1 ?_).mono ?_
  · exact cs_built w1 [.int .u8 7] 5 1 1 (0, 0) rfl (by omega)
  rintro e w2 ⟨rfl, g2⟩
  go_wp2_with fail
  with_reducible refine (sy.out _ _ g2).mono ?_
  rintro e w3 ⟨rfl, g3⟩
  go_wp2_with fail
  with_reducible refine (a8.out _ _ g3 ?_).mono ?_
  · exact cs_built w3 [.int .u8 8] 5 1 1 (0, 0) rfl (by omega)
  rintro e w4 ⟨rfl, g4⟩
  go_wp2_with fail
  with_reducible refine (di.out _ _ g4).mono ?_
  rintro e w5 ⟨v5, u5, rfl, f5, l5, o5⟩
  have g5 := g4.kept0 o5
  go_wp2_with fail
  with_reducible refine (cr.out _ _ _ (f5.bs (by have := L7.out; omega)) (l5.bs (by have := L8.out; omega))).mono ?_
  rintro e w6 ⟨v6, rfl, f6, o6⟩
  have g6 := g5.kept0 o6
  go_wp2_with fail
  with_reducible refine (o2.out _ _ g6.o (f6.bs (by have := HCL.out; omega))).mono ?_
  rintro e w7 ⟨y, rfl, k7, o7⟩
  have g7 := g6.kept0 o7
  go_wp2_with fail
  with_reducible refine (rec1.out _ _ g7).mono ?_
  rintro e w8 ⟨v8, rfl, r8, o8⟩
  have g8 := g7.kept0 o8
  have k8 := k7.kept0 o8
  obtain ⟨ra, rc, rfl⟩ : ∃ a c, v8 = .slice a 2 c := by obtain ⟨vs, h, _⟩ := r8; exact own_form h
  clear r8
  go_wp2_with fail
  with_reducible refine (fa.out _ _ g8).mono ?_
  rintro e w9 ⟨rfl, o9⟩
  have k9 := k8.kept0 o9
  go_wp2_with fail
  with_reducible refine (nrecords_any w w9 y _ _ _ k9 (by simp) (by simp)).mono ?_
  rintro e w10 ⟨v10, rfl, r10, o10⟩
  have k10 := k9.kept0 o10
  have b10 := r10.bss (by simp)
  obtain ⟨ta, tc, rfl⟩ : ∃ a c, v10 = .slice a 1 c := by obtain ⟨vs, h, _⟩ := r10; exact own_form h
  have hoA := ((Only.refl [] w10).alloc (Obj.cells #[.int .u8 7] 5)).alloc (Obj.cells #[.slice (some ⟨w10.heap.size, 0, none⟩) 1 1] 22)
  have bw : Bss ((w10.alloc (Obj.cells #[.int .u8 7] 5)).alloc (Obj.cells #[.slice (some ⟨w10.heap.size, 0, none⟩) 1 1] 22)) (.slice (some ⟨w10.heap.size + 1, 0, none⟩) 1 1) [[7]] := by
    have h1 : Bs (w10.alloc (Obj.cells #[.int .u8 7] 5)) (.slice (some ⟨w10.heap.size, 0, none⟩) 1 1) [7] := cs_built w10 [.int .u8 7] 5 1 1 (0, 0) rfl (by omega)
    have h2 := cs_built (w10.alloc (Obj.cells #[.int .u8 7] 5)) [.slice (some ⟨w10.heap.size, 0, none⟩) 1 1] 22 1 1 (0, 0) rfl (by omega)
    rw [World.size_alloc] at h2
    exact ⟨_, h2, .cons (h1.kept0 ((Only.refl [] _).alloc _)) .nil⟩
  have hli := hid (lists_any _ _ [[7]] [[7]] _ (b10.kept0 hoA) bw)
  clear r10 b10 bw
  have hO := (((g8.o.trans0 o9).trans0 o10).trans0 hoA)
  go_wp2_with fail
  with_reducible refine hli.out.mono ?_
  rintro e w11 ⟨rfl, o11⟩
  go_wp2_with fail
  go_ret
  exact ⟨rfl, hO.trans0 o11⟩
end Go.Proofs.Ytlcfmocojakhpaa.Sh
