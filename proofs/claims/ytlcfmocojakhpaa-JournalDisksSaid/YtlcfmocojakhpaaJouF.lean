/- A journal's log: compacted; its records: walked. -/
import Derived.Test.YtlcfmocojakhpaaJouE
namespace Go.Proofs.Ytlcfmocojakhpaa.Sh
open Go Go.RowKit

set_option maxRecDepth 20000 in
set_option maxHeartbeats 1600000 in
theorem lcompact_bad (w : World) (x : Nat) (bv : Value) (b : List UInt8) (hb : Bs w bv b) (hl : b.length < 1 ∨ 1000 < b.length) :
    Calls Try.prog 28 #[.pointer (some ⟨x, 0, none⟩), bv] w fun e w' => e = .returned (.int .i64 1) ∧ w' = w := by
  have hfr := hid (frame_bad bv b w hb hl)
  obtain ⟨ba, bc, rfl⟩ := bs_form hb
  clear hl
  go_enter Try.func28, Try.ntmps28
  go_wp2_with fail
  with_reducible refine hfr.out.mono ?_
  rintro e w' ⟨rfl, rfl⟩
  go_wp2_with fail
  go_ret
  exact ⟨rfl, rfl⟩

set_option maxRecDepth 20000 in
set_option maxHeartbeats 1600000 in
theorem lcompact_good (w : World) (x : Nat) (f l b : List UInt8) (rs : List (List UInt8)) (bs : List Nat) (h : Lg w x f l rs bs) (bv : Value) (hb : Bs w bv b) (hbx : ∀ k, bv.ownBlock = some k → b = [] ∨ k ∉ bs) (hl1 : 1 ≤ b.length) (hl2 : b.length ≤ 1000) :
    Calls Try.prog 28 #[.pointer (some ⟨x, 0, none⟩), bv] w fun e w' => e = .returned (.int .i64 0) ∧ Lg w' x (frameL b) [] [b] (bs ++ newBs w w') ∧ Only bs w w' := by
  obtain ⟨fa, fc, la, lc, c0, c1, hf, hl, hx⟩ := h.sees
  have hxb : x ∈ bs := h.2.1
  have hfr := hid (frame_good bv b w hb hl1 hl2)
  obtain ⟨fr, hfe⟩ : ∃ fr, fr = frameL b := ⟨_, rfl⟩
  have hfl : fr.length = 6 + b.length := by rw [hfe, frameL_length]
  rw [← hfe] at hfr ⊢
  have hfr64 : fr.length ≤ 2000 := by omega
  clear hfe hfl
  obtain ⟨ba, bc, rfl⟩ := bs_form hb
  replace h := hid h
  go_enter Try.func28, Try.ntmps28
  go_wp2_with fail
  with_reducible refine hfr.out.mono ?_
  rintro e w2 ⟨v1, rfl, hF, ho2⟩
  have hs2 := ho2.size
  have hL2 : Lg w2 x f l rs (bs ++ newBs w w2) := (h.out.kept0 ho2).mono (fun k hk => by simp [hk])
  have hL3 := hL2.setDisk (fv' := v1) (f' := fr) (lv' := .slice none 0 0) (l' := []) (Yb.own hF (by omega) (fun k h1 h2 => by simp [mem_newBs, h2]; omega)) ⟨Bs.empty (by unfold maxLen; omega), fun k hk => by simp [Value.ownBlock] at hk⟩
  have ho3 : Only [x] w ((w2.setCell ⟨x, 0, none⟩ v1).setCell ⟨x, 1, none⟩ (.slice none 0 0)) := ((ho2.mono (by simp)).setCell (.inl (by simp)) _).setCell (.inl (by simp)) _
  have e0 := cell_kept ho2 (by simp) c0
  have e1 := cell_kept ho2 (by simp) c1
  obtain ⟨w3, hw3⟩ : ∃ w3, w3 = (w2.setCell ⟨x, 0, none⟩ v1).setCell ⟨x, 1, none⟩ (.slice none 0 0) := ⟨_, rfl⟩
  have hs3 : w3.heap.size = w2.heap.size := by rw [hw3]; simp [World.setCell]
  rw [← hw3] at hL3 ho3
  obtain ⟨va2, vc2, rfl⟩ := own_form hF
  have hb3 := ((hb.kept ho3 (fun k hk hm => by
    obtain rfl : k = x := by simpa using hm
    rcases hbx k hk with rfl | h
    · simp at hl1
    · exact h hxb)) : Bs w3 (.slice ba b.length bc) b)
  have hcl := hid (clone_any _ b w3 hb3 (by omega))
  clear hF hL2 hf hl
  go_wp2_with fail
  rw [← hw3]
  clear hw3 hfr e0 e1 c0 c1 ho2
  with_reducible refine hcl.out.mono ?_
  rintro e w4 ⟨v4, rfl, hF4, hq4⟩
  obtain ⟨xa, xc, rfl⟩ := own_form hF4
  obtain ⟨ht, hx3, gf, gl, gr, vs, q0, q1, q2, k1, k2, k3, k4, k5⟩ := hL3
  have hA := hq4.alloc (Obj.cells #[.slice xa b.length xc] 22)
  obtain ⟨w5, hw5⟩ : ∃ w5, w5 = w4.alloc (Obj.cells #[.slice xa b.length xc] 22) := ⟨_, rfl⟩
  rw [← hw5] at hA
  have hsz5 : w5.heap.size = w4.heap.size + 1 := by rw [hw5]; simp
  have hs4 := hq4.size
  have hrow : w5.ownsRow w4.heap.size 22 1 (.slice (some ⟨w4.heap.size, 0, none⟩) 1 1) 1 [.slice xa b.length xc] := by
    rw [hw5]
    exact own_built w4 [.slice xa b.length xc] 22 1 1 rfl (by unfold maxLen; omega)
  have hm : ∀ k ∈ bs ++ newBs w w2, k ∈ (bs ++ newBs w w2) ++ newBs w3 w5 := fun k hk => List.mem_append_left _ hk
  have hLf := lg_rows (rs' := [b]) (ht.only0 hA) (hm x hx3) (cell_kept hA (by simp) q0) (cell_kept hA (by simp) q1) (cell_kept hA (by simp) q2) ((k1.kept0 hA).mono hm) ((k2.kept0 hA).mono hm) (own_lower hrow (Nat.zero_le _))
    (fun k hk => List.mem_append_right _ (mem_newBs.2 ⟨by have := hrow.lt k hk; omega, (hrow.lt k hk).2⟩))
    (.cons (Yb.own (own_only0 hF4 (by rw [hw5]; exact (Only.refl [] w4).alloc _)) (by omega) (fun k h1 h2 => List.mem_append_right _ (mem_newBs.2 ⟨h1, h2⟩))) .nil)
  have hsf : (w5.setCell ⟨x, 2, none⟩ (.slice (some ⟨w4.heap.size, 0, none⟩) 1 1)).heap.size = w5.heap.size := by simp [World.setCell]
  have hww := ho3.size
  have hfin : Hid (Lg (w5.setCell ⟨x, 2, none⟩ (.slice (some ⟨w4.heap.size, 0, none⟩) 1 1)) x fr [] [b] (bs ++ newBs w (w5.setCell ⟨x, 2, none⟩ (.slice (some ⟨w4.heap.size, 0, none⟩) 1 1))) ∧ Only bs w (w5.setCell ⟨x, 2, none⟩ (.slice (some ⟨w4.heap.size, 0, none⟩) 1 1))) := by
    refine ⟨hLf.mono (fun k hk => ?_), ((ho3.trans hA (ds := bs) (fun k hk => ?_) (by simp)).setCell (.inl hxb) _)⟩
    · simp only [List.mem_append, mem_newBs, hsf] at hk ⊢
      rcases hk with (h | h) | h
      · exact .inl h
      all_goals exact .inr (by omega)
    · obtain rfl : k = x := by simpa using hk
      exact hxb
  obtain ⟨q2a, q2b⟩ := cell_kept hA (by simp) q2
  clear hLf hrow hF4 k1 k2 k3 k4 k5 hm hA hcl
  rw [hw5] at q2a q2b
  go_wp2
  go_ret
  rw [← hw5]
  exact ⟨rfl, hfin.out⟩

theorem Lg.rows {w : World} {x : Nat} {f l : List UInt8} {rs : List (List UInt8)} {bs : List Nat} (h : Lg w x f l rs bs) (hr : rs.length ≤ 1000000) :
    ∃ ra rc, w.cell? ⟨x, 2, none⟩ = some (.slice ra rs.length rc) ∧ Bss w (.slice ra rs.length rc) rs := by
  obtain ⟨ht, hx, fv, lv, rv, vs, c0, c1, c2, h1, h2, h3, h4, h5⟩ := h
  obtain ⟨ra, rc, rfl⟩ := own_form h3
  exact ⟨ra, rc, c2.1, vs, Cs.of_own h3 (by omega), h5.imp fun _ _ k => k.1⟩

set_option maxRecDepth 20000 in
set_option maxHeartbeats 1600000 in
theorem lrecords_any (w : World) (x : Nat) (f l : List UInt8) (rs : List (List UInt8)) (bs : List Nat) (h : Lg w x f l rs bs) (hr : rs.length ≤ 1000000) (hb : ∀ r ∈ rs, r.length ≤ 1000000) :
    Calls Try.prog 21 #[.pointer (some ⟨x, 0, none⟩)] w fun e w' => ∃ v', e = .returned v' ∧ OwnBss w.heap.size w' v' rs ∧ Only [] w w' := by
  obtain ⟨ra, rc, q2, hrows⟩ := h.rows hr
  clear h
  have hb' := hid hb
  clear hb
  go_enter Try.func21, Try.ntmps21
  go_wp2_with fail
  go_loopw [3, 13] (fun out i wr => ∃ k : Nat, k ≤ rs.length ∧ i = .int .i64 k ∧ OwnBss w.heap.size wr out (rs.take k) ∧ Only [] w wr) (fun _ i _ => rs.length - (intOf i).toNat)
  case atStart => exact ⟨0, Nat.zero_le _, rfl, ⟨[], World.ownsRow_nil _ _ _ _, .nil⟩, Only.refl _ _⟩
  case round =>
    obtain ⟨k, hk, rfl, hout, ho⟩ := hrel
    by_cases hlt : k < rs.length
    · obtain ⟨b, o, xv, rfl, c1, hx⟩ := (hrows.kept0 ho).at k hlt
      have hrl := hb'.out rs[k] (List.getElem_mem hlt)
      obtain ⟨R, hR⟩ : ∃ R, R = rs[k] := ⟨_, rfl⟩
      have ht : rs.take (k + 1) = rs.take k ++ [R] := by rw [hR, List.take_succ_eq_append_getElem hlt]
      rw [← hR] at hx hrl
      have hcl := hid (clone_any _ R wr hx (by omega))
      obtain ⟨xa, xc, rfl⟩ := bs_form hx
      have HT := hid ht
      obtain ⟨vs, hvs, hels⟩ := hout
      have htl : (rs.take k).length = k := by simp; omega
      rw [htl] at hvs
      have hsz := ho.size
      clear ht hR htl
      go_wp2_with fail
      with_reducible refine hcl.out.mono ?_
      rintro e w2 ⟨v2, rfl, hf2, ho2⟩
      obtain ⟨a2, c2, rfl⟩ := own_form hf2
      have hsz2 := ho2.size
      go_wp2_with (at_builtin; refine wpList_app1 (by rfl) _ _ 34 (by rfl) w.heap.size 22 1 24 el_bss (by rfl) (own_only0 hvs ho2) [_] (by rfl) rfl (one1 rfl) (by omega) (by omega) (by omega) ?_; intro v3 w3 hown3 happ3)
      have ho3 : Only [] w w3 := (ho.trans0 ho2).app happ3 (fun i hi => by
        rcases hvs.2 with ⟨rfl, _⟩ | ⟨g, _, _, rfl, hg, _⟩
        · simp [Value.ownBlock] at hi
        · simp [Value.ownBlock] at hi; omega)
      have hels3 : All2 (fun u x => w3.ownsRow w.heap.size 5 1 u x.length (bytes x) ∧ x.length ≤ 9223372036854775807) (vs ++ [.slice a2 R.length c2]) (rs.take k ++ [R]) := by
        refine All2.snoc (hels.imp ?_) ⟨happ3.other (own_lower hf2 (by omega)) (own_ne hf2 (own_only0 hvs ho2) (by omega)), by omega⟩
        rintro u x ⟨h5, h6⟩
        exact ⟨happ3.other (own_only0 h5 ho2) (own_ne (own_only0 h5 ho2) (own_only0 hvs ho2) (by omega)), h6⟩
      have hout3 : OwnBss w.heap.size w3 v3 (rs.take (k + 1)) := by rw [HT.out]; exact ⟨_, own_cast hown3 (by simp; omega) rfl, hels3⟩
      go_wp2
      go_roundw
      case rel => exact ⟨k + 1, by omega, by go_num, hout3, ho3⟩
      case measure => simp [intOf]; omega
    · obtain rfl : k = rs.length := by omega
      rw [List.take_length] at hout
      go_wp2
      go_ret
      exact ⟨_, rfl, hout, ho⟩
end Go.Proofs.Ytlcfmocojakhpaa.Sh
