/- Disks: fast, crashed: walked. -/
import Derived.Test.YtnlmeaijnfjakaaJouA
import Derived.StillTailTactics
namespace Go.Proofs.Ytnlmeaijnfjakaa.Sh
set_option linter.unusedSimpArgs false
set_option linter.unusedVariables false
open Go Go.RowKit

set_option maxRecDepth 20000 in
set_option maxHeartbeats 1600000 in
theorem dsync_any (w : World) (fv lv : Value) (f l : List UInt8) (hf : Bs w fv f) (hl : Bs w lv l) (hlen : f.length + l.length ≤ 500000) :
    Calls Try.prog 91 #[dskV fv lv] w fun e w' => ∃ fv', e = .returned (dskV fv' (.slice none 0 0)) ∧ Fresh w w' fv' (f ++ l) ∧ Only [] w w' := by
  obtain ⟨fa, fc, rfl⟩ := bs_form hf
  obtain ⟨la, lc, rfl⟩ := bs_form hl
  obtain ⟨w1, hw1⟩ : ∃ w1, w1 = (w.alloc (Obj.cells #[.slice fa f.length fc, .slice la l.length lc] 29)).alloc (Obj.cells #[.slice none 0 0, .slice none 0 0] 29) := ⟨_, rfl⟩
  have ho1 : Only [] w w1 := by rw [hw1]; exact ((Only.refl [] w).alloc _).alloc _
  have r0 : w1.cell? ⟨w.heap.size + 1, 0, none⟩ = some (.slice none 0 0) ∧ w1.frozen? ⟨w.heap.size + 1, 0, none⟩ = false := by rw [hw1]; constructor <;> simp [go_sem]
  have r1 : w1.cell? ⟨w.heap.size + 1, 1, none⟩ = some (.slice none 0 0) ∧ w1.frozen? ⟨w.heap.size + 1, 1, none⟩ = false := by rw [hw1]; constructor <;> simp [go_sem]
  have hs1 : w1.heap.size = w.heap.size + 2 := by rw [hw1]; simp
  obtain ⟨z, hz⟩ : ∃ z, z = f ++ l := ⟨_, rfl⟩
  have hall := dall_any w1 _ _ f l (hf.kept0 ho1) (hl.kept0 ho1) hlen
  rw [← hz] at hall ⊢
  replace hall := hid hall
  clear hz
  go_enter Try.func91, Try.ntmps91
  go_wp2_with fail
  rw [← hw1]
  clear hw1
  with_reducible refine hall.out.mono ?_
  rintro e w2 ⟨v2, rfl, hF, hq⟩
  obtain ⟨va, vc, rfl⟩ := own_form hF
  obtain ⟨p0, p1⟩ := cell_kept hq (by simp) r0
  obtain ⟨p2, p3⟩ := cell_kept hq (by simp) r1
  have e2 : w2.ownsRow (w.heap.size + 2) 5 1 (.slice va z.length vc) z.length (bytes z) := own_lower hF (by omega)
  have hO : Only [w.heap.size + 1] w2 ((w2.setCell ⟨w.heap.size + 1, 0, none⟩ (.slice va z.length vc)).setCell ⟨w.heap.size + 1, 1, none⟩ (.slice none 0 0)) := ((Only.refl _ w2).setCell (.inl (by simp)) _).setCell (.inl (by simp)) _
  have g2 := hid (own_lower (own_only e2 hO (fun k hk => by have := (e2.lt k hk).1; simp; omega)) (Nat.le_add_right w.heap.size 2))
  have hfin := (ho1.trans0 hq).trans hO (ds := []) (by simp) (by simp)
  clear e2 hO
  go_wp2
  exact bodyPost_ret (v := dskV (.slice va z.length vc) (.slice none 0 0)) (by simp [results, Try.results91, go_sem, p0, p2]) rfl ⟨_, rfl, g2.out, hfin⟩

/-- How many loose bytes stay. -/
def keepN (keep : Int) (n : Nat) : Nat := (max 0 (min keep (n : Int))).toNat
def crashL (f l : List UInt8) (keep : Int) (torn : UInt8) : List UInt8 :=
  if 0 < keepN keep l.length then (f ++ l.take (keepN keep l.length)).set (f.length + keepN keep l.length - 1) ((f ++ l.take (keepN keep l.length)).getD (f.length + keepN keep l.length - 1) 0 ^^^ torn)
  else f ++ l.take (keepN keep l.length)

set_option maxRecDepth 20000 in
set_option maxHeartbeats 3200000 in
theorem dcrash_any (w : World) (fv lv : Value) (f l : List UInt8) (keep : Int) (torn : UInt8) (hf : Bs w fv f) (hl : Bs w lv l) (hk : -9223372036854775808 ≤ keep ∧ keep ≤ 9223372036854775807) (hlen : f.length + l.length ≤ 500000) :
    Calls Try.prog 27 #[dskV fv lv, .int .i64 keep, .int .u8 (torn.toNat : Int)] w fun e w' => ∃ fv', e = .returned (dskV fv' (.slice none 0 0)) ∧ Fresh w w' fv' (crashL f l keep torn) ∧ Only [] w w' := by
  obtain ⟨_, fa, fc, rfl, f1, f2, f3, _⟩ := id hf
  obtain ⟨_, la, lc, rfl, l1, l2, l3, _⟩ := id hl
  obtain ⟨w1, hw1⟩ : ∃ w1, w1 = (w.alloc (Obj.cells #[.slice fa f.length fc, .slice la l.length lc] 29)).alloc (Obj.cells #[.slice none 0 0, .slice none 0 0] 29) := ⟨_, rfl⟩
  have ho1 : Only [] w w1 := by rw [hw1]; exact ((Only.refl [] w).alloc _).alloc _
  have c0 : w1.cell? ⟨w.heap.size, 0, none⟩ = some (.slice fa f.length fc) := by rw [hw1]; simp [go_sem]
  have c1 : w1.cell? ⟨w.heap.size, 1, none⟩ = some (.slice la l.length lc) := by rw [hw1]; simp [go_sem]
  have r0 : w1.cell? ⟨w.heap.size + 1, 0, none⟩ = some (.slice none 0 0) ∧ w1.frozen? ⟨w.heap.size + 1, 0, none⟩ = false := by rw [hw1]; constructor <;> simp [go_sem]
  have r1 : w1.cell? ⟨w.heap.size + 1, 1, none⟩ = some (.slice none 0 0) ∧ w1.frozen? ⟨w.heap.size + 1, 1, none⟩ = false := by rw [hw1]; constructor <;> simp [go_sem]
  have hs1 : w1.heap.size = w.heap.size + 2 := by rw [hw1]; simp
  obtain ⟨n, hn⟩ : ∃ n, n = keepN keep l.length := ⟨_, rfl⟩
  have hnl : n ≤ l.length := by rw [hn]; unfold keepN; omega
  obtain ⟨z, hz⟩ : ∃ z, z = f ++ l.take n := ⟨_, rfl⟩
  have hzl : z.length = f.length + n := by rw [hz]; simp; omega
  obtain ⟨Z, hZ⟩ : ∃ Z, Z = crashL f l keep torn := ⟨_, rfl⟩
  rw [← hZ]
  have hcr : Hid (Z = if 0 < n then z.set (z.length - 1) (z.getD (z.length - 1) 0 ^^^ torn) else z) := by
    show _ = _
    rw [hZ]
    unfold crashL
    rw [← hn, ← hz, hzl]
  clear hZ
  have hlt := (hl.kept0 ho1).pre n hnl
  have hcc := fun W g (h : Bss W (.slice (some ⟨g, 0, none⟩) 2 2) [f, l.take n]) => (concat_any _ [f, l.take n] W h (by simp; omega))
  simp only [show [f, l.take n].flatten = z by simp [hz]] at hcc
  replace hcc := hid hcc
  have hnk : (keep < 0 ∧ n = 0) ∨ (keep = 0 ∧ 0 < l.length ∧ n = 0) ∨ (0 < keep ∧ l = [] ∧ n = 0) ∨ (keep = 0 ∧ l = [] ∧ n = 0) ∨ (0 < n ∧ n < l.length ∧ keep = (n : Int)) ∨ (0 < l.length ∧ keep = (l.length : Int) ∧ n = l.length) ∨ (0 < l.length ∧ (l.length : Int) < keep ∧ n = l.length) := by
    have h0 : l.length = 0 → l = [] := List.eq_nil_of_length_eq_zero
    rw [hn]; unfold keepN
    by_cases h : l.length = 0
    · have := h0 h
      subst this
      simp
      omega
    · omega
  have HS1 := hid hs1
  have HZL := hid hzl
  have hbss := hid (bss_two (hf.kept0 ho1) hlt 27)
  clear hn hz hs1 hzl hlt
  have hlast : ∀ (w2 : World) (g vc : Nat), Only [] w w2 → w2.ownsRow (w.heap.size + 2) 5 1 (.slice (some ⟨g, 0, none⟩) z.length vc) z.length (bytes z) → True := fun _ _ _ _ _ => trivial
  clear hlast
  rcases hnk with ⟨k1, rfl⟩ | ⟨rfl, k2, rfl⟩ | ⟨k1, rfl, rfl⟩ | ⟨rfl, rfl, rfl⟩ | ⟨k1, k2, rfl⟩ | ⟨k1, rfl, rfl⟩ | ⟨k1, k2, rfl⟩
  · skip
    go_enter Try.func27, Try.ntmps27
    go_wp2_with fail
    rw [← hw1]
    clear hw1
    go_still_tail 6, (by kernel_rfl)
    change wpList _ _ _ _ _ w1.drew
    go_wp2_with fail
    have hb2 := hbss.out.kept0 (Only.refl [] _).drew
    with_reducible refine (hcc.out _ _ hb2).mono ?_
    rintro e w2 ⟨v2, rfl, hF, hq⟩
    have hp2 : Only [] w1 w2 := (((Only.refl [] w1).alloc _).drew).trans0 hq
    obtain ⟨va, vc, rfl⟩ := own_form hF
    obtain ⟨p0, p1⟩ := cell_kept hp2 (by simp) r0
    obtain ⟨p2, p3⟩ := cell_kept hp2 (by simp) r1
    have e2 : w2.ownsRow (w.heap.size + 2) 5 1 (.slice va z.length vc) z.length (bytes z) := own_lower hF (by have := HS1.out; simp; omega)
    have hO : Only [w.heap.size + 1] w2 ((w2.setCell ⟨w.heap.size + 1, 0, none⟩ (.slice va z.length vc)).setCell ⟨w.heap.size + 1, 1, none⟩ (.slice none 0 0)) := ((Only.refl _ w2).setCell (.inl (by simp)) _).setCell (.inl (by simp)) _
    have hcr2 := hcr.out
    rw [if_neg (by simp)] at hcr2
    replace hcr2 := hid hcr2
    have g2 := hid (own_lower (own_only e2 hO (fun k hk => by have := (e2.lt k hk).1; simp; omega)) (Nat.le_add_right w.heap.size 2))
    have hfin := (ho1.trans0 hp2).trans hO (ds := []) (by simp) (by simp)
    clear e2 hO hcr
    go_wp2
    exact bodyPost_ret (v := dskV (.slice va z.length vc) (.slice none 0 0)) (by simp [results, Try.results27, go_sem, p0, p2]) rfl ⟨_, rfl, own_cast g2.out (by rw [hcr2.out]) (by rw [hcr2.out]), hfin⟩
  · skip
    go_enter Try.func27, Try.ntmps27
    go_wp2_with fail
    rw [← hw1]
    clear hw1
    go_still_tail 6, (by kernel_rfl)
    change wpList _ _ _ _ _ w1.drew
    go_wp2_with fail
    have hb2 := hbss.out.kept0 (Only.refl [] _).drew
    with_reducible refine (hcc.out _ _ hb2).mono ?_
    rintro e w2 ⟨v2, rfl, hF, hq⟩
    have hp2 : Only [] w1 w2 := (((Only.refl [] w1).alloc _).drew).trans0 hq
    obtain ⟨va, vc, rfl⟩ := own_form hF
    obtain ⟨p0, p1⟩ := cell_kept hp2 (by simp) r0
    obtain ⟨p2, p3⟩ := cell_kept hp2 (by simp) r1
    have e2 : w2.ownsRow (w.heap.size + 2) 5 1 (.slice va z.length vc) z.length (bytes z) := own_lower hF (by have := HS1.out; simp; omega)
    have hO : Only [w.heap.size + 1] w2 ((w2.setCell ⟨w.heap.size + 1, 0, none⟩ (.slice va z.length vc)).setCell ⟨w.heap.size + 1, 1, none⟩ (.slice none 0 0)) := ((Only.refl _ w2).setCell (.inl (by simp)) _).setCell (.inl (by simp)) _
    have hcr2 := hcr.out
    rw [if_neg (by simp)] at hcr2
    replace hcr2 := hid hcr2
    have g2 := hid (own_lower (own_only e2 hO (fun k hk => by have := (e2.lt k hk).1; simp; omega)) (Nat.le_add_right w.heap.size 2))
    have hfin := (ho1.trans0 hp2).trans hO (ds := []) (by simp) (by simp)
    clear e2 hO hcr
    go_wp2
    exact bodyPost_ret (v := dskV (.slice va z.length vc) (.slice none 0 0)) (by simp [results, Try.results27, go_sem, p0, p2]) rfl ⟨_, rfl, own_cast g2.out (by rw [hcr2.out]) (by rw [hcr2.out]), hfin⟩
  · skip
    simp only [List.length_nil] at hw1 c1 hbss
    go_enter Try.func27, Try.ntmps27
    go_wp2_with fail
    rw [← hw1]
    clear hw1
    go_still_tail 6, (by kernel_rfl)
    change wpList _ _ _ _ _ w1.drew
    go_wp2_with fail
    have hb2 := hbss.out.kept0 (Only.refl [] _).drew
    with_reducible refine (hcc.out _ _ hb2).mono ?_
    rintro e w2 ⟨v2, rfl, hF, hq⟩
    have hp2 : Only [] w1 w2 := (((Only.refl [] w1).alloc _).drew).trans0 hq
    obtain ⟨va, vc, rfl⟩ := own_form hF
    obtain ⟨p0, p1⟩ := cell_kept hp2 (by simp) r0
    obtain ⟨p2, p3⟩ := cell_kept hp2 (by simp) r1
    have e2 : w2.ownsRow (w.heap.size + 2) 5 1 (.slice va z.length vc) z.length (bytes z) := own_lower hF (by have := HS1.out; simp; omega)
    have hO : Only [w.heap.size + 1] w2 ((w2.setCell ⟨w.heap.size + 1, 0, none⟩ (.slice va z.length vc)).setCell ⟨w.heap.size + 1, 1, none⟩ (.slice none 0 0)) := ((Only.refl _ w2).setCell (.inl (by simp)) _).setCell (.inl (by simp)) _
    have hcr2 := hcr.out
    rw [if_neg (by simp)] at hcr2
    replace hcr2 := hid hcr2
    have g2 := hid (own_lower (own_only e2 hO (fun k hk => by have := (e2.lt k hk).1; simp; omega)) (Nat.le_add_right w.heap.size 2))
    have hfin := (ho1.trans0 hp2).trans hO (ds := []) (by simp) (by simp)
    clear e2 hO hcr
    go_wp2
    exact bodyPost_ret (v := dskV (.slice va z.length vc) (.slice none 0 0)) (by simp [results, Try.results27, go_sem, p0, p2]) rfl ⟨_, rfl, own_cast g2.out (by rw [hcr2.out]) (by rw [hcr2.out]), hfin⟩
  · skip
    simp only [List.length_nil] at hw1 c1 hbss
    go_enter Try.func27, Try.ntmps27
    go_wp2_with fail
    rw [← hw1]
    clear hw1
    go_still_tail 6, (by kernel_rfl)
    change wpList _ _ _ _ _ w1.drew
    go_wp2_with fail
    have hb2 := hbss.out.kept0 (Only.refl [] _).drew
    with_reducible refine (hcc.out _ _ hb2).mono ?_
    rintro e w2 ⟨v2, rfl, hF, hq⟩
    have hp2 : Only [] w1 w2 := (((Only.refl [] w1).alloc _).drew).trans0 hq
    obtain ⟨va, vc, rfl⟩ := own_form hF
    obtain ⟨p0, p1⟩ := cell_kept hp2 (by simp) r0
    obtain ⟨p2, p3⟩ := cell_kept hp2 (by simp) r1
    have e2 : w2.ownsRow (w.heap.size + 2) 5 1 (.slice va z.length vc) z.length (bytes z) := own_lower hF (by have := HS1.out; simp; omega)
    have hO : Only [w.heap.size + 1] w2 ((w2.setCell ⟨w.heap.size + 1, 0, none⟩ (.slice va z.length vc)).setCell ⟨w.heap.size + 1, 1, none⟩ (.slice none 0 0)) := ((Only.refl _ w2).setCell (.inl (by simp)) _).setCell (.inl (by simp)) _
    have hcr2 := hcr.out
    rw [if_neg (by simp)] at hcr2
    replace hcr2 := hid hcr2
    have g2 := hid (own_lower (own_only e2 hO (fun k hk => by have := (e2.lt k hk).1; simp; omega)) (Nat.le_add_right w.heap.size 2))
    have hfin := (ho1.trans0 hp2).trans hO (ds := []) (by simp) (by simp)
    clear e2 hO hcr
    go_wp2
    exact bodyPost_ret (v := dskV (.slice va z.length vc) (.slice none 0 0)) (by simp [results, Try.results27, go_sem, p0, p2]) rfl ⟨_, rfl, own_cast g2.out (by rw [hcr2.out]) (by rw [hcr2.out]), hfin⟩
  · skip
    have hnc : n ≤ lc := by omega
    have hnc2 : (n : Int) ≤ (lc : Int) := by omega
    have hnc3 : (0 : Int) ≤ (n : Int) := by omega
    go_enter Try.func27, Try.ntmps27
    go_wp2_with fail
    rw [← hw1]
    clear hw1
    go_still_tail 6, (by kernel_rfl)
    change wpList _ _ _ _ _ w1.drew
    go_wp2_with fail
    have hb2 := hbss.out.kept0 (Only.refl [] _).drew
    with_reducible refine (hcc.out _ _ hb2).mono ?_
    rintro e w2 ⟨v2, rfl, hF, hq⟩
    have hp2 : Only [] w1 w2 := (((Only.refl [] w1).alloc _).drew).trans0 hq
    obtain ⟨va, vc, rfl⟩ := own_form hF
    obtain ⟨p0, p1⟩ := cell_kept hp2 (by simp) r0
    obtain ⟨p2, p3⟩ := cell_kept hp2 (by simp) r1
    have e2 : w2.ownsRow (w.heap.size + 2) 5 1 (.slice va z.length vc) z.length (bytes z) := own_lower hF (by have := HS1.out; simp; omega)
    obtain ⟨q, hq1⟩ : ∃ q, z.length = q + 1 := ⟨z.length - 1, by have := HZL.out; omega⟩
    have hqb : q < 1000000 := by have := HZL.out; omega
    obtain ⟨g, gc, he, hgb, hgl, gc1, gc2, hat⟩ := own_at e2 (by omega)
    simp only [Value.slice.injEq] at he
    obtain ⟨rfl, _, rfl⟩ := he
    obtain ⟨y, hy⟩ : ∃ y, y = z.getD q 0 := ⟨_, rfl⟩
    have hyz : (bytes z)[q]? = some (vU8 y) := by
      rw [hy]
      simp [bytes, List.getD, List.getElem?_eq_getElem (show q < z.length by omega)]
    obtain ⟨d1, d2⟩ := hat q _ hyz
    have hset := own_set e2 (i := q) (by omega) (vU8 (y ^^^ torn))
    rw [show (bytes z).set q (vU8 (y ^^^ torn)) = bytes (z.set q (y ^^^ torn)) by simp [bytes, List.map_set]] at hset
    have hx := xor_u8 y torn
    have hyb := u8_bound y
    have htb := u8_bound torn
    obtain ⟨x, hxx⟩ : ∃ x, x = y ^^^ torn := ⟨_, rfl⟩
    rw [← hxx] at hset hx
    have hO : Only [g, w.heap.size + 1] w2 (((w2.setCell ⟨g, q, none⟩ (vU8 x)).setCell ⟨w.heap.size + 1, 0, none⟩ (.slice (some ⟨g, 0, none⟩) z.length vc)).setCell ⟨w.heap.size + 1, 1, none⟩ (.slice none 0 0)) := (((Only.refl _ w2).setCell (.inl (by simp)) _).setCell (.inl (by simp)) _).setCell (.inl (by simp)) _
    have hOr : Only [w.heap.size + 1] (w2.setCell ⟨g, q, none⟩ (vU8 x)) (((w2.setCell ⟨g, q, none⟩ (vU8 x)).setCell ⟨w.heap.size + 1, 0, none⟩ (.slice (some ⟨g, 0, none⟩) z.length vc)).setCell ⟨w.heap.size + 1, 1, none⟩ (.slice none 0 0)) := ((Only.refl _ _).setCell (.inl (by simp)) _).setCell (.inl (by simp)) _
    have g2 := own_lower (own_only hset hOr (fun k hk => by simp [Value.ownBlock] at hk; simp; omega)) (Nat.le_add_right w.heap.size 2)
    have hfin := (ho1.trans0 hp2).trans hO (ds := []) (by simp) (by simp; omega)
    have hgn : g ≠ w.heap.size + 1 := by omega
    have hcr2 := hcr.out
    rw [if_pos (by omega), hq1, Nat.add_sub_cancel, ← hy, ← hxx] at hcr2
    replace hcr2 := hid hcr2
    rw [hq1] at g2 hfin
    replace g2 := hid (own_cast (xs' := bytes (z.set q x)) (n' := (z.set q x).length) g2 (by simp; omega) rfl)
    replace hq1 := hid hq1
    clear e2 hat hset hy hyz hxx hO hOr hcr
    rw [hq1.out]
    go_wp2
    exact bodyPost_ret (v := dskV (.slice (some ⟨g, 0, none⟩) (q + 1) vc) (.slice none 0 0)) (by simp [results, Try.results27, go_sem, p0, p2]) rfl ⟨_, rfl, own_cast g2.out (by rw [hcr2.out]) (by rw [hcr2.out]), hfin⟩
  · skip
    have hnc2 : (l.length : Int) ≤ (lc : Int) := by omega
    have hnc3 : (0 : Int) ≤ (l.length : Int) := by omega
    go_enter Try.func27, Try.ntmps27
    go_wp2_with fail
    rw [← hw1]
    clear hw1
    go_still_tail 6, (by kernel_rfl)
    change wpList _ _ _ _ _ w1.drew
    go_wp2_with fail
    have hb2 := hbss.out.kept0 (Only.refl [] _).drew
    with_reducible refine (hcc.out _ _ hb2).mono ?_
    rintro e w2 ⟨v2, rfl, hF, hq⟩
    have hp2 : Only [] w1 w2 := (((Only.refl [] w1).alloc _).drew).trans0 hq
    obtain ⟨va, vc, rfl⟩ := own_form hF
    obtain ⟨p0, p1⟩ := cell_kept hp2 (by simp) r0
    obtain ⟨p2, p3⟩ := cell_kept hp2 (by simp) r1
    have e2 : w2.ownsRow (w.heap.size + 2) 5 1 (.slice va z.length vc) z.length (bytes z) := own_lower hF (by have := HS1.out; simp; omega)
    obtain ⟨q, hq1⟩ : ∃ q, z.length = q + 1 := ⟨z.length - 1, by have := HZL.out; omega⟩
    have hqb : q < 1000000 := by have := HZL.out; omega
    obtain ⟨g, gc, he, hgb, hgl, gc1, gc2, hat⟩ := own_at e2 (by omega)
    simp only [Value.slice.injEq] at he
    obtain ⟨rfl, _, rfl⟩ := he
    obtain ⟨y, hy⟩ : ∃ y, y = z.getD q 0 := ⟨_, rfl⟩
    have hyz : (bytes z)[q]? = some (vU8 y) := by
      rw [hy]
      simp [bytes, List.getD, List.getElem?_eq_getElem (show q < z.length by omega)]
    obtain ⟨d1, d2⟩ := hat q _ hyz
    have hset := own_set e2 (i := q) (by omega) (vU8 (y ^^^ torn))
    rw [show (bytes z).set q (vU8 (y ^^^ torn)) = bytes (z.set q (y ^^^ torn)) by simp [bytes, List.map_set]] at hset
    have hx := xor_u8 y torn
    have hyb := u8_bound y
    have htb := u8_bound torn
    obtain ⟨x, hxx⟩ : ∃ x, x = y ^^^ torn := ⟨_, rfl⟩
    rw [← hxx] at hset hx
    have hO : Only [g, w.heap.size + 1] w2 (((w2.setCell ⟨g, q, none⟩ (vU8 x)).setCell ⟨w.heap.size + 1, 0, none⟩ (.slice (some ⟨g, 0, none⟩) z.length vc)).setCell ⟨w.heap.size + 1, 1, none⟩ (.slice none 0 0)) := (((Only.refl _ w2).setCell (.inl (by simp)) _).setCell (.inl (by simp)) _).setCell (.inl (by simp)) _
    have hOr : Only [w.heap.size + 1] (w2.setCell ⟨g, q, none⟩ (vU8 x)) (((w2.setCell ⟨g, q, none⟩ (vU8 x)).setCell ⟨w.heap.size + 1, 0, none⟩ (.slice (some ⟨g, 0, none⟩) z.length vc)).setCell ⟨w.heap.size + 1, 1, none⟩ (.slice none 0 0)) := ((Only.refl _ _).setCell (.inl (by simp)) _).setCell (.inl (by simp)) _
    have g2 := own_lower (own_only hset hOr (fun k hk => by simp [Value.ownBlock] at hk; simp; omega)) (Nat.le_add_right w.heap.size 2)
    have hfin := (ho1.trans0 hp2).trans hO (ds := []) (by simp) (by simp; omega)
    have hgn : g ≠ w.heap.size + 1 := by omega
    have hcr2 := hcr.out
    rw [if_pos (by omega), hq1, Nat.add_sub_cancel, ← hy, ← hxx] at hcr2
    replace hcr2 := hid hcr2
    rw [hq1] at g2 hfin
    replace g2 := hid (own_cast (xs' := bytes (z.set q x)) (n' := (z.set q x).length) g2 (by simp; omega) rfl)
    replace hq1 := hid hq1
    clear e2 hat hset hy hyz hxx hO hOr hcr
    rw [hq1.out]
    go_wp2
    exact bodyPost_ret (v := dskV (.slice (some ⟨g, 0, none⟩) (q + 1) vc) (.slice none 0 0)) (by simp [results, Try.results27, go_sem, p0, p2]) rfl ⟨_, rfl, own_cast g2.out (by rw [hcr2.out]) (by rw [hcr2.out]), hfin⟩
  · skip
    have hnc2 : (l.length : Int) ≤ (lc : Int) := by omega
    have hnc3 : (0 : Int) ≤ (l.length : Int) := by omega
    go_enter Try.func27, Try.ntmps27
    go_wp2_with fail
    rw [← hw1]
    clear hw1
    go_still_tail 6, (by kernel_rfl)
    change wpList _ _ _ _ _ w1.drew
    go_wp2_with fail
    have hb2 := hbss.out.kept0 (Only.refl [] _).drew
    with_reducible refine (hcc.out _ _ hb2).mono ?_
    rintro e w2 ⟨v2, rfl, hF, hq⟩
    have hp2 : Only [] w1 w2 := (((Only.refl [] w1).alloc _).drew).trans0 hq
    obtain ⟨va, vc, rfl⟩ := own_form hF
    obtain ⟨p0, p1⟩ := cell_kept hp2 (by simp) r0
    obtain ⟨p2, p3⟩ := cell_kept hp2 (by simp) r1
    have e2 : w2.ownsRow (w.heap.size + 2) 5 1 (.slice va z.length vc) z.length (bytes z) := own_lower hF (by have := HS1.out; simp; omega)
    obtain ⟨q, hq1⟩ : ∃ q, z.length = q + 1 := ⟨z.length - 1, by have := HZL.out; omega⟩
    have hqb : q < 1000000 := by have := HZL.out; omega
    obtain ⟨g, gc, he, hgb, hgl, gc1, gc2, hat⟩ := own_at e2 (by omega)
    simp only [Value.slice.injEq] at he
    obtain ⟨rfl, _, rfl⟩ := he
    obtain ⟨y, hy⟩ : ∃ y, y = z.getD q 0 := ⟨_, rfl⟩
    have hyz : (bytes z)[q]? = some (vU8 y) := by
      rw [hy]
      simp [bytes, List.getD, List.getElem?_eq_getElem (show q < z.length by omega)]
    obtain ⟨d1, d2⟩ := hat q _ hyz
    have hset := own_set e2 (i := q) (by omega) (vU8 (y ^^^ torn))
    rw [show (bytes z).set q (vU8 (y ^^^ torn)) = bytes (z.set q (y ^^^ torn)) by simp [bytes, List.map_set]] at hset
    have hx := xor_u8 y torn
    have hyb := u8_bound y
    have htb := u8_bound torn
    obtain ⟨x, hxx⟩ : ∃ x, x = y ^^^ torn := ⟨_, rfl⟩
    rw [← hxx] at hset hx
    have hO : Only [g, w.heap.size + 1] w2 (((w2.setCell ⟨g, q, none⟩ (vU8 x)).setCell ⟨w.heap.size + 1, 0, none⟩ (.slice (some ⟨g, 0, none⟩) z.length vc)).setCell ⟨w.heap.size + 1, 1, none⟩ (.slice none 0 0)) := (((Only.refl _ w2).setCell (.inl (by simp)) _).setCell (.inl (by simp)) _).setCell (.inl (by simp)) _
    have hOr : Only [w.heap.size + 1] (w2.setCell ⟨g, q, none⟩ (vU8 x)) (((w2.setCell ⟨g, q, none⟩ (vU8 x)).setCell ⟨w.heap.size + 1, 0, none⟩ (.slice (some ⟨g, 0, none⟩) z.length vc)).setCell ⟨w.heap.size + 1, 1, none⟩ (.slice none 0 0)) := ((Only.refl _ _).setCell (.inl (by simp)) _).setCell (.inl (by simp)) _
    have g2 := own_lower (own_only hset hOr (fun k hk => by simp [Value.ownBlock] at hk; simp; omega)) (Nat.le_add_right w.heap.size 2)
    have hfin := (ho1.trans0 hp2).trans hO (ds := []) (by simp) (by simp; omega)
    have hgn : g ≠ w.heap.size + 1 := by omega
    have hcr2 := hcr.out
    rw [if_pos (by omega), hq1, Nat.add_sub_cancel, ← hy, ← hxx] at hcr2
    replace hcr2 := hid hcr2
    rw [hq1] at g2 hfin
    replace g2 := hid (own_cast (xs' := bytes (z.set q x)) (n' := (z.set q x).length) g2 (by simp; omega) rfl)
    replace hq1 := hid hq1
    clear e2 hat hset hy hyz hxx hO hOr hcr
    rw [hq1.out]
    go_wp2
    exact bodyPost_ret (v := dskV (.slice (some ⟨g, 0, none⟩) (q + 1) vc) (.slice none 0 0)) (by simp [results, Try.results27, go_sem, p0, p2]) rfl ⟨_, rfl, own_cast g2.out (by rw [hcr2.out]) (by rw [hcr2.out]), hfin⟩
end Go.Proofs.Ytnlmeaijnfjakaa.Sh
