/- The document's disks: crashed: walked. (Printed by gen_rjoub.py.) -/
import Derived.Test.YtlcfmocojakhpaaRJouA
namespace Go.Proofs.Ytlcfmocojakhpaa.Sh
open Go Go.RowKit

set_option maxRecDepth 20000 in
set_option maxHeartbeats 3200000 in
theorem rcrash_any (w : World) (fv lv : Value) (f l : List UInt8) (keep : Int) (torn : UInt8) (hf : Bs w fv f) (hl : Bs w lv l) (hk : -9223372036854775808 ≤ keep ∧ keep ≤ 9223372036854775807) (hlen : f.length + l.length ≤ 500000) :
    Calls Try.prog 15 #[dskV fv lv, .int .i64 keep, .int .u8 (torn.toNat : Int)] w fun e w' => ∃ fv', e = .returned (dskV fv' (.slice none 0 0)) ∧ Fresh w w' fv' (crashL f l keep torn) ∧ Only [] w w' := by
  obtain ⟨_, fa, fc, rfl, f1, f2, f3, _⟩ := id hf
  obtain ⟨_, la, lc, rfl, l1, l2, l3, _⟩ := id hl
  obtain ⟨w1, hw1⟩ : ∃ w1, w1 = (w.alloc (Obj.cells #[.slice fa f.length fc, .slice la l.length lc] 24)).alloc (Obj.cells #[.slice none 0 0, .slice none 0 0] 24) := ⟨_, rfl⟩
  have ho1 : Only [] w w1 := by rw [hw1]; exact ((Only.refl [] w).alloc _).alloc _
  have c0 : w1.cell? ⟨w.heap.size, 0, none⟩ = some (.slice fa f.length fc) := by rw [hw1]; simp [go_sem]
  have c1 : w1.cell? ⟨w.heap.size, 1, none⟩ = some (.slice la l.length lc) := by rw [hw1]; simp [go_sem]
  have r0 : w1.cell? ⟨w.heap.size + 1, 0, none⟩ = some (.slice none 0 0) ∧ w1.frozen? ⟨w.heap.size + 1, 0, none⟩ = false := by rw [hw1]; constructor <;> simp [go_sem]
  have r1 : w1.cell? ⟨w.heap.size + 1, 1, none⟩ = some (.slice none 0 0) ∧ w1.frozen? ⟨w.heap.size + 1, 1, none⟩ = false := by rw [hw1]; constructor <;> simp [go_sem]
  have hs1 : w1.heap.size = w.heap.size + 2 := by rw [hw1]; simp
  obtain ⟨n, hn⟩ : ∃ n, n = keepN keep l.length := ⟨_, rfl⟩
  have hnl : n ≤ l.length := by rw [hn]; unfold keepN; omega
  obtain ⟨z, hz⟩ : ∃ z, z = f ++ l.take n := ⟨_, rfl⟩
  have hzl : z.length = f.length + n := by rw [hz]; simp; omega
  have hlt := (hl.kept0 ho1).pre n hnl
  have hf1 := hf.kept0 ho1
  obtain ⟨T, hT⟩ : ∃ T, T = l.take n := ⟨_, rfl⟩
  rw [← hT] at hlt hz
  have hTl : T.length = n := by rw [hT]; simp; omega
  obtain ⟨Z, hZ⟩ : ∃ Z, Z = crashL f l keep torn := ⟨_, rfl⟩
  rw [← hZ]
  have hcr : Hid (Z = if 0 < n then z.set (z.length - 1) (z.getD (z.length - 1) 0 ^^^ torn) else z) := by
    show _ = _
    rw [hZ]
    unfold crashL
    rw [← hn, ← hT, ← hz, hzl]
  clear hZ hT
  have hnk : (keep < 0 ∧ n = 0) ∨ (keep = 0 ∧ 0 < l.length ∧ n = 0) ∨ (0 < keep ∧ l = [] ∧ n = 0) ∨ (keep = 0 ∧ l = [] ∧ n = 0) ∨ (0 < n ∧ n < l.length ∧ keep = (n : Int)) ∨ (0 < l.length ∧ keep = (l.length : Int) ∧ n = l.length) ∨ (0 < l.length ∧ (l.length : Int) < keep ∧ n = l.length) := by
    have h0 : l.length = 0 → l = [] := List.eq_nil_of_length_eq_zero
    rw [hn]; unfold keepN
    by_cases h : l.length = 0
    · have := h0 h
      subst this
      simp
      omega
    · omega
  have HS1 := hid hs1
  have HZL := hid hzl
  have HZ := hid hz
  have HTL := hid hTl
  have hTs : T.length ≤ 500000 := by omega
  have hod : Only [] w1 (w1.alloc (Obj.cells #[] 5)).drew := ((Only.refl [] w1).alloc _).drew
  have ob : (w1.alloc (Obj.cells #[] 5)).drew.ownsRow w1.heap.size 5 1 (.slice (some ⟨w1.heap.size, 0, none⟩) 0 0) 0 [] := ownsRow_drew (own_built w1 [] 5 1 0 rfl (by unfold maxLen; omega))
  have e0 := hod.cell c0 (by simp)
  have e1 := hod.cell c1 (by simp)
  clear hn hz hs1 hzl hTl
  rcases hnk with ⟨k1, rfl⟩ | ⟨rfl, k2, rfl⟩ | ⟨k1, rfl, rfl⟩ | ⟨rfl, rfl, rfl⟩ | ⟨k1, k2, rfl⟩ | ⟨k1, rfl, rfl⟩ | ⟨k1, k2, rfl⟩
  · skip
    go_enter Try.func15, Try.ntmps15
    go_wp2_with fail
    rw [← hw1]
    clear hw1
    go_region_law (first
      | ((refine step_app (by rfl) _ _ 22 (by rfl) w1.heap.size 5 1 1 el_u8 (by rfl) ob (by rfl) (hf1.kept0 hod) (bytes_one f) (by omega) (by omega) (by simp) ?_); intro v2 w2 own2 app2; rw [Nat.zero_add, List.nil_append] at own2; have p2 : Only [] w1 w2 := hod.app app2 (fun i hi => .inr (ob.lt i hi).1); obtain ⟨xa, xc, rfl⟩ := own_form own2; have d0 := p2.cell c0 (by simp); have d1 := p2.cell c1 (by simp))
      | ((refine step_app (by rfl) _ _ 22 (by rfl) w1.heap.size 5 1 1 el_u8 (by rfl) own2 (by rfl) (hlt.kept0 p2) (bytes_one T) (by omega) (by omega) (by have := p2.size; omega) ?_); intro v3 w3 own3 app3; have p3 : Only [] w1 w3 := p2.app app3 (fun i hi => .inr (own2.lt i hi).1); replace own3 := own_cast (n' := z.length) (xs' := bytes z) own3 (by rw [HZL.out, HTL.out]) (by rw [HZ.out]; simp [bytes]); obtain ⟨ya, yc, rfl⟩ := own_form own3))
    all_goals
      obtain ⟨p0, p1⟩ := cell_kept p3 (by simp) r0
      obtain ⟨p2', p3'⟩ := cell_kept p3 (by simp) r1
      have e2 : w3.ownsRow (w.heap.size + 2) 5 1 (.slice ya z.length yc) z.length (bytes z) := own_lower own3 (by have := HS1.out; omega)
      have hO : Only [w.heap.size + 1] w3 ((w3.setCell ⟨w.heap.size + 1, 0, none⟩ (.slice ya z.length yc)).setCell ⟨w.heap.size + 1, 1, none⟩ (.slice none 0 0)) := ((Only.refl _ w3).setCell (.inl (by simp)) _).setCell (.inl (by simp)) _
      have hcr2 := hcr.out
      rw [if_neg (by simp)] at hcr2
      replace hcr2 := hid hcr2
      have g2 := hid (own_lower (own_only e2 hO (fun k hk => by have := (e2.lt k hk).1; simp; omega)) (Nat.le_add_right w.heap.size 2))
      have hfin := (ho1.trans0 p3).trans hO (ds := []) (by simp) (by simp)
      clear e2 hO hcr own3 own2 app2 app3 d0 d1
      go_wp2
      exact bodyPost_ret (v := dskV (.slice ya z.length yc) (.slice none 0 0)) (by simp [results, Try.results15, go_sem, p0, p2']) rfl ⟨_, rfl, own_cast g2.out (by rw [hcr2.out]) (by rw [hcr2.out]), hfin⟩
  · skip
    go_enter Try.func15, Try.ntmps15
    go_wp2_with fail
    rw [← hw1]
    clear hw1
    go_region_law (first
      | ((refine step_app (by rfl) _ _ 22 (by rfl) w1.heap.size 5 1 1 el_u8 (by rfl) ob (by rfl) (hf1.kept0 hod) (bytes_one f) (by omega) (by omega) (by simp) ?_); intro v2 w2 own2 app2; rw [Nat.zero_add, List.nil_append] at own2; have p2 : Only [] w1 w2 := hod.app app2 (fun i hi => .inr (ob.lt i hi).1); obtain ⟨xa, xc, rfl⟩ := own_form own2; have d0 := p2.cell c0 (by simp); have d1 := p2.cell c1 (by simp))
      | ((refine step_app (by rfl) _ _ 22 (by rfl) w1.heap.size 5 1 1 el_u8 (by rfl) own2 (by rfl) (hlt.kept0 p2) (bytes_one T) (by omega) (by omega) (by have := p2.size; omega) ?_); intro v3 w3 own3 app3; have p3 : Only [] w1 w3 := p2.app app3 (fun i hi => .inr (own2.lt i hi).1); replace own3 := own_cast (n' := z.length) (xs' := bytes z) own3 (by rw [HZL.out, HTL.out]) (by rw [HZ.out]; simp [bytes]); obtain ⟨ya, yc, rfl⟩ := own_form own3))
    all_goals
      obtain ⟨p0, p1⟩ := cell_kept p3 (by simp) r0
      obtain ⟨p2', p3'⟩ := cell_kept p3 (by simp) r1
      have e2 : w3.ownsRow (w.heap.size + 2) 5 1 (.slice ya z.length yc) z.length (bytes z) := own_lower own3 (by have := HS1.out; omega)
      have hO : Only [w.heap.size + 1] w3 ((w3.setCell ⟨w.heap.size + 1, 0, none⟩ (.slice ya z.length yc)).setCell ⟨w.heap.size + 1, 1, none⟩ (.slice none 0 0)) := ((Only.refl _ w3).setCell (.inl (by simp)) _).setCell (.inl (by simp)) _
      have hcr2 := hcr.out
      rw [if_neg (by simp)] at hcr2
      replace hcr2 := hid hcr2
      have g2 := hid (own_lower (own_only e2 hO (fun k hk => by have := (e2.lt k hk).1; simp; omega)) (Nat.le_add_right w.heap.size 2))
      have hfin := (ho1.trans0 p3).trans hO (ds := []) (by simp) (by simp)
      clear e2 hO hcr own3 own2 app2 app3 d0 d1
      go_wp2
      exact bodyPost_ret (v := dskV (.slice ya z.length yc) (.slice none 0 0)) (by simp [results, Try.results15, go_sem, p0, p2']) rfl ⟨_, rfl, own_cast g2.out (by rw [hcr2.out]) (by rw [hcr2.out]), hfin⟩
  · skip
    simp only [List.length_nil] at hw1 c1 e1 hlt l1 l2 l3
    go_enter Try.func15, Try.ntmps15
    go_wp2_with fail
    rw [← hw1]
    clear hw1
    go_region_law (first
      | ((refine step_app (by rfl) _ _ 22 (by rfl) w1.heap.size 5 1 1 el_u8 (by rfl) ob (by rfl) (hf1.kept0 hod) (bytes_one f) (by omega) (by omega) (by simp) ?_); intro v2 w2 own2 app2; rw [Nat.zero_add, List.nil_append] at own2; have p2 : Only [] w1 w2 := hod.app app2 (fun i hi => .inr (ob.lt i hi).1); obtain ⟨xa, xc, rfl⟩ := own_form own2; have d0 := p2.cell c0 (by simp); have d1 := p2.cell c1 (by simp))
      | ((refine step_app (by rfl) _ _ 22 (by rfl) w1.heap.size 5 1 1 el_u8 (by rfl) own2 (by rfl) (hlt.kept0 p2) (bytes_one T) (by omega) (by omega) (by have := p2.size; omega) ?_); intro v3 w3 own3 app3; have p3 : Only [] w1 w3 := p2.app app3 (fun i hi => .inr (own2.lt i hi).1); replace own3 := own_cast (n' := z.length) (xs' := bytes z) own3 (by rw [HZL.out, HTL.out]) (by rw [HZ.out]; simp [bytes]); obtain ⟨ya, yc, rfl⟩ := own_form own3))
    all_goals
      obtain ⟨p0, p1⟩ := cell_kept p3 (by simp) r0
      obtain ⟨p2', p3'⟩ := cell_kept p3 (by simp) r1
      have e2 : w3.ownsRow (w.heap.size + 2) 5 1 (.slice ya z.length yc) z.length (bytes z) := own_lower own3 (by have := HS1.out; omega)
      have hO : Only [w.heap.size + 1] w3 ((w3.setCell ⟨w.heap.size + 1, 0, none⟩ (.slice ya z.length yc)).setCell ⟨w.heap.size + 1, 1, none⟩ (.slice none 0 0)) := ((Only.refl _ w3).setCell (.inl (by simp)) _).setCell (.inl (by simp)) _
      have hcr2 := hcr.out
      rw [if_neg (by simp)] at hcr2
      replace hcr2 := hid hcr2
      have g2 := hid (own_lower (own_only e2 hO (fun k hk => by have := (e2.lt k hk).1; simp; omega)) (Nat.le_add_right w.heap.size 2))
      have hfin := (ho1.trans0 p3).trans hO (ds := []) (by simp) (by simp)
      clear e2 hO hcr own3 own2 app2 app3 d0 d1
      go_wp2
      exact bodyPost_ret (v := dskV (.slice ya z.length yc) (.slice none 0 0)) (by simp [results, Try.results15, go_sem, p0, p2']) rfl ⟨_, rfl, own_cast g2.out (by rw [hcr2.out]) (by rw [hcr2.out]), hfin⟩
  · skip
    simp only [List.length_nil] at hw1 c1 e1 hlt l1 l2 l3
    go_enter Try.func15, Try.ntmps15
    go_wp2_with fail
    rw [← hw1]
    clear hw1
    go_region_law (first
      | ((refine step_app (by rfl) _ _ 22 (by rfl) w1.heap.size 5 1 1 el_u8 (by rfl) ob (by rfl) (hf1.kept0 hod) (bytes_one f) (by omega) (by omega) (by simp) ?_); intro v2 w2 own2 app2; rw [Nat.zero_add, List.nil_append] at own2; have p2 : Only [] w1 w2 := hod.app app2 (fun i hi => .inr (ob.lt i hi).1); obtain ⟨xa, xc, rfl⟩ := own_form own2; have d0 := p2.cell c0 (by simp); have d1 := p2.cell c1 (by simp))
      | ((refine step_app (by rfl) _ _ 22 (by rfl) w1.heap.size 5 1 1 el_u8 (by rfl) own2 (by rfl) (hlt.kept0 p2) (bytes_one T) (by omega) (by omega) (by have := p2.size; omega) ?_); intro v3 w3 own3 app3; have p3 : Only [] w1 w3 := p2.app app3 (fun i hi => .inr (own2.lt i hi).1); replace own3 := own_cast (n' := z.length) (xs' := bytes z) own3 (by rw [HZL.out, HTL.out]) (by rw [HZ.out]; simp [bytes]); obtain ⟨ya, yc, rfl⟩ := own_form own3))
    all_goals
      obtain ⟨p0, p1⟩ := cell_kept p3 (by simp) r0
      obtain ⟨p2', p3'⟩ := cell_kept p3 (by simp) r1
      have e2 : w3.ownsRow (w.heap.size + 2) 5 1 (.slice ya z.length yc) z.length (bytes z) := own_lower own3 (by have := HS1.out; omega)
      have hO : Only [w.heap.size + 1] w3 ((w3.setCell ⟨w.heap.size + 1, 0, none⟩ (.slice ya z.length yc)).setCell ⟨w.heap.size + 1, 1, none⟩ (.slice none 0 0)) := ((Only.refl _ w3).setCell (.inl (by simp)) _).setCell (.inl (by simp)) _
      have hcr2 := hcr.out
      rw [if_neg (by simp)] at hcr2
      replace hcr2 := hid hcr2
      have g2 := hid (own_lower (own_only e2 hO (fun k hk => by have := (e2.lt k hk).1; simp; omega)) (Nat.le_add_right w.heap.size 2))
      have hfin := (ho1.trans0 p3).trans hO (ds := []) (by simp) (by simp)
      clear e2 hO hcr own3 own2 app2 app3 d0 d1
      go_wp2
      exact bodyPost_ret (v := dskV (.slice ya z.length yc) (.slice none 0 0)) (by simp [results, Try.results15, go_sem, p0, p2']) rfl ⟨_, rfl, own_cast g2.out (by rw [hcr2.out]) (by rw [hcr2.out]), hfin⟩
  · skip
    have hnc2 : (n : Int) ≤ (lc : Int) := by omega
    have hnc3 : (0 : Int) ≤ (n : Int) := by omega
    go_enter Try.func15, Try.ntmps15
    go_wp2_with fail
    rw [← hw1]
    clear hw1
    go_region_law (first
      | ((refine step_app (by rfl) _ _ 22 (by rfl) w1.heap.size 5 1 1 el_u8 (by rfl) ob (by rfl) (hf1.kept0 hod) (bytes_one f) (by omega) (by omega) (by simp) ?_); intro v2 w2 own2 app2; rw [Nat.zero_add, List.nil_append] at own2; have p2 : Only [] w1 w2 := hod.app app2 (fun i hi => .inr (ob.lt i hi).1); obtain ⟨xa, xc, rfl⟩ := own_form own2; have d0 := p2.cell c0 (by simp); have d1 := p2.cell c1 (by simp))
      | ((refine step_app (by rfl) _ _ 22 (by rfl) w1.heap.size 5 1 1 el_u8 (by rfl) own2 (by rfl) (hlt.kept0 p2) (bytes_one T) (by omega) (by omega) (by have := p2.size; omega) ?_); intro v3 w3 own3 app3; have p3 : Only [] w1 w3 := p2.app app3 (fun i hi => .inr (own2.lt i hi).1); replace own3 := own_cast (n' := z.length) (xs' := bytes z) own3 (by rw [HZL.out, HTL.out]) (by rw [HZ.out]; simp [bytes]); obtain ⟨ya, yc, rfl⟩ := own_form own3))
    all_goals
      obtain ⟨p0, p1⟩ := cell_kept p3 (by simp) r0
      obtain ⟨p2', p3'⟩ := cell_kept p3 (by simp) r1
      have e2 : w3.ownsRow (w.heap.size + 2) 5 1 (.slice ya z.length yc) z.length (bytes z) := own_lower own3 (by have := HS1.out; omega)
      obtain ⟨q, hq1⟩ : ∃ q, z.length = q + 1 := ⟨z.length - 1, by have := HZL.out; omega⟩
      have hqb : q < 1000000 := by have := HZL.out; omega
      obtain ⟨g, gc, he, hgb, hgl, gc1, gc2, hat⟩ := own_at e2 (by omega)
      simp only [Value.slice.injEq] at he
      obtain ⟨rfl, _, rfl⟩ := he
      obtain ⟨y, hy⟩ : ∃ y, y = z.getD q 0 := ⟨_, rfl⟩
      have hyz : (bytes z)[q]? = some (vU8 y) := by
        rw [hy]
        simp [bytes, List.getD, List.getElem?_eq_getElem (show q < z.length by omega)]
      obtain ⟨d1', d2'⟩ := hat q _ hyz
      have hset := own_set e2 (i := q) (by omega) (vU8 (y ^^^ torn))
      rw [show (bytes z).set q (vU8 (y ^^^ torn)) = bytes (z.set q (y ^^^ torn)) by simp [bytes, List.map_set]] at hset
      have hx := xor_u8 y torn
      have hyb := u8_bound y
      have htb := u8_bound torn
      obtain ⟨x, hxx⟩ : ∃ x, x = y ^^^ torn := ⟨_, rfl⟩
      rw [← hxx] at hset hx
      have hO : Only [g, w.heap.size + 1] w3 (((w3.setCell ⟨g, q, none⟩ (vU8 x)).setCell ⟨w.heap.size + 1, 0, none⟩ (.slice (some ⟨g, 0, none⟩) z.length yc)).setCell ⟨w.heap.size + 1, 1, none⟩ (.slice none 0 0)) := (((Only.refl _ w3).setCell (.inl (by simp)) _).setCell (.inl (by simp)) _).setCell (.inl (by simp)) _
      have hOr : Only [w.heap.size + 1] (w3.setCell ⟨g, q, none⟩ (vU8 x)) (((w3.setCell ⟨g, q, none⟩ (vU8 x)).setCell ⟨w.heap.size + 1, 0, none⟩ (.slice (some ⟨g, 0, none⟩) z.length yc)).setCell ⟨w.heap.size + 1, 1, none⟩ (.slice none 0 0)) := ((Only.refl _ _).setCell (.inl (by simp)) _).setCell (.inl (by simp)) _
      have g2 := own_lower (own_only hset hOr (fun k hk => by simp [Value.ownBlock] at hk; simp; omega)) (Nat.le_add_right w.heap.size 2)
      have hfin := (ho1.trans0 p3).trans hO (ds := []) (by simp) (by simp; omega)
      have hgn : g ≠ w.heap.size + 1 := by omega
      have hcr2 := hcr.out
      rw [if_pos (by omega), hq1, Nat.add_sub_cancel, ← hy, ← hxx] at hcr2
      replace hcr2 := hid hcr2
      rw [hq1] at g2 hfin
      replace g2 := hid (own_cast (xs' := bytes (z.set q x)) (n' := (z.set q x).length) g2 (by simp; omega) rfl)
      replace hq1 := hid hq1
      clear e2 hat hset hy hyz hxx hO hOr hcr own3 own2 app2 app3 d0 d1
      rw [hq1.out]
      go_wp2
      exact bodyPost_ret (v := dskV (.slice (some ⟨g, 0, none⟩) (q + 1) yc) (.slice none 0 0)) (by simp [results, Try.results15, go_sem, p0, p2']) rfl ⟨_, rfl, own_cast g2.out (by rw [hcr2.out]) (by rw [hcr2.out]), hfin⟩
  · skip
    have hnc2 : (l.length : Int) ≤ (lc : Int) := by omega
    have hnc3 : (0 : Int) ≤ (l.length : Int) := by omega
    go_enter Try.func15, Try.ntmps15
    go_wp2_with fail
    rw [← hw1]
    clear hw1
    go_region_law (first
      | ((refine step_app (by rfl) _ _ 22 (by rfl) w1.heap.size 5 1 1 el_u8 (by rfl) ob (by rfl) (hf1.kept0 hod) (bytes_one f) (by omega) (by omega) (by simp) ?_); intro v2 w2 own2 app2; rw [Nat.zero_add, List.nil_append] at own2; have p2 : Only [] w1 w2 := hod.app app2 (fun i hi => .inr (ob.lt i hi).1); obtain ⟨xa, xc, rfl⟩ := own_form own2; have d0 := p2.cell c0 (by simp); have d1 := p2.cell c1 (by simp))
      | ((refine step_app (by rfl) _ _ 22 (by rfl) w1.heap.size 5 1 1 el_u8 (by rfl) own2 (by rfl) (hlt.kept0 p2) (bytes_one T) (by omega) (by omega) (by have := p2.size; omega) ?_); intro v3 w3 own3 app3; have p3 : Only [] w1 w3 := p2.app app3 (fun i hi => .inr (own2.lt i hi).1); replace own3 := own_cast (n' := z.length) (xs' := bytes z) own3 (by rw [HZL.out, HTL.out]) (by rw [HZ.out]; simp [bytes]); obtain ⟨ya, yc, rfl⟩ := own_form own3))
    all_goals
      obtain ⟨p0, p1⟩ := cell_kept p3 (by simp) r0
      obtain ⟨p2', p3'⟩ := cell_kept p3 (by simp) r1
      have e2 : w3.ownsRow (w.heap.size + 2) 5 1 (.slice ya z.length yc) z.length (bytes z) := own_lower own3 (by have := HS1.out; omega)
      obtain ⟨q, hq1⟩ : ∃ q, z.length = q + 1 := ⟨z.length - 1, by have := HZL.out; omega⟩
      have hqb : q < 1000000 := by have := HZL.out; omega
      obtain ⟨g, gc, he, hgb, hgl, gc1, gc2, hat⟩ := own_at e2 (by omega)
      simp only [Value.slice.injEq] at he
      obtain ⟨rfl, _, rfl⟩ := he
      obtain ⟨y, hy⟩ : ∃ y, y = z.getD q 0 := ⟨_, rfl⟩
      have hyz : (bytes z)[q]? = some (vU8 y) := by
        rw [hy]
        simp [bytes, List.getD, List.getElem?_eq_getElem (show q < z.length by omega)]
      obtain ⟨d1', d2'⟩ := hat q _ hyz
      have hset := own_set e2 (i := q) (by omega) (vU8 (y ^^^ torn))
      rw [show (bytes z).set q (vU8 (y ^^^ torn)) = bytes (z.set q (y ^^^ torn)) by simp [bytes, List.map_set]] at hset
      have hx := xor_u8 y torn
      have hyb := u8_bound y
      have htb := u8_bound torn
      obtain ⟨x, hxx⟩ : ∃ x, x = y ^^^ torn := ⟨_, rfl⟩
      rw [← hxx] at hset hx
      have hO : Only [g, w.heap.size + 1] w3 (((w3.setCell ⟨g, q, none⟩ (vU8 x)).setCell ⟨w.heap.size + 1, 0, none⟩ (.slice (some ⟨g, 0, none⟩) z.length yc)).setCell ⟨w.heap.size + 1, 1, none⟩ (.slice none 0 0)) := (((Only.refl _ w3).setCell (.inl (by simp)) _).setCell (.inl (by simp)) _).setCell (.inl (by simp)) _
      have hOr : Only [w.heap.size + 1] (w3.setCell ⟨g, q, none⟩ (vU8 x)) (((w3.setCell ⟨g, q, none⟩ (vU8 x)).setCell ⟨w.heap.size + 1, 0, none⟩ (.slice (some ⟨g, 0, none⟩) z.length yc)).setCell ⟨w.heap.size + 1, 1, none⟩ (.slice none 0 0)) := ((Only.refl _ _).setCell (.inl (by simp)) _).setCell (.inl (by simp)) _
      have g2 := own_lower (own_only hset hOr (fun k hk => by simp [Value.ownBlock] at hk; simp; omega)) (Nat.le_add_right w.heap.size 2)
      have hfin := (ho1.trans0 p3).trans hO (ds := []) (by simp) (by simp; omega)
      have hgn : g ≠ w.heap.size + 1 := by omega
      have hcr2 := hcr.out
      rw [if_pos (by omega), hq1, Nat.add_sub_cancel, ← hy, ← hxx] at hcr2
      replace hcr2 := hid hcr2
      rw [hq1] at g2 hfin
      replace g2 := hid (own_cast (xs' := bytes (z.set q x)) (n' := (z.set q x).length) g2 (by simp; omega) rfl)
      replace hq1 := hid hq1
      clear e2 hat hset hy hyz hxx hO hOr hcr own3 own2 app2 app3 d0 d1
      rw [hq1.out]
      go_wp2
      exact bodyPost_ret (v := dskV (.slice (some ⟨g, 0, none⟩) (q + 1) yc) (.slice none 0 0)) (by simp [results, Try.results15, go_sem, p0, p2']) rfl ⟨_, rfl, own_cast g2.out (by rw [hcr2.out]) (by rw [hcr2.out]), hfin⟩
  · skip
    have hnc2 : (l.length : Int) ≤ (lc : Int) := by omega
    have hnc3 : (0 : Int) ≤ (l.length : Int) := by omega
    go_enter Try.func15, Try.ntmps15
    go_wp2_with fail
    rw [← hw1]
    clear hw1
    go_region_law (first
      | ((refine step_app (by rfl) _ _ 22 (by rfl) w1.heap.size 5 1 1 el_u8 (by rfl) ob (by rfl) (hf1.kept0 hod) (bytes_one f) (by omega) (by omega) (by simp) ?_); intro v2 w2 own2 app2; rw [Nat.zero_add, List.nil_append] at own2; have p2 : Only [] w1 w2 := hod.app app2 (fun i hi => .inr (ob.lt i hi).1); obtain ⟨xa, xc, rfl⟩ := own_form own2; have d0 := p2.cell c0 (by simp); have d1 := p2.cell c1 (by simp))
      | ((refine step_app (by rfl) _ _ 22 (by rfl) w1.heap.size 5 1 1 el_u8 (by rfl) own2 (by rfl) (hlt.kept0 p2) (bytes_one T) (by omega) (by omega) (by have := p2.size; omega) ?_); intro v3 w3 own3 app3; have p3 : Only [] w1 w3 := p2.app app3 (fun i hi => .inr (own2.lt i hi).1); replace own3 := own_cast (n' := z.length) (xs' := bytes z) own3 (by rw [HZL.out, HTL.out]) (by rw [HZ.out]; simp [bytes]); obtain ⟨ya, yc, rfl⟩ := own_form own3))
    all_goals
      obtain ⟨p0, p1⟩ := cell_kept p3 (by simp) r0
      obtain ⟨p2', p3'⟩ := cell_kept p3 (by simp) r1
      have e2 : w3.ownsRow (w.heap.size + 2) 5 1 (.slice ya z.length yc) z.length (bytes z) := own_lower own3 (by have := HS1.out; omega)
      obtain ⟨q, hq1⟩ : ∃ q, z.length = q + 1 := ⟨z.length - 1, by have := HZL.out; omega⟩
      have hqb : q < 1000000 := by have := HZL.out; omega
      obtain ⟨g, gc, he, hgb, hgl, gc1, gc2, hat⟩ := own_at e2 (by omega)
      simp only [Value.slice.injEq] at he
      obtain ⟨rfl, _, rfl⟩ := he
      obtain ⟨y, hy⟩ : ∃ y, y = z.getD q 0 := ⟨_, rfl⟩
      have hyz : (bytes z)[q]? = some (vU8 y) := by
        rw [hy]
        simp [bytes, List.getD, List.getElem?_eq_getElem (show q < z.length by omega)]
      obtain ⟨d1', d2'⟩ := hat q _ hyz
      have hset := own_set e2 (i := q) (by omega) (vU8 (y ^^^ torn))
      rw [show (bytes z).set q (vU8 (y ^^^ torn)) = bytes (z.set q (y ^^^ torn)) by simp [bytes, List.map_set]] at hset
      have hx := xor_u8 y torn
      have hyb := u8_bound y
      have htb := u8_bound torn
      obtain ⟨x, hxx⟩ : ∃ x, x = y ^^^ torn := ⟨_, rfl⟩
      rw [← hxx] at hset hx
      have hO : Only [g, w.heap.size + 1] w3 (((w3.setCell ⟨g, q, none⟩ (vU8 x)).setCell ⟨w.heap.size + 1, 0, none⟩ (.slice (some ⟨g, 0, none⟩) z.length yc)).setCell ⟨w.heap.size + 1, 1, none⟩ (.slice none 0 0)) := (((Only.refl _ w3).setCell (.inl (by simp)) _).setCell (.inl (by simp)) _).setCell (.inl (by simp)) _
      have hOr : Only [w.heap.size + 1] (w3.setCell ⟨g, q, none⟩ (vU8 x)) (((w3.setCell ⟨g, q, none⟩ (vU8 x)).setCell ⟨w.heap.size + 1, 0, none⟩ (.slice (some ⟨g, 0, none⟩) z.length yc)).setCell ⟨w.heap.size + 1, 1, none⟩ (.slice none 0 0)) := ((Only.refl _ _).setCell (.inl (by simp)) _).setCell (.inl (by simp)) _
      have g2 := own_lower (own_only hset hOr (fun k hk => by simp [Value.ownBlock] at hk; simp; omega)) (Nat.le_add_right w.heap.size 2)
      have hfin := (ho1.trans0 p3).trans hO (ds := []) (by simp) (by simp; omega)
      have hgn : g ≠ w.heap.size + 1 := by omega
      have hcr2 := hcr.out
      rw [if_pos (by omega), hq1, Nat.add_sub_cancel, ← hy, ← hxx] at hcr2
      replace hcr2 := hid hcr2
      rw [hq1] at g2 hfin
      replace g2 := hid (own_cast (xs' := bytes (z.set q x)) (n' := (z.set q x).length) g2 (by simp; omega) rfl)
      replace hq1 := hid hq1
      clear e2 hat hset hy hyz hxx hO hOr hcr own3 own2 app2 app3 d0 d1
      rw [hq1.out]
      go_wp2
      exact bodyPost_ret (v := dskV (.slice (some ⟨g, 0, none⟩) (q + 1) yc) (.slice none 0 0)) (by simp [results, Try.results15, go_sem, p0, p2']) rfl ⟨_, rfl, own_cast g2.out (by rw [hcr2.out]) (by rw [hcr2.out]), hfin⟩
end Go.Proofs.Ytlcfmocojakhpaa.Sh
