/- Disks: all bytes, written to, fast: walked. -/
import Derived.Test.YtnlmeaijnfjakaaConcat
import Derived.Deep.RegionHeld3
namespace Go.Proofs.Ytnlmeaijnfjakaa.Sh
set_option linter.unusedSimpArgs false
set_option linter.unusedVariables false
open Go Go.RowKit

@[reducible] def dskV (fv lv : Value) : Value := .agg #[fv, lv]

theorem bss_two {w : World} {u v : Value} {l m : List UInt8} (hu : Bs w u l) (hv : Bs w v m) (t : TypeId) : Bss (w.alloc (Obj.cells #[u, v] t)) (.slice (some ⟨w.heap.size, 0, none⟩) 2 2) [l, m] :=
  ⟨[u, v], cs_built w [u, v] t 1 2 _ rfl (by omega), .cons (hu.kept0 ((Only.refl [] w).alloc _)) (.cons (hv.kept0 ((Only.refl [] w).alloc _)) .nil)⟩
theorem bs_form {w : World} {v : Value} {l : List UInt8} (h : Bs w v l) : ∃ a c, v = .slice a l.length c := by
  obtain ⟨_, a, c, rfl, _⟩ := h
  exact ⟨a, c, rfl⟩

set_option maxRecDepth 20000 in
set_option maxHeartbeats 1600000 in
theorem dall_any (w : World) (fv lv : Value) (f l : List UInt8) (hf : Bs w fv f) (hl : Bs w lv l) (hlen : f.length + l.length ≤ 500000) :
    Calls Try.prog 57 #[dskV fv lv] w fun e w' => ∃ v', e = .returned v' ∧ Fresh w w' v' (f ++ l) ∧ Only [] w w' := by
  obtain ⟨fa, fc, rfl⟩ := bs_form hf
  obtain ⟨la, lc, rfl⟩ := bs_form hl
  have hoa : Only [] w (w.alloc (Obj.cells #[.slice fa f.length fc, .slice la l.length lc] 29)) := (Only.refl [] w).alloc _
  have hbss := bss_two (hf.kept0 hoa) (hl.kept0 hoa) 27
  have hob := hoa.alloc (Obj.cells #[.slice fa f.length fc, .slice la l.length lc] 27)
  have hcon := concat_any _ [f, l] _ hbss (by simp; omega)
  obtain ⟨z, hz⟩ : ∃ z, z = f ++ l := ⟨_, rfl⟩
  rw [show [f, l].flatten = z by simp [hz]] at hcon
  rw [← hz]
  clear hz
  rw [World.size_alloc] at hcon
  replace hcon := hid hcon
  have hsz : w.heap.size ≤ (w.alloc (Obj.cells #[.slice fa f.length fc, .slice la l.length lc] 29)).heap.size := hoa.size
  go_enter Try.func57, Try.ntmps57
  go_wp2_with fail
  with_reducible refine hcon.out.mono ?_
  rintro e w1 ⟨v1, rfl, hF, ho⟩
  obtain ⟨a1, c1, rfl⟩ := own_form hF
  go_wp2
  go_ret
  exact ⟨_, rfl, hF.before hob.size, hob.trans0 ho⟩

set_option maxRecDepth 20000 in
set_option maxHeartbeats 1600000 in
theorem write_any (w : World) (fv lv bv : Value) (f l b : List UInt8) (hf : Bs w fv f) (hl : Bs w lv l) (hb : Bs w bv b) (hlen : f.length + l.length + b.length ≤ 500000) :
    Calls Try.prog 74 #[dskV fv lv, bv] w fun e w' => ∃ fv' lv', e = .returned (dskV fv' lv') ∧ Fresh w w' fv' f ∧ Fresh w w' lv' (l ++ b) ∧ Only [] w w' := by
  obtain ⟨fa, fc, rfl⟩ := bs_form hf
  obtain ⟨la, lc, rfl⟩ := bs_form hl
  obtain ⟨ba, bc, rfl⟩ := bs_form hb
  obtain ⟨z, hz⟩ : ∃ z, z = l ++ b := ⟨_, rfl⟩
  rw [← hz]
  have HZ := hid hz
  clear hz
  go_enter Try.func74, Try.ntmps74
  go_wp2_with fail
  obtain ⟨w1, hw1⟩ : ∃ w1, w1 = (w.alloc (Obj.cells #[.slice fa f.length fc, .slice la l.length lc] 29)).alloc (Obj.cells #[.slice none 0 0, .slice none 0 0] 29) := ⟨_, rfl⟩
  have ho1 : Only [] w w1 := by rw [hw1]; exact ((Only.refl [] w).alloc _).alloc _
  have c0 : w1.cell? ⟨w.heap.size, 0, none⟩ = some (.slice fa f.length fc) := by rw [hw1]; simp [go_sem]
  have c1 : w1.cell? ⟨w.heap.size, 1, none⟩ = some (.slice la l.length lc) := by rw [hw1]; simp [go_sem]
  have r0 : w1.cell? ⟨w.heap.size + 1, 0, none⟩ = some (.slice none 0 0) ∧ w1.frozen? ⟨w.heap.size + 1, 0, none⟩ = false := by rw [hw1]; constructor <;> simp [go_sem]
  have r1 : w1.cell? ⟨w.heap.size + 1, 1, none⟩ = some (.slice none 0 0) ∧ w1.frozen? ⟨w.heap.size + 1, 1, none⟩ = false := by rw [hw1]; constructor <;> simp [go_sem]
  have hs1 : w1.heap.size = w.heap.size + 2 := by rw [hw1]; simp
  rw [← hw1]
  clear hw1
  have hod : Only [] w1 w1.drew := (Only.refl [] w1).drew
  have hfd := (hf.kept0 ho1).kept0 hod
  have hld := (hl.kept0 ho1).kept0 hod
  have hbd := (hb.kept0 ho1).kept0 hod
  have hcl := hid (fun W (h : Only [] w1 W) => clone_any (.slice fa f.length fc) f W ((hf.kept0 ho1).kept0 h) (by omega))
  have hz := HZ.out
  have hcc := fun W g (h : Bss W (.slice (some ⟨g, 0, none⟩) 2 2) [l, b]) => (concat_any _ [l, b] W h (by simp; omega))
  simp only [show [l, b].flatten = z by simp [hz]] at hcc
  replace hcc := hid hcc
  clear hz
  go_region_held3 (fun w' => w'.cell? ⟨w.heap.size, 0, none⟩ = some (.slice fa f.length fc) ∧ w'.cell? ⟨w.heap.size, 1, none⟩ = some (.slice la l.length lc)) (first | exact ⟨c0, c1⟩ | go_keep | exact ⟨hp2.cell c0 (by simp), hp2.cell c1 (by simp)⟩ | exact ⟨hp3.cell c0 (by simp), hp3.cell c1 (by simp)⟩) (first
    | (go_at_call 39; ((with_reducible refine (hcl.out _ (by first | exact hod | exact ((Only.refl [] w1).alloc _).drew)).mono ?_); rintro e w2 ⟨v2, rfl, hF2, hq2⟩; have hp2 : Only [] w1 w2 := (by first | exact hod.trans0 hq2 | exact ((Only.refl [] w1).alloc _).drew.trans0 hq2); obtain ⟨xa, xc, rfl⟩ := own_form hF2))
    | (go_at_call 56; ((with_reducible refine (hcc.out _ _ (by first | exact bss_two ((hl.kept0 ho1).kept0 hp2) ((hb.kept0 ho1).kept0 hp2) _ | (have h9 := ((bss_two (hl.kept0 ho1) (hb.kept0 ho1) 27).kept0 (Only.refl [] _).drew).kept0 hq2; rw [hs1] at h9; exact h9))).mono ?_); rintro e w3 ⟨v3, rfl, hF3, hq3⟩; have hp3 : Only [] w1 w3 := (by first | exact hp2.trans0 hq3 | exact (hp2.alloc _).trans0 hq3); obtain ⟨p0, p1⟩ := cell_kept hp3 (by simp) r0; obtain ⟨p2, p3⟩ := cell_kept hp3 (by simp) r1; obtain ⟨ya, yc, rfl⟩ := own_form hF3; have e2 : w3.ownsRow (w.heap.size + 2) 5 1 (.slice xa f.length xc) f.length (bytes f) := own_lower (own_only0 hF2 (by first | exact hq3 | exact ((Only.refl [] w2).alloc _).trans0 hq3)) (by simp; omega); have e3 : w3.ownsRow (w.heap.size + 2) 5 1 (.slice ya z.length yc) z.length (bytes z) := own_lower hF3 (by have := hp2.size; simp; omega))))
  all_goals
    have hO : ∀ u v : Value, Only [w.heap.size + 1] w3 ((w3.setCell ⟨w.heap.size + 1, 0, none⟩ u).setCell ⟨w.heap.size + 1, 1, none⟩ v) := fun u v => ((Only.refl _ w3).setCell (.inl (by simp)) u).setCell (.inl (by simp)) v
    have g2 := own_only e2 (hO (.slice xa f.length xc) (.slice ya z.length yc)) (fun k hk => by have := (e2.lt k hk).1; simp; omega)
    have g3 := own_only e3 (hO (.slice xa f.length xc) (.slice ya z.length yc)) (fun k hk => by have := (e3.lt k hk).1; simp; omega)
    have hfin := (ho1.trans0 hp3).trans (hO (.slice xa f.length xc) (.slice ya z.length yc)) (cs := [w.heap.size + 1]) (ds := []) (by simp) (by simp)
    replace g2 := hid (own_lower g2 (Nat.le_add_right w.heap.size 2))
    replace g3 := hid (own_lower g3 (Nat.le_add_right w.heap.size 2))
    clear e2 e3 hO
    go_wp2
    exact bodyPost_ret (v := dskV (.slice xa f.length xc) (.slice ya z.length yc)) (by simp [results, Try.results74, go_sem, p0, p2]) rfl ⟨_, _, rfl, g2.out, g3.out, hfin⟩
end Go.Proofs.Ytnlmeaijnfjakaa.Sh
