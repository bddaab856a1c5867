/- The document's log: opened, fast, how many are: walked. -/
import Derived.Test.YtlcfmocojakhpaaRJouC
namespace Go.Proofs.Ytlcfmocojakhpaa.Sh
open Go Go.RowKit

set_option maxRecDepth 20000 in
set_option maxHeartbeats 1600000 in
theorem ropen_any (w : World) (fv lv : Value) (f l : List UInt8) (hf : Bs w fv f) (hl : Bs w lv l) (hlen : f.length + l.length ≤ 500000) :
    Calls Try.prog 25 #[dskV fv lv] w fun e w' => ∃ x, e = .returned (.pointer (some ⟨x, 0, none⟩)) ∧ RLg w' x ((f ++ l).take (allL (f ++ l)).2) [] (allL (f ++ l)).1 (newBs w w') ∧ Only [] w w' := by
  obtain ⟨fa, fc, rfl⟩ := bs_form hf
  obtain ⟨la, lc, rfl⟩ := bs_form hl
  obtain ⟨w1, hw1⟩ : ∃ w1, w1 = w.alloc (Obj.cells #[.slice fa f.length fc, .slice la l.length lc] 24) := ⟨_, rfl⟩
  have o1 : Only [] w w1 := by rw [hw1]; exact (Only.refl [] w).alloc _
  have c0 : w1.cell? ⟨w.heap.size, 0, none⟩ = some (.slice fa f.length fc) := by rw [hw1]; simp [go_sem]
  have c1 : w1.cell? ⟨w.heap.size, 1, none⟩ = some (.slice la l.length lc) := by rw [hw1]; simp [go_sem]
  have hf1 := hf.kept0 o1
  have hl1 := hl.kept0 o1
  obtain ⟨z, hz⟩ : ∃ z, z = f ++ l := ⟨_, rfl⟩
  have hzl : z.length ≤ 500000 := by rw [hz]; simp; omega
  have hall := fun W (h : Only [] w1 W) => rall_any W _ _ f l (hf1.kept0 h) (hl1.kept0 h) hlen
  simp only [← hz] at hall ⊢
  replace hall := hid hall
  clear hz
  obtain ⟨hr1, hr2⟩ := allL_le _ z (Nat.le_refl _)
  obtain ⟨R, hR⟩ : ∃ R, R = (allL z).1 := ⟨_, rfl⟩
  obtain ⟨n, hn⟩ : ∃ n, n = (allL z).2 := ⟨_, rfl⟩
  have hrec := fun W v (hB : Bs W v z) => refAll_any v z W hB (by omega)
  unfold AllPost at hrec
  simp only [← hR, ← hn] at hrec hr1 hr2 ⊢
  replace hrec := hid hrec
  clear hR hn
  go_enter Try.func25, Try.ntmps25
  go_wp2_with fail
  rw [← hw1]
  clear hw1
  with_reducible refine (hall.out _ (Only.refl _ _)).mono ?_
  rintro e w2 ⟨v2, rfl, hF2, o2⟩
  have hB2 := hF2.bs (by omega)
  obtain ⟨va, vc, rfl⟩ := own_form hF2
  go_wp2_with fail
  with_reducible refine (hrec.out _ _ hB2).mono ?_
  rintro e w3 ⟨v3, rfl, hO3, o3⟩
  obtain ⟨vs, g1, g2⟩ := hO3
  obtain ⟨ra, rc, rfl⟩ := own_form g1
  have o13 := o2.trans0 o3
  obtain ⟨w4, hw4⟩ : ∃ w4, w4 = w3.alloc (Obj.cells #[] 5) := ⟨_, rfl⟩
  have o4 : Only [] w3 w4 := by rw [hw4]; exact (Only.refl [] w3).alloc _
  have ob : w4.ownsRow w3.heap.size 5 1 (.slice (some ⟨w3.heap.size, 0, none⟩) 0 0) 0 [] := by rw [hw4]; exact own_built w3 [] 5 1 0 rfl (by unfold maxLen; omega)
  have d0 := (o13.trans0 o4).cell c0 (by simp)
  have d1 := (o13.trans0 o4).cell c1 (by simp)
  have d0' := d0
  have d1' := d1
  rw [hw4] at d0' d1'
  clear c0 c1 hF2 hB2
  go_wp2_with fail
  rw [← hw4]
  clear hw4 d0' d1'
  with_reducible refine (hall.out _ (o13.trans0 o4)).mono ?_
  rintro e w5 ⟨v5, rfl, hF5, o5⟩
  have hB5 := hF5.bs (by omega)
  obtain ⟨ya, yc, rfl⟩ := own_form hF5
  have hpre := hB5.pre n hr1
  have hvc : z.length ≤ yc := by
    obtain ⟨_, _, _, he, h1, _⟩ := id hB5
    simp only [Value.slice.injEq] at he
    obtain ⟨_, _, rfl⟩ := he
    exact h1
  have hn1 : (n : Int) ≤ (yc : Int) := by omega
  have hn2 : (0 : Int) ≤ (n : Int) := by omega
  have hb5 := own_only0 ob o5
  have hcs : Cs 1 w5 (.slice ya n yc) n (bytes (z.take n)) := Cs.cast hpre (by simp; omega) rfl
  clear hall hrec hvc hF5 hB5 d0 d1
  have hs3 := o4.size
  have hs5 := o5.size
  go_wp2_with (at_builtin; refine wpList_app (by rfl) _ _ 22 (by rfl) w3.heap.size 5 1 1 el_u8 (by rfl) hb5 (by rfl) hcs (bytes_one _) (by omega) (by omega) (by omega) ?_; intro v6 w6 own6 app6; rw [Nat.zero_add, List.nil_append] at own6; obtain ⟨xa, xc, rfl⟩ := own_form own6)
  have o6 : Only [] w3 w6 := (o4.trans0 o5).app app6 (fun k hk => .inr (hb5.lt k hk).1)
  have O6 := (o1.trans0 o13).trans0 o6
  obtain ⟨w7, hw7⟩ : ∃ w7, w7 = w6.alloc (Obj.cells #[.slice xa n xc, .slice none 0 0, .slice ra R.length rc] 50) := ⟨_, rfl⟩
  have o7 : Only [] w6 w7 := by rw [hw7]; exact (Only.refl [] w6).alloc _
  have hs7 : w7.heap.size = w6.heap.size + 1 := by rw [hw7]; simp
  have hnb : ∀ k, w.heap.size ≤ k → k < w7.heap.size → k ∈ newBs w w7 := fun k h1 h2 => mem_newBs.2 ⟨h1, h2⟩
  have hsw := O6.size
  have hsw3 := (o1.trans0 o13).size
  have hsw2 := (o1.trans0 o2).size
  have hfin : Hid (RLg w7 w6.heap.size (z.take n) [] R (newBs w w7)) := by
    refine ⟨by rw [hw7]; exact TyAt.new _ _ _, hnb _ (by omega) (by omega), .slice xa n xc, .slice none 0 0, .slice ra R.length rc, vs, ?_, ?_, ?_, ?_, ?_, ?_, ?_, ?_⟩
    · rw [hw7]; constructor <;> simp [go_sem]
    · rw [hw7]; constructor <;> simp [go_sem]
    · rw [hw7]; constructor <;> simp [go_sem]
    · exact Yb.own (B := w3.heap.size) (own_cast (own_only0 own6 o7) (by simp; omega) rfl) (by simp; omega) (fun k h1 h2 => hnb k (by omega) h2)
    · exact ⟨Bs.empty (by unfold maxLen; omega), fun k hk => by simp [Value.ownBlock] at hk⟩
    · exact own_lower (own_only0 (own_only0 g1 o6) o7) (Nat.zero_le _)
    · intro k hk
      have := (own_only0 (own_only0 g1 o6) o7).lt k hk
      exact hnb k (by omega) (by omega)
    · refine g2.imp fun u y h => Yb.own (B := w2.heap.size) (own_only0 (own_only0 h.1 o6) o7) h.2 (fun k h1 h2 => hnb k (by omega) h2)
  have hO := O6.trans0 o7
  clear hpre own6 app6 g1 g2 hb5 ob hcs hnb
  go_wp2_with fail
  go_ret
  rw [← hw7]
  exact ⟨_, rfl, hfin.out, hO⟩

set_option maxRecDepth 20000 in
set_option maxHeartbeats 1600000 in
theorem rfast_any (w : World) (x : Nat) (f l : List UInt8) (rs : List (List UInt8)) (bs : List Nat) (h : RLg w x f l rs bs) (hlen : f.length + l.length ≤ 500000) :
    Calls Try.prog 30 #[.pointer (some ⟨x, 0, none⟩)] w fun e w' => e = .returned (.int .i64 ((allL f).1.length : Int)) ∧ Only [] w w' := by
  obtain ⟨fa, fc, la, lc, ⟨c0, _⟩, ⟨c1, _⟩, hf, hl, hx⟩ := h.sees
  have hrec := refAll_any _ f w hf (by omega)
  unfold AllPost at hrec
  obtain ⟨R, hR⟩ : ∃ R, R = (allL f).1 := ⟨_, rfl⟩
  obtain ⟨n, hn⟩ : ∃ n, n = (allL f).2 := ⟨_, rfl⟩
  simp only [← hR, ← hn] at hrec ⊢
  replace hrec := hid hrec
  clear hR hn h
  go_enter Try.func30, Try.ntmps30
  go_wp2_with fail
  with_reducible refine hrec.out.mono ?_
  rintro e w3 ⟨v3, rfl, hO3, o3⟩
  obtain ⟨vs, g1, g2⟩ := hO3
  obtain ⟨ra, rc, rfl⟩ := own_form g1
  clear g1 g2
  go_wp2
  go_ret
  exact ⟨rfl, o3⟩

set_option maxRecDepth 20000 in
set_option maxHeartbeats 1600000 in
theorem rsync_any (w : World) (x : Nat) (f l : List UInt8) (rs : List (List UInt8)) (bs : List Nat) (h : RLg w x f l rs bs) (hlen : f.length + l.length ≤ 500000) :
    Calls Try.prog 27 #[.pointer (some ⟨x, 0, none⟩)] w fun e w' => e = .returned (.tuple #[]) ∧ RLg w' x (f ++ l) [] rs (bs ++ newBs w w') ∧ Only [x] w w' := by
  obtain ⟨fa, fc, la, lc, c0, c1, hf, hl, hx⟩ := h.sees
  obtain ⟨z, hz⟩ : ∃ z, z = f ++ l := ⟨_, rfl⟩
  have hzl : z.length ≤ 500000 := by rw [hz]; simp; omega
  have hs := rall_any w _ _ f l hf hl hlen
  rw [← hz] at hs ⊢
  replace hs := hid hs
  replace h := hid h
  clear hz
  go_enter Try.func27, Try.ntmps27
  go_wp2_with fail
  with_reducible refine hs.out.mono ?_
  rintro e w2 ⟨v2, rfl, hF, hq⟩
  obtain ⟨va, vc, rfl⟩ := own_form hF
  have hfin := fun W (e : W = (w2.setCell ⟨x, 0, none⟩ (.slice va z.length vc)).setCell ⟨x, 1, none⟩ (.slice none 0 0)) => show RLg W x z [] rs (bs ++ newBs w W) ∧ Only [x] w W by
    have hL2 : RLg w2 x f l rs (bs ++ newBs w w2) := (h.out.kept0 hq).mono (fun k hk => by simp [hk])
    have h3 := hL2.setDisk (fv' := .slice va z.length vc) (f' := z) (lv' := .slice none 0 0) (l' := []) (Yb.own hF (by omega) (fun k h1 h2 => by simp [mem_newBs, h1, h2])) ⟨Bs.empty (by unfold maxLen; omega), fun k hk => by simp [Value.ownBlock] at hk⟩
    rw [e]
    refine ⟨h3.mono (fun k hk => ?_), ((hq.mono (by simp)).setCell (.inl (by simp)) _).setCell (.inl (by simp)) _⟩
    simp only [List.mem_append, mem_newBs] at hk ⊢
    simpa [World.setCell] using hk
  obtain ⟨p0, p1⟩ := cell_kept hq (by simp) c0
  obtain ⟨p2, p3⟩ := cell_kept hq (by simp) c1
  replace hfin := hid hfin
  clear hF hf hl hq
  go_wp2
  go_end0
  exact ⟨rfl, hfin.out _ rfl⟩
end Go.Proofs.Ytlcfmocojakhpaa.Sh
