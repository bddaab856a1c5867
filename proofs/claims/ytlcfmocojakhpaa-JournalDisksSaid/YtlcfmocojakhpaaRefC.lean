/- The reference's All, walked. -/
import Derived.Test.YtlcfmocojakhpaaRefB
import Derived.Test.YtlcfmocojakhpaaCrcE
namespace Go.Proofs.Ytlcfmocojakhpaa.Sh
open Go Go.RowKit

set_option maxHeartbeats 1600000 in
theorem refAll_any (v : Value) (l : List UInt8) (w : World) (hB : Bs w v l) (hlen : l.length ≤ 1099511627776) :
    Calls Try.prog 37 #[v] w (AllPost l w) := by
  obtain ⟨_, a, cap, rfl, h1, h2, h3, _⟩ := id hB
  go_enter Try.func37, Try.ntmps37
  go_wp2_with fail
  go_loopw [4, 5] (fun out at_ wr => ∃ (k : Nat) (ls : List (List UInt8)), k ≤ l.length ∧ at_ = .int .i64 k ∧ Hid (allL l = (ls ++ (allL (l.drop k)).1, k + (allL (l.drop k)).2)) ∧ OwnBss w.heap.size wr out ls ∧ Only [] w wr ∧ 7 * ls.length ≤ k) (fun _ at_ _ => l.length - (intOf at_).toNat)
  case atStart => exact ⟨0, [], Nat.zero_le _, rfl, by simp [Hid], ⟨[], World.ownsRow_nil _ _ _ _, .nil⟩, Only.refl _ _, by simp⟩
  case round =>
    obtain ⟨k, ls, hk, rfl, hall, hout, ho, hlk⟩ := hrel
    by_cases hcap : cap = k
    · -- nothing is left
      subst hcap
      have hkl : l.length = cap := by omega
      have hd : l.drop cap = [] := List.drop_of_length_le (by omega)
      have hbad := hid (show allL l = (ls, cap) by rw [hall.out, hd, allL_bad [] (by simp [firstL])]; simp)
      have hz : l.length - cap = 0 := by omega
      have hke : (0 : Int) ≤ (cap : Int) := by omega
      have HKL := hid hkl
      clear hall hd hkl
      go_wp2_with fail
      refine (refNext_any _ [] _ (Bs.empty (by omega))).mono ?_
      rintro e w1 ⟨rfl, hp1⟩
      rw [show firstL [] = (2, 0) by simp [firstL]]
      go_wp2
      go_ret2
      exact ⟨_, by rw [hbad.out]; rfl, by rw [hbad.out]; exact hout.kept0 hp1, ho.trans0 hp1⟩
    · have hkc : k < cap := by omega
      clear hcap
      by_cases hkl : k < l.length
      · obtain ⟨b, o, cap', he, _, _, _, _⟩ := hB.form (by omega)
        obtain ⟨rfl, rfl⟩ : a = some ⟨b, o, none⟩ ∧ cap = cap' := by simpa using he
        clear he
        have hBk := (hB.kept0 ho).tail k hk
        go_wp2_with fail
        refine (refNext_any _ (l.drop k) _ hBk).mono ?_
        rintro e w1 ⟨rfl, hp1⟩
        have ho1 := ho.trans0 hp1
        by_cases hE : (firstL (l.drop k)).1 = 0
        · have hb := firstL_le _ hE
          have hg := allL_good _ hE
          obtain ⟨n, hn⟩ : ∃ n, n = (firstL (l.drop k)).2 := ⟨_, rfl⟩
          rw [← hn] at hb hg ⊢
          rw [hE]
          simp only [List.length_drop, List.drop_drop] at hb hg
          have hall' := hid (show allL l = ((ls ++ [(l.drop (k + 6)).take n]) ++ (allL (l.drop (k + (6 + n)))).1, (k + (6 + n)) + (allL (l.drop (k + (6 + n)))).2) by
            rw [hall.out, hg]
            simp [Nat.add_assoc])
          have hs1 := ho1.size
          have hsub := (hB.kept0 ho1).sub (k + 6) n (by omega)
          have hxl : ((l.drop (k + 6)).take n).length = n := by simp; omega
          obtain ⟨vs, hvs, hels⟩ := hout
          have tok : True := trivial
          have HXL := hid hxl
          have hkn : k + 6 + n - (k + 6) = n := by omega
          clear hall hg hE hn hBk hxl
          go_wp2_with (first
            | (at_builtin; have _t := tok; refine wpList_app (by rfl) _ _ 22 (by rfl) w1.heap.size 5 1 1 el_u8 (by rfl) (own_built w1 [] 5 1 0 rfl (by omega)) (by rw [hkn]; rfl) (Cs.cast (hsub.kept0 ((Only.refl [] w1).alloc _)) HXL.out rfl) (bytes_one _) (by omega) (by omega) (by simp) ?_; intro v2 w2 hown2 happ2; clear tok; have hp2 := ((Only.refl [] w1).alloc _).app happ2 (by intro i hi; simp [Value.ownBlock] at hi; exact .inr (by omega)); have hown2 := own_cast hown2 (show _ = n by omega) (show _ = bytes ((l.drop (k + 6)).take n) by simp); obtain ⟨a2, c2, rfl⟩ := own_form hown2; have hs2 := hp2.size)
            | (at_builtin; refine wpList_app1 (by rfl) _ _ 34 (by rfl) w.heap.size 22 1 24 el_bss (by rfl) (own_only0 (own_only0 hvs hp1) hp2) [_] (by rfl) rfl (one1 rfl) (by omega) (by omega) (by omega) ?_; intro v3 w3 hown3 happ3))
          have ho3 : Only [] w w3 := (ho1.trans0 hp2).app happ3 (fun i hi => by
            have := (hvs.lt i hi).1
            exact .inr this)
          have hels3 : All2 (fun u x => w3.ownsRow w.heap.size 5 1 u x.length (bytes x) ∧ x.length ≤ 9223372036854775807) (vs ++ [.slice a2 n c2]) (ls ++ [(l.drop (k + 6)).take n]) := by
            refine All2.snoc (hels.imp ?_) ⟨own_cast (happ3.other (own_lower hown2 (by omega)) (own_ne hown2 (own_only0 (own_only0 hvs hp1) hp2) (by omega))) HXL.out.symm rfl, by rw [HXL.out]; omega⟩
            rintro u x ⟨h5, h6⟩
            have h7 := own_only0 (own_only0 h5 hp1) hp2
            exact ⟨happ3.other h7 (own_ne h7 (own_only0 (own_only0 hvs hp1) hp2) (by omega)), h6⟩
          go_roundw
          case rel => exact ⟨k + (6 + n), ls ++ [(l.drop (k + 6)).take n], by omega, by go_num, hall', ⟨_, own_cast hown3 (by simp) rfl, hels3⟩, ho3, by simp; omega⟩
          case measure => simp [intOf]; omega
        · have hE' : ((firstL (l.drop k)).1 : Int) ≠ 0 := by omega
          have hbad := hid (show allL l = (ls, k) by rw [hall.out, allL_bad _ hE]; simp)
          clear hall hE
          go_wp2
          go_ret2
          exact ⟨_, by rw [hbad.out]; rfl, by rw [hbad.out]; exact hout.kept0 hp1, ho1⟩
      · obtain rfl : k = l.length := by omega
        have hd : l.drop l.length = [] := List.drop_length
        have hbad := hid (show allL l = (ls, l.length) by rw [hall.out, hd, allL_bad [] (by simp [firstL])]; simp)
        have hz : l.length - l.length = 0 := by omega
        clear hall hd
        go_wp2_with fail
        refine (refNext_any _ [] _ ?_).mono ?_
        · exact Bs.empty (by omega)
        rintro e w1 ⟨rfl, hp1⟩
        rw [show firstL [] = (2, 0) by simp [firstL]]
        go_wp2
        go_ret2
        exact ⟨_, by rw [hbad.out]; rfl, by rw [hbad.out]; exact hout.kept0 hp1, ho.trans0 hp1⟩
end Go.Proofs.Ytlcfmocojakhpaa.Sh
