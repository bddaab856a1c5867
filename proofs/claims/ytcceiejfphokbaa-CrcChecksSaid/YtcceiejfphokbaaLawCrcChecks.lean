/- Any bytes have the check that the document says; checked in two parts, too: the law's walk. -/
import Derived.Test.YtcceiejfphokbaaCrcAwake
import Derived.Test.YtcceiejfphokbaaRefA
namespace Go.Proofs.Ytcceiejfphokbaa.Sh
open Go Go.RowKit

theorem more_of (v : Value) (l p : List UInt8) (w : World) (hB : Bs w v l) :
    Calls Try.prog 18 #[vU32 (crcOf p), v] w fun e w' => e = .returned (vU32 (crcOf (p ++ l))) ∧ Only [] w w' := by
  rw [crcOf_append]
  exact more_any v l _ w hB

theorem bs_nil (w : World) : Bs w (.slice none 0 0) [] := ⟨by simp [bytes], none, 0, rfl, by simp, by unfold maxLen; omega, by simp, .inl rfl⟩

theorem more_zero (v : Value) (l : List UInt8) (w : World) (hB : Bs w v l) :
    Calls Try.prog 18 #[.int .u32 0, v] w fun e w' => e = .returned (vU32 (crcOf l)) ∧ Only [] w w' :=
  more_any v l 0#32 w hB

set_option maxHeartbeats 800000 in
theorem crcChecks_walk (w : World) {v u : Value} {a b : List UInt8} (hv : Bs w v a) (hu : Bs w u b) :
    Calls Try.prog 3 #[v, u] w fun e w' => e = .returned (.bool true) ∧ Only [] w w' := by
  obtain ⟨_, xa, xc, rfl, h1, h2, h3, _⟩ := id hv
  obtain ⟨_, ya, yc, rfl, h1', h2', h3', _⟩ := id hu
  by_cases hA : 400 < a.length ∨ 400 < b.length
  · rcases hA with hA | hA
    · go_enter Try.func3, Try.ntmps3
      go_wp2_with fail
      refine (awake09_any w).mono ?_
      rintro e w1 ⟨rfl, ho1⟩
      go_wp2_with fail
      refine (awake09_any _).mono ?_
      rintro e w2 ⟨rfl, ho2⟩
      go_wp2
      go_ret
      exact ⟨rfl, ho1.trans0 ho2⟩
    · by_cases hA' : 400 < a.length
      all_goals
        go_enter Try.func3, Try.ntmps3
        go_wp2_with fail
        refine (awake09_any w).mono ?_
        rintro e w1 ⟨rfl, ho1⟩
        go_wp2_with fail
        refine (awake09_any _).mono ?_
        rintro e w2 ⟨rfl, ho2⟩
        go_wp2
        go_ret
        exact ⟨rfl, ho1.trans0 ho2⟩
  · have hA1 : ¬ 400 < a.length := by omega
    have hA2 : ¬ 400 < b.length := by omega
    clear hA
    go_enter Try.func3, Try.ntmps3
    go_wp2_with fail
    refine (awake09_any w).mono ?_
    rintro e w1 ⟨rfl, ho1⟩
    have hv1 := hv.kept0 ho1
    have hu1 := hu.kept0 ho1
    have tok : True := trivial
    go_wp2_with (first
      | (at_builtin; have _t := tok; refine wpList_app (by rfl) _ _ 22 (by rfl) w1.heap.size 5 1 1 el_u8 (by rfl) (own_built w1 [] 5 1 0 rfl (by omega)) (by rfl) (hv1.kept0 ((Only.refl [] w1).alloc _)) (bytes_one a) (by omega) (by omega) (by simp) ?_; intro v2 w2 hown2 happ2; clear tok; have ho2 := ((Only.refl [] w1).alloc _).app happ2 (by intro i hi; simp [Value.ownBlock] at hi; exact .inr (by omega)))
      | (at_builtin; refine wpList_app (by rfl) _ _ 22 (by rfl) w1.heap.size 5 1 1 el_u8 (by rfl) hown2 (by rfl) (hu1.kept0 ho2) (bytes_one b) (by omega) (by omega) (by have := ho2.size; omega) ?_; intro v3 w3 hown3 happ3))
    have ho3 : Only [] w w3 := (ho1.trans0 ho2).app happ3 (by
      intro i hi
      have := (hown2.lt i hi).1
      have := ho1.size
      exact .inr (by omega))
    have hall : Bs w3 v3 (a ++ b) := Cs.of_own (own_cast hown3 (show _ = (a ++ b).length by simp) (show _ = bytes (a ++ b) by simp [bytes])) (by simp; omega)
    refine (of_any _ a _ (hv.kept0 ho3)).mono ?_
    rintro e w4 ⟨rfl, hp4⟩
    have ho4 := ho3.trans0 hp4
    have hq4 := hp4
    go_wp2_with fail
    refine (refOf_any _ a _ (hv.kept0 ho4)).mono ?_
    rintro e w5 ⟨rfl, hp5⟩
    have ho5 := ho4.trans0 hp5
    have hq5 := hq4.trans0 hp5
    go_wp2_with fail
    refine (of_any _ (a ++ b) _ (hall.kept0 hq5)).mono ?_
    rintro e w6 ⟨rfl, hp6⟩
    have ho6 := ho5.trans0 hp6
    have hq6 := hq5.trans0 hp6
    go_wp2_with fail
    refine (refOf_any _ (a ++ b) _ (hall.kept0 hq6)).mono ?_
    rintro e w7 ⟨rfl, hp7⟩
    have ho7 := ho6.trans0 hp7
    have hq7 := hq6.trans0 hp7
    go_wp2_with fail
    refine (of_any _ a _ (hv.kept0 ho7)).mono ?_
    rintro e w8 ⟨rfl, hp8⟩
    have ho8 := ho7.trans0 hp8
    have hq8 := hq7.trans0 hp8
    go_wp2_with fail
    refine (more_of _ b a _ (hu.kept0 ho8)).mono ?_
    rintro e w9 ⟨rfl, hp9⟩
    have ho9 := ho8.trans0 hp9
    have hq9 := hq8.trans0 hp9
    go_wp2_with fail
    refine (refOf_any _ (a ++ b) _ (hall.kept0 hq9)).mono ?_
    rintro e w10 ⟨rfl, hp10⟩
    have ho10 := ho9.trans0 hp10
    have hq10 := hq9.trans0 hp10
    go_wp2_with fail
    refine (more_zero _ a _ (hv.kept0 ho10)).mono ?_
    rintro e w11 ⟨rfl, hp11⟩
    have ho11 := ho10.trans0 hp11
    have hq11 := hq10.trans0 hp11
    go_wp2_with fail
    refine (of_any _ a _ (hv.kept0 ho11)).mono ?_
    rintro e w12 ⟨rfl, hp12⟩
    have ho12 := ho11.trans0 hp12
    have hq12 := hq11.trans0 hp12
    go_wp2_with fail
    refine (of_any _ b _ (hu.kept0 ho12)).mono ?_
    rintro e w13 ⟨rfl, hp13⟩
    have ho13 := ho12.trans0 hp13
    have hq13 := hq12.trans0 hp13
    go_wp2_with fail
    refine (more_of _ [] b _ (bs_nil _)).mono ?_
    rintro e w14 ⟨rfl, hp14⟩
    have ho14 := ho13.trans0 hp14
    have hq14 := hq13.trans0 hp14
    rw [List.append_nil]
    go_wp2_with fail
    refine (of_any _ b _ (hu.kept0 ho14)).mono ?_
    rintro e w15 ⟨rfl, hp15⟩
    have ho15 := ho14.trans0 hp15
    have hq15 := hq14.trans0 hp15
    go_wp2
    go_ret
    exact ⟨rfl, ho15⟩
end Go.Proofs.Ytcceiejfphokbaa.Sh
