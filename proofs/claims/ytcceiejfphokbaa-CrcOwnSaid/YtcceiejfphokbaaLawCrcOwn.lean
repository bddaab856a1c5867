/- What is told is memory of its own; what is handed in isn't changed: the law's walk. -/
import Derived.Test.YtcceiejfphokbaaLawCrcAll
namespace Go.Proofs.Ytcceiejfphokbaa.Sh
open Go Go.RowKit

theorem own_else {w : World} {B e size : Nat} {v : Value} {n : Nat} {xs : List Value} (h : w.ownsRow B e size v n xs) {p : Addr} (hp : v.ownBlock = none ∨ v.ownBlock ≠ some p.block) (u : Value) : (w.setCell p u).ownsRow B e size v n xs :=
  own_only h ((Only.refl [p.block] w).setCell (.inl (by simp)) u) (fun k hk => by
    rcases hp with hp | hp
    · rw [hp] at hk; cases hk
    · rintro hmem
      rw [List.mem_singleton] at hmem
      subst hmem
      exact hp hk)

theorem bytes_set (l : List UInt8) (j : Nat) (x : UInt8) : (bytes l).set j (vU8 x) = bytes (l.set j x) := by simp [bytes, List.map_set]

set_option maxHeartbeats 3200000 in
theorem crcOwn_mid (w : World) {v : Value} {b : List UInt8} {x : UInt8} (hv : Bs w v b) (hb1 : 1 ≤ b.length) (hb2 : b.length ≤ 400) :
    Calls Try.prog 11 #[v, vU8 x] w fun e w' => e = .returned (.bool true) ∧ Only [] w w' := by
  obtain ⟨_, a, cap, rfl, h1, h2, h3, _⟩ := id hv
  have hA1 : ¬ b.length < 1 := by omega
  have hA2 : ¬ 400 < b.length := by omega
  have hbx := u8_bound x
  go_enter Try.func11, Try.ntmps11
  go_wp2_with fail
  refine (awake09_any w).mono ?_
  rintro e w1 ⟨rfl, ho1⟩
  go_wp2_with fail
  refine (frame_good _ b _ (hv.kept0 ho1) hb1 (by omega)).mono ?_
  rintro e w2 ⟨v2, rfl, hf2, hp2⟩
  have ho2 := ho1.trans0 hp2
  have hfl := frameL_length b
  have hfirst := firstL_append b [] hb1 (by omega)
  have hall := allL_append b [] hb1 (by omega)
  rw [List.append_nil] at hfirst hall
  have hdrop : ((frameL b).drop 6).take b.length = b := by
    unfold frameL
    rw [List.drop_left' (by simp [putL_length]), List.take_of_length_le (Nat.le_refl _)]
  obtain ⟨f, hf⟩ : ∃ f, f = frameL b := ⟨_, rfl⟩
  rw [← hf] at hf2 hfl hfirst hall hdrop
  have hfB := hf2.bs (by omega)
  have HFIRST := hid hfirst
  have HALL := hid (show allL f = ([b], 6 + b.length) by rw [hall, allL_bad [] (by simp [firstL])]; rfl)
  have HD := hid hdrop
  clear hfirst hall hf hdrop
  go_wp2_with (at_builtin; refine wpList_app (by rfl) _ _ 22 (by rfl) w2.heap.size 5 1 1 el_u8 (by rfl) (own_built w2 [] 5 1 0 rfl (by omega)) (by rfl) (hfB.kept0 ((Only.refl [] w2).alloc _)) (bytes_one f) (by omega) (by omega) (by simp) ?_; intro v3 w3 hown3 happ3; have hown3 := own_cast hown3 (show _ = f.length by omega) (show _ = bytes f by simp); have hp3 := ((Only.refl [] w2).alloc _).app happ3 (by intro i hi; simp [Value.ownBlock] at hi; exact .inr (by omega)))
  have ho3 := ho2.trans0 hp3
  have hwas : Bs w3 v3 f := Cs.of_own hown3 (by omega)
  have hfB3 := hfB.kept0 hp3
  refine (next_any _ f _ hfB3 (by omega)).mono ?_
  rintro e w4 ⟨v4, v4', rfl, hp4, hgood, _⟩
  obtain ⟨hg1, _⟩ := hgood (by rw [HFIRST.out])
  rw [HFIRST.out] at hg1 ⊢
  rw [HD.out] at hg1
  clear hgood
  obtain ⟨a4, c4, rfl⟩ := own_form hg1
  have hs4 := hp4.size
  go_wp2_with fail
  refine (all_any _ f _ (hfB3.kept0 hp4) (by omega)).mono ?_
  rintro e w5 ⟨v5, rfl, hown5, hp5⟩
  rw [HALL.out] at hown5 ⊢
  obtain ⟨vs, hvs, hels⟩ := hown5
  obtain ⟨u, rfl⟩ : ∃ u, vs = [u] := by
    have := hels.length
    match vs, this with
    | [u], _ => exact ⟨u, rfl⟩
  obtain ⟨hu, _⟩ : w5.ownsRow w4.heap.size 5 1 u b.length (bytes b) ∧ b.length ≤ 9223372036854775807 := by cases hels; assumption
  obtain ⟨ua, uc, rfl⟩ := own_form hu
  obtain ⟨va, vc, rfl⟩ := own_form hvs
  have ho5 := hp4.trans0 hp5
  have hg5 := hg1.only hp5
  obtain ⟨g, gc, he, hg, hgs, _, _, _⟩ := own_at hg5 (by omega)
  obtain ⟨rfl, rfl⟩ : a4 = some ⟨g, 0, none⟩ ∧ c4 = gc := by simpa using he
  obtain ⟨p, pc, he', hp, hps, _, _, _⟩ := own_at hu (by omega)
  obtain ⟨rfl, rfl⟩ : ua = some ⟨p, 0, none⟩ ∧ uc = pc := by simpa using he'
  obtain ⟨q, qc, he'', hq, hqs, _, _, _⟩ := own_at hvs (by simp)
  obtain ⟨rfl, rfl⟩ : va = some ⟨q, 0, none⟩ ∧ vc = qc := by simpa using he''
  have hgl : g < w4.heap.size := by
    obtain ⟨g', _, he3, _, h6, _⟩ := own_at hg1 (by omega)
    simp only [Value.slice.injEq, Option.some.injEq, Addr.mk.injEq] at he3
    obtain ⟨⟨rfl, _⟩, _⟩ := he3
    exact h6
  have hqp : q ≠ p := by
    rcases own_ne hvs hu (by decide) with h | h
    · simp [Value.ownBlock] at h
    · simpa [Value.ownBlock] using h
  clear he he' he'' hels hg1
  go_wp2_with fail
  go_loopw [50] (fun i wr => ∃ (k : Nat) (ys : List UInt8), k ≤ b.length ∧ i = .int .i64 k ∧ ys.length = b.length ∧ Only [] w3 wr ∧ wr.ownsRow w3.heap.size 5 1 (.slice (some ⟨g, 0, none⟩) b.length c4) b.length (bytes ys) ∧ wr.ownsRow w4.heap.size 5 1 (.slice (some ⟨p, 0, none⟩) b.length uc) b.length (bytes b) ∧ wr.ownsRow w4.heap.size 22 1 (.slice (some ⟨q, 0, none⟩) 1 vc) 1 [.slice (some ⟨p, 0, none⟩) b.length uc]) (fun i _ => b.length - (intOf i).toNat)
  case atStart => exact ⟨0, b, Nat.zero_le _, rfl, rfl, ho5, hg5, hu, hvs⟩
  case round =>
    obtain ⟨k, ys, hk, rfl, hyl, ho, hgr, hur, hvr⟩ := hrel
    have HYL := hid hyl
    by_cases hlt : k < b.length
    · obtain ⟨_, _, he, _, _, _, _, hcells⟩ := own_at hgr (by omega)
      simp only [Value.slice.injEq, Option.some.injEq, Addr.mk.injEq, true_and, and_true] at he
      obtain ⟨rfl, rfl⟩ := he
      obtain ⟨hc, hfz⟩ := hcells k (vU8 (ys[k]'(by omega))) (bytes_get (by omega))
      obtain ⟨y, hy⟩ : ∃ y, y = ys[k]'(by omega) := ⟨_, rfl⟩
      rw [← hy] at hc
      clear hy hcells hyl
      go_wp2
      go_roundw
      case rel =>
        refine ⟨k + 1, ys.set k x, by omega, by go_num, by rw [List.length_set]; exact HYL.out, ho.setCell (.inr hg) _, ?_, own_else hur (.inr (by simp [Value.ownBlock]; omega)) _, own_else hvr (.inr (by simp [Value.ownBlock]; omega)) _⟩
        have := own_set hgr (i := k) hlt (vU8 x)
        rwa [bytes_set] at this
      case measure => simp [intOf]; omega
    · obtain rfl : k = b.length := by omega
      clear hgr
      go_wp2_with fail
      go_loopw [60] (fun i ws => ∃ (j : Nat) (zs : List UInt8), j ≤ 1 ∧ i = .int .i64 j ∧ zs.length = b.length ∧ Only [] w3 ws ∧ ws.ownsRow w4.heap.size 5 1 (.slice (some ⟨p, 0, none⟩) b.length uc) b.length (bytes zs) ∧ ws.ownsRow w4.heap.size 22 1 (.slice (some ⟨q, 0, none⟩) 1 vc) 1 [.slice (some ⟨p, 0, none⟩) b.length uc]) (fun i _ => 1 - (intOf i).toNat)
      case atStart => exact ⟨0, b, Nat.zero_le _, rfl, rfl, ho, hur, hvr⟩
      case round =>
        obtain ⟨j, zs, hj, rfl, hzl, hos, hus, hvs'⟩ := hrel
        by_cases hj1 : j < 1
        · obtain rfl : j = 0 := by omega
          obtain ⟨_, _, he, _, _, _, _, hcells⟩ := own_at hvs' (by omega)
          simp only [Value.slice.injEq, Option.some.injEq, Addr.mk.injEq, true_and, and_true] at he
          obtain ⟨rfl, rfl⟩ := he
          obtain ⟨hcq, _⟩ := hcells 0 _ rfl
          clear hcells
          go_wp2_with fail
          go_loopw [68] (fun i wt => ∃ (m : Nat) (ts : List UInt8), m ≤ b.length ∧ i = .int .i64 m ∧ ts.length = b.length ∧ Only [] w3 wt ∧ wt.ownsRow w4.heap.size 5 1 (.slice (some ⟨p, 0, none⟩) b.length uc) b.length (bytes ts) ∧ wt.ownsRow w4.heap.size 22 1 (.slice (some ⟨q, 0, none⟩) 1 vc) 1 [.slice (some ⟨p, 0, none⟩) b.length uc]) (fun i _ => b.length - (intOf i).toNat)
          case atStart => exact ⟨0, zs, Nat.zero_le _, rfl, hzl, hos, hus, hvs'⟩
          case round =>
            obtain ⟨m, ts, hm, rfl, htl, hot, hut, hvt⟩ := hrel
            have HTL := hid htl
            by_cases hlt2 : m < b.length
            · obtain ⟨_, _, he, _, _, _, _, hcells⟩ := own_at hvt (by omega)
              simp only [Value.slice.injEq, Option.some.injEq, Addr.mk.injEq, true_and, and_true] at he
              obtain ⟨rfl, rfl⟩ := he
              obtain ⟨hcq2, _⟩ := hcells 0 _ rfl
              obtain ⟨_, _, he, _, _, _, _, hcells2⟩ := own_at hut (by omega)
              simp only [Value.slice.injEq, Option.some.injEq, Addr.mk.injEq, true_and, and_true] at he
              obtain ⟨rfl, rfl⟩ := he
              obtain ⟨hc, hfz⟩ := hcells2 m (vU8 (ts[m]'(by omega))) (bytes_get (by omega))
              obtain ⟨y, hy⟩ : ∃ y, y = ts[m]'(by omega) := ⟨_, rfl⟩
              rw [← hy] at hc
              clear hy hcells hcells2 htl hcq hzl
              go_wp2
              go_roundw
              case rel =>
                refine ⟨m + 1, ts.set m x, by omega, by go_num, by rw [List.length_set]; exact HTL.out, hot.setCell (.inr (show w3.heap.size ≤ p by omega)) _, ?_, own_else hvt (.inr (by simp [Value.ownBlock]; omega)) _⟩
                have := own_set hut (i := m) hlt2 (vU8 x)
                rwa [bytes_set] at this
              case measure => simp [intOf]; omega
            · obtain rfl : m = b.length := by omega
              clear hcq hzl
              go_wp2
              go_roundw
              case rel => exact ⟨1, ts, by omega, by go_num, htl, hot, hut, hvt⟩
              case measure => simp [intOf]
        · obtain rfl : j = 1 := by omega
          go_wp2_with fail
          refine (same_any _ _ f f _ (hfB3.kept0 hos) (hwas.kept0 hos)).mono ?_
          rintro e w9 ⟨rfl, hp9⟩
          rw [decide_eq_true (rfl : f = f)]
          go_wp2
          go_ret
          exact ⟨rfl, (ho3.trans0 hos).trans0 hp9⟩

theorem crcOwn_any (w : World) {v : Value} {b : List UInt8} {x : UInt8} (hv : Bs w v b) (h : b.length < 1 ∨ 400 < b.length) :
    Calls Try.prog 11 #[v, vU8 x] w fun e w' => e = .returned (.bool true) ∧ Only [] w w' := by
  obtain ⟨_, xa, xc, rfl, h1, h2, h3, _⟩ := id hv
  by_cases hA1 : b.length < 1
  all_goals
    have hA2 : ¬ b.length < 1 → 400 < b.length := by omega
    try have hA2 := hA2 hA1
    go_enter Try.func11, Try.ntmps11
    go_wp2_with fail
    refine (awake09_any w).mono ?_
    rintro e w1 ⟨rfl, ho1⟩
    go_wp2_with fail
    refine (awake09_any w1).mono ?_
    rintro e w2 ⟨rfl, ho2⟩
    go_wp2
    go_ret
    exact ⟨rfl, ho1.trans0 ho2⟩

theorem crcOwn_walk (w : World) {v : Value} {b : List UInt8} {x : Int} (hv : Bs w v b) (hx : (Lit.int .u8 x).wf = true) :
    Calls Try.prog 11 #[v, .int .u8 x] w fun e w' => e = .returned (.bool true) ∧ Only [] w w' := by
  obtain ⟨c, rfl⟩ : ∃ c : UInt8, x = (c.toNat : Int) := by
    simp only [Lit.wf, Bool.and_eq_true, decide_eq_true_eq] at hx
    have h1 : IntKind.u8.min = 0 := rfl
    have h2 : IntKind.u8.max = 255 := rfl
    exact ⟨UInt8.ofNat x.toNat, by rw [UInt8.toNat_ofNat']; omega⟩
  by_cases h : 1 ≤ b.length ∧ b.length ≤ 400
  · exact crcOwn_mid w hv h.1 h.2
  · exact crcOwn_any w hv (by omega)
end Go.Proofs.Ytcceiejfphokbaa.Sh
