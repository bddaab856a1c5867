/- Texts of this proof, merged: KrF, KrG, KrH, KrI. -/
import Derived.Test.YtnlmeaijnfjakaaZ6
/- The document's keyper: an order told: walked. (Printed by gen_krf.py.) -/
namespace Go.Proofs.Ytnlmeaijnfjakaa.Sh
set_option linter.unusedSimpArgs false
set_option linter.unusedVariables false
open Go Go.RowKit

def RCommitPost (w : World) (y x : Nat) (ls bs : List Nat) (f : List UInt8) (rs : List (List UInt8)) (r : (Bool × Nat) × Km) (e : Ending) (w' : World) : Prop :=
  e = .returned (.tuple #[.bool r.1.1, .int .i64 (r.1.2 : Int)]) ∧ RKp w' y x ls (bs ++ newBs w w') r.2 f rs ∧ Only [y] w w'

set_option maxRecDepth 20000 in
set_option maxHeartbeats 6400000 in
theorem rcommit_any (w : World) (y x : Nat) (ls bs : List Nat) (m : Km) (f : List UInt8) (rs : List (List UInt8)) (h : RKp w y x ls bs m f rs) (hl : ∀ i ∈ ls, i < w.heap.size) (hi : KInv m) (slot : Nat) (hslot : slot < 18446744073709551616) (v : Value) (ids : List (List UInt8)) (hv : Dgs w v ids) (hvy : ∀ b, v.ownBlock = some b → b ≠ y) (hil : ids.length ≤ 1000) :
    Calls Try.prog 50 #[.pointer (some ⟨y, 0, none⟩), .int .u64 (slot : Int), v] w (RCommitPost w y x ls bs f rs (commitK m slot ids)) := by
  obtain ⟨a, cap, rfl, h1, h2, h3⟩ := hv.form
  have hylt := h.lt
  have hts : ∀ i ∈ bs, i ∉ ls ∧ i ≠ y := fun i hi => ⟨h.dis i hi, fun e => h.ny.2 (by rw [← e]; exact hi)⟩
  have hu := Try.underlying35
  have same : Hid (∀ W, Only [] w W → RKp W y x ls (bs ++ newBs w W) m f rs ∧ Only [y] w W) := fun W hW => ⟨(h.kept0 hW).wide hylt hl (fun i hi => List.mem_append_left _ hi) hts, hW.mono (by simp)⟩
  have HH := hid h
  by_cases h8 : 8 < ids.length
  · have hres := hid (show RCommitPost w y x ls bs f rs (commitK m slot ids) (.returned (.tuple #[.bool false, .int .i64 1])) w by
      unfold commitK
      rw [if_pos (.inl h8)]
      exact ⟨rfl, same.out w (Only.refl _ _)⟩)
    clear h hi hv same HH
    go_enter Try.func50, Try.ntmps50
    go_wp2
    go_ret2
    exact hres.out
  · have hl8 : ids.length ≤ 8 := by omega
    have hdup : Hid (¬ ids.Nodup → ∀ W, Only [] w W → RCommitPost w y x ls bs f rs (commitK m slot ids) (.returned (.tuple #[.bool false, .int .i64 1])) W) := fun hn W hW => by
      unfold commitK
      rw [if_pos (.inr hn)]
      exact ⟨rfl, same.out W hW⟩
    have HV := hid hv
    have HS := hid hi.slot
    clear h hi h8
    go_enter Try.func50, Try.ntmps50
    go_wp2_with fail
    go_loopw [15] (fun i wr => ∃ k : Nat, k ≤ ids.length ∧ i = .int .i64 k ∧ Hid ((ids.take k).Nodup) ∧ Only [] w wr) (fun i _ => ids.length - (intOf i).toNat)
    case atStart => exact ⟨0, Nat.zero_le _, rfl, hid (by simp), Only.refl _ _⟩
    case round =>
      obtain ⟨k, hk, rfl, hnd, ho⟩ := hrel
      by_cases hlt : k < ids.length
      · obtain ⟨b, o, rfl, _⟩ := (HV.out.kept0 ho).at k hlt
        have hvb := hid (fun (j : Nat) (hj : j < ids.length) => (show w.rangeAt b (o + j * 32) (bytes ids[j]) by
          obtain ⟨b', o', he, hr'⟩ := HV.out.at j hj
          simp only [Option.some.injEq, Addr.mk.injEq] at he
          obtain ⟨rfl, rfl, _⟩ := he
          exact hr'))
        have h32k := HV.out.2 ids[k] (List.getElem_mem hlt)
        obtain ⟨z, hz⟩ : ∃ z, z = ids[k] := ⟨_, rfl⟩
        have HZ := hid hz
        rw [← hz] at h32k
        have HZ32 := hid h32k
        clear hz h32k
        go_wp2_with fail
        go_loopw [9] (fun j wr => ∃ q : Nat, q ≤ k ∧ j = .int .i64 q ∧ Hid (∀ (p : Nat) (hp : p < ids.length), p < q → ids[p] ≠ z) ∧ Only [] w wr) (fun j _ => k - (intOf j).toNat)
        case atStart => exact ⟨0, Nat.zero_le _, rfl, hid (fun p _ h => absurd h (Nat.not_lt_zero _)), ho⟩
        case round =>
          obtain ⟨q, hq, rfl, hne, ho2⟩ := hrel
          by_cases hlq : q < k
          · have hqi : q < ids.length := by omega
            have hvk := hvb.out k hlt
            rw [← HZ.out] at hvk
            have r1 : wr.rangeAt b (o + k * 32) (bytes z) := fun j u hj => ho2.cell (hvk j u hj) (by simp)
            have r2 : wr.rangeAt b (o + q * 32) (bytes ids[q]) := fun j u hj => ho2.cell (hvb.out q hqi j u hj) (by simp)
            have l2 := HV.out.2 ids[q] (List.getElem_mem hqi)
            have hnx : Hid (ids[q] ≠ z → ∀ (p : Nat) (hp : p < ids.length), p < q + 1 → ids[p] ≠ z) := fun hn p hp hpq => by
              by_cases e : p = q
              · subst e; exact hn
              · exact hne.out p hp (by omega)
            have hbad : Hid (ids[q] = z → ¬ ids.Nodup) := fun he hn => by
              have := List.pairwise_iff_getElem.1 hn q k hqi hlt hlq
              rw [he, HZ.out] at this
              exact this rfl
            obtain ⟨s, hs⟩ : ∃ s, s = ids[q] := ⟨_, rfl⟩
            rw [← hs] at r2 l2 hnx hbad
            have i1 : (Try.prog.info? 35).map (·.size) = some (bytes z).length := by rw [dig_info]; simp [bytes, HZ32.out]
            have i2 : (Try.prog.info? 35).map (·.size) = some (bytes s).length := by rw [dig_info]; simp [bytes, l2]
            have eqz := fun w => eql_digA z s HZ32.out l2 w
            clear hs l2 hne
            by_cases hsz : s = z
            · have hq2 : ∀ w, (binOp .eql 35 (.agg (bytes z).toArray) (.agg (bytes s).toArray)).run Try.prog w = .ok (.bool true) w := by
                intro w
                rw [eqz w, hsz]
                simp
              have hres := hid (hdup.out (hbad.out hsz) _ ho2.drew)
              clear hsz eqz hnx hbad hdup
              go_wp2_with fail
              refine wp_region_held_drew (S := fun w => w.rangeAt b (o + k * 32) (bytes z) ∧ w.rangeAt b (o + q * 32) (bytes s)) (by kernel_rfl) ⟨r1, r2⟩ (fun hHeld => ?_)
              refine wpAnyH_take (i := 0) (v := ?v100) rfl (by kernel_rfl) (by kernel_rfl) (by kernel_rfl) (fun _ _ _ h => h) (Or.inl ⟨by rfl, ?hy100⟩) (by assumption) ?rest100
              case hy100 => (intro w hSw; (try dsimp only at hSw); go_simp; try with_reducible rfl)
              simp only [Act.put, List.setIfInBounds_toArray, List.set_cons_zero, List.set_cons_succ, List.getElem_toArray, List.getElem_cons_succ, List.getElem_cons_zero]
              refine wpAnyH_take (i := 1) (v := ?v101) rfl (by kernel_rfl) (by kernel_rfl) (by kernel_rfl) (fun _ _ _ h => h) (Or.inl ⟨by rfl, ?hy101⟩) (by assumption) ?rest101
              case hy101 => (intro w hSw; (try dsimp only at hSw); go_simp; try with_reducible rfl)
              simp only [Act.put, List.setIfInBounds_toArray, List.set_cons_zero, List.set_cons_succ, List.getElem_toArray, List.getElem_cons_succ, List.getElem_cons_zero]
              refine wpAnyH_take (i := 2) (v := ?v102) rfl (by kernel_rfl) (by kernel_rfl) (by kernel_rfl) (fun _ _ _ h => h) (Or.inl ⟨by rfl, ?hy102⟩) (by assumption) ?rest102
              case hy102 => (intro w hSw; (try dsimp only at hSw); go_simp; try with_reducible rfl)
              simp only [Act.put, List.setIfInBounds_toArray, List.set_cons_zero, List.set_cons_succ, List.getElem_toArray, List.getElem_cons_succ, List.getElem_cons_zero]
              refine wpAnyH_take (i := 3) rfl (by kernel_rfl) (by kernel_rfl) (by kernel_rfl) (fun _ _ _ h => h) (yieldsIf_load_mid (by rfl) _ _ rfl _ _ rfl _ _ (fun w hS => hS.1) hu rfl i1) (by assumption) ?_
              simp only [Act.put, List.setIfInBounds_toArray, List.set_cons_zero, List.set_cons_succ, List.getElem_toArray, List.getElem_cons_succ, List.getElem_cons_zero]
              refine wpAnyH_take (i := 4) (v := ?v104) rfl (by kernel_rfl) (by kernel_rfl) (by kernel_rfl) (fun _ _ _ h => h) (Or.inl ⟨by rfl, ?hy104⟩) (by assumption) ?rest104
              case hy104 => (intro w hSw; (try dsimp only at hSw); go_simp; try with_reducible rfl)
              simp only [Act.put, List.setIfInBounds_toArray, List.set_cons_zero, List.set_cons_succ, List.getElem_toArray, List.getElem_cons_succ, List.getElem_cons_zero]
              refine wpAnyH_take (i := 5) (v := ?v105) rfl (by kernel_rfl) (by kernel_rfl) (by kernel_rfl) (fun _ _ _ h => h) (Or.inl ⟨by rfl, ?hy105⟩) (by assumption) ?rest105
              case hy105 => (intro w hSw; (try dsimp only at hSw); go_simp; try with_reducible rfl)
              simp only [Act.put, List.setIfInBounds_toArray, List.set_cons_zero, List.set_cons_succ, List.getElem_toArray, List.getElem_cons_succ, List.getElem_cons_zero]
              refine wpAnyH_take (i := 6) (v := ?v106) rfl (by kernel_rfl) (by kernel_rfl) (by kernel_rfl) (fun _ _ _ h => h) (Or.inl ⟨by rfl, ?hy106⟩) (by assumption) ?rest106
              case hy106 => (intro w hSw; (try dsimp only at hSw); go_simp; try with_reducible rfl)
              simp only [Act.put, List.setIfInBounds_toArray, List.set_cons_zero, List.set_cons_succ, List.getElem_toArray, List.getElem_cons_succ, List.getElem_cons_zero]
              refine wpAnyH_take (i := 7) rfl (by kernel_rfl) (by kernel_rfl) (by kernel_rfl) (fun _ _ _ h => h) (yieldsIf_load_mid (by rfl) _ _ rfl _ _ rfl _ _ (fun w hS => hS.2) hu rfl i2) (by assumption) ?_
              simp only [Act.put, List.setIfInBounds_toArray, List.set_cons_zero, List.set_cons_succ, List.getElem_toArray, List.getElem_cons_succ, List.getElem_cons_zero]
              refine wpAnyH_take (i := 8) (v := ?v108) rfl (by kernel_rfl) (by kernel_rfl) (by kernel_rfl) (fun _ _ _ h => h) (Or.inl ⟨by rfl, ?hy108⟩) (by assumption) ?rest108
              case hy108 => (intro w hSw; (try dsimp only at hSw); go_simp; try with_reducible rfl)
              simp only [Act.put, List.setIfInBounds_toArray, List.set_cons_zero, List.set_cons_succ, List.getElem_toArray, List.getElem_cons_succ, List.getElem_cons_zero]
              refine wpAnyH_done (by kernel_rfl) ?_ _
              go_wp2
              go_ret2
              exact hres.out
            · have hq2 : ∀ w, (binOp .eql 35 (.agg (bytes z).toArray) (.agg (bytes s).toArray)).run Try.prog w = .ok (.bool false) w := by
                intro w
                rw [eqz w, beq_eq_false_iff_ne.2 (fun e => hsz e.symm)]
              have hnx2 := hid (hnx.out hsz)
              clear hsz eqz hnx hbad
              go_wp2_with fail
              refine wp_region_held_drew (S := fun w => w.rangeAt b (o + k * 32) (bytes z) ∧ w.rangeAt b (o + q * 32) (bytes s)) (by kernel_rfl) ⟨r1, r2⟩ (fun hHeld => ?_)
              refine wpAnyH_take (i := 0) (v := ?v200) rfl (by kernel_rfl) (by kernel_rfl) (by kernel_rfl) (fun _ _ _ h => h) (Or.inl ⟨by rfl, ?hy200⟩) (by assumption) ?rest200
              case hy200 => (intro w hSw; (try dsimp only at hSw); go_simp; try with_reducible rfl)
              simp only [Act.put, List.setIfInBounds_toArray, List.set_cons_zero, List.set_cons_succ, List.getElem_toArray, List.getElem_cons_succ, List.getElem_cons_zero]
              refine wpAnyH_take (i := 1) (v := ?v201) rfl (by kernel_rfl) (by kernel_rfl) (by kernel_rfl) (fun _ _ _ h => h) (Or.inl ⟨by rfl, ?hy201⟩) (by assumption) ?rest201
              case hy201 => (intro w hSw; (try dsimp only at hSw); go_simp; try with_reducible rfl)
              simp only [Act.put, List.setIfInBounds_toArray, List.set_cons_zero, List.set_cons_succ, List.getElem_toArray, List.getElem_cons_succ, List.getElem_cons_zero]
              refine wpAnyH_take (i := 2) (v := ?v202) rfl (by kernel_rfl) (by kernel_rfl) (by kernel_rfl) (fun _ _ _ h => h) (Or.inl ⟨by rfl, ?hy202⟩) (by assumption) ?rest202
              case hy202 => (intro w hSw; (try dsimp only at hSw); go_simp; try with_reducible rfl)
              simp only [Act.put, List.setIfInBounds_toArray, List.set_cons_zero, List.set_cons_succ, List.getElem_toArray, List.getElem_cons_succ, List.getElem_cons_zero]
              refine wpAnyH_take (i := 3) rfl (by kernel_rfl) (by kernel_rfl) (by kernel_rfl) (fun _ _ _ h => h) (yieldsIf_load_mid (by rfl) _ _ rfl _ _ rfl _ _ (fun w hS => hS.1) hu rfl i1) (by assumption) ?_
              simp only [Act.put, List.setIfInBounds_toArray, List.set_cons_zero, List.set_cons_succ, List.getElem_toArray, List.getElem_cons_succ, List.getElem_cons_zero]
              refine wpAnyH_take (i := 4) (v := ?v204) rfl (by kernel_rfl) (by kernel_rfl) (by kernel_rfl) (fun _ _ _ h => h) (Or.inl ⟨by rfl, ?hy204⟩) (by assumption) ?rest204
              case hy204 => (intro w hSw; (try dsimp only at hSw); go_simp; try with_reducible rfl)
              simp only [Act.put, List.setIfInBounds_toArray, List.set_cons_zero, List.set_cons_succ, List.getElem_toArray, List.getElem_cons_succ, List.getElem_cons_zero]
              refine wpAnyH_take (i := 5) (v := ?v205) rfl (by kernel_rfl) (by kernel_rfl) (by kernel_rfl) (fun _ _ _ h => h) (Or.inl ⟨by rfl, ?hy205⟩) (by assumption) ?rest205
              case hy205 => (intro w hSw; (try dsimp only at hSw); go_simp; try with_reducible rfl)
              simp only [Act.put, List.setIfInBounds_toArray, List.set_cons_zero, List.set_cons_succ, List.getElem_toArray, List.getElem_cons_succ, List.getElem_cons_zero]
              refine wpAnyH_take (i := 6) (v := ?v206) rfl (by kernel_rfl) (by kernel_rfl) (by kernel_rfl) (fun _ _ _ h => h) (Or.inl ⟨by rfl, ?hy206⟩) (by assumption) ?rest206
              case hy206 => (intro w hSw; (try dsimp only at hSw); go_simp; try with_reducible rfl)
              simp only [Act.put, List.setIfInBounds_toArray, List.set_cons_zero, List.set_cons_succ, List.getElem_toArray, List.getElem_cons_succ, List.getElem_cons_zero]
              refine wpAnyH_take (i := 7) rfl (by kernel_rfl) (by kernel_rfl) (by kernel_rfl) (fun _ _ _ h => h) (yieldsIf_load_mid (by rfl) _ _ rfl _ _ rfl _ _ (fun w hS => hS.2) hu rfl i2) (by assumption) ?_
              simp only [Act.put, List.setIfInBounds_toArray, List.set_cons_zero, List.set_cons_succ, List.getElem_toArray, List.getElem_cons_succ, List.getElem_cons_zero]
              refine wpAnyH_take (i := 8) (v := ?v208) rfl (by kernel_rfl) (by kernel_rfl) (by kernel_rfl) (fun _ _ _ h => h) (Or.inl ⟨by rfl, ?hy208⟩) (by assumption) ?rest208
              case hy208 => (intro w hSw; (try dsimp only at hSw); go_simp; try with_reducible rfl)
              simp only [Act.put, List.setIfInBounds_toArray, List.set_cons_zero, List.set_cons_succ, List.getElem_toArray, List.getElem_cons_succ, List.getElem_cons_zero]
              refine wpAnyH_done (by kernel_rfl) ?_ _
              go_wp2
              go_roundw
              case rel => exact ⟨q + 1, by omega, by go_num, hnx2.out, ho2.drew⟩
              case measure => simp [intOf]; omega
          · obtain rfl : q = k := by omega
            have hnd2 : Hid ((ids.take (q + 1)).Nodup) := by
              show List.Nodup _
              rw [List.take_succ_eq_append_getElem hlt]
              refine List.nodup_append.2 ⟨hnd.out, by simp, ?_⟩
              intro c hc d hd e
              simp only [List.mem_singleton] at hd
              subst hd
              subst e
              obtain ⟨i, hi, he⟩ := List.getElem_of_mem hc
              rw [List.getElem_take] at he
              have hi2 : i < q := by simp at hi; omega
              exact hne.out i (by omega) hi2 (by rw [he, HZ.out])
            clear hne hnd
            go_wp2
            go_roundw
            case rel => exact ⟨q + 1, by omega, by go_num, hnd2, ho2⟩
            case measure => simp [intOf]; omega
      · obtain rfl : k = ids.length := by omega
        rw [List.take_length] at hnd
        have hK := hid (HH.out.kept0 ho)
        obtain ⟨S0, hS0⟩ : ∃ S0, S0 = m.slot := ⟨_, rfl⟩
        obtain ⟨T0, hT0⟩ : ∃ T0, T0 = m.told := ⟨_, rfl⟩
        have hc1 := hK.out.c1
        have hc3 := hK.out.c3
        rw [← hS0] at hc1
        rw [← hT0] at hc3
        obtain ⟨hc1, hz1⟩ := hc1
        obtain ⟨hc3, hz3⟩ := hc3
        have hpre : Hid (commitK m slot ids = (if T0 = true ∧ slot < S0 then ((false, 13), m) else if T0 = true ∧ slot = S0 then (if ids = m.ids then ((false, 0), m) else ((false, 16), m)) else ((true, 0), { m with slot := slot, ids := ids, told := true }))) := by
          show _ = _
          unfold commitK
          rw [if_neg (fun h9 => h9.elim (fun h => by omega) (fun h => h hnd.out)), ← hS0, ← hT0]
        have hsame := hid (same.out wr ho)
        have hK3 := hK.out.c2
        obtain ⟨iv, ⟨hc2, hz2⟩, hiv, hib⟩ := hK3
        have rsm := rsame_any wr _ _ ids m.ids (HV.out.kept0 ho) hiv
        obtain ⟨ia, ic, rfl, _⟩ := hiv.form
        replace rsm := hid rsm
        have hywr : y < wr.heap.size := by have := ho.size; omega
        have hS64 : S0 < 18446744073709551616 := by rw [hS0]; exact HS.out
        obtain ⟨IL, hIL⟩ : ∃ n, n = m.ids.length := ⟨_, rfl⟩
        rw [← hIL] at hc2 rsm
        have hfresh : ¬ (T0 = true ∧ slot < S0) → ¬ (T0 = true ∧ slot = S0) → Hid (commitK m slot ids = ((true, 0), { m with slot := slot, ids := ids, told := true })) := fun g1 g2 => by
          show _ = _
          rw [hpre.out, if_neg g1, if_neg g2]
        have hHV := hid (HV.out.kept0 ho)
        clear hS0 hT0 hnd hdup hiv hIL
        by_cases g1 : T0 = true ∧ slot < S0
        · obtain ⟨rfl, g1⟩ := g1
          have hres := hid (show RCommitPost w y x ls bs f rs (commitK m slot ids) (.returned (.tuple #[.bool false, .int .i64 13])) wr by
            rw [hpre.out, if_pos ⟨rfl, g1⟩]
            exact ⟨rfl, hsame.out⟩)
          clear hpre hfresh
          go_wp2
          go_ret2
          exact hres.out
        · by_cases g2 : T0 = true ∧ slot = S0
          · obtain ⟨rfl, rfl⟩ := g2
            by_cases g3 : ids = m.ids
            · have hres := hid (fun W (hW : Only [] wr W) => (show RCommitPost w y x ls bs f rs (commitK m slot ids) (.returned (.tuple #[.bool false, .int .i64 0])) W by
                rw [hpre.out, if_neg g1, if_pos ⟨rfl, rfl⟩, if_pos g3]
                exact ⟨rfl, same.out W (ho.trans0 hW)⟩))
              rw [decide_eq_true g3] at rsm
              clear hpre hfresh g1 g3
              go_wp2_with fail
              refine rsm.out.mono ?_
              rintro e w2 ⟨rfl, o2⟩
              go_wp2
              go_ret2
              exact hres.out _ o2
            · have hres := hid (fun W (hW : Only [] wr W) => (show RCommitPost w y x ls bs f rs (commitK m slot ids) (.returned (.tuple #[.bool false, .int .i64 16])) W by
                rw [hpre.out, if_neg g1, if_pos ⟨rfl, rfl⟩, if_neg g3]
                exact ⟨rfl, same.out W (ho.trans0 hW)⟩))
              rw [decide_eq_false g3] at rsm
              clear hpre hfresh g1 g3
              go_wp2_with fail
              refine rsm.out.mono ?_
              rintro e w2 ⟨rfl, o2⟩
              go_wp2
              go_ret2
              exact hres.out _ o2
          · have hfr := hfresh g1 g2
            clear hpre hfresh rsm
            obtain ⟨wA, hwA⟩ : ∃ wA, wA = (wr.setCell ⟨y, 1, none⟩ (.int .u64 (slot : Int))).setCell ⟨y, 3, none⟩ (.bool true) := ⟨_, rfl⟩
            have oA : Only [y] wr wA := by rw [hwA]; exact ((Only.refl _ wr).setCell (.inl (by simp)) _).setCell (.inl (by simp)) _
            have sA : wA.heap.size = wr.heap.size := by rw [hwA]; simp
            have hxA := hHV.out.1.kept oA (fun b hb hm => hvy b hb (by rw [← List.mem_singleton.1 hm]))
            have hownA := own_built wA [] 35 32 0 rfl (by unfold maxLen; omega)
            rw [sA] at hownA
            have sA1 : wA.heap.size ≤ wr.heap.size := by omega
            have sA2 : wr.heap.size ≤ wA.heap.size := by omega
            have oB : Only [] wA (wA.alloc (Obj.cells #[] 35)) := (Only.refl [] wA).alloc _
            replace hxA := hxA.kept0 oB
            have hone := flat_one ids
            obtain ⟨CS, hCS⟩ : ∃ CS, CS = ids.flatMap bytes := ⟨_, rfl⟩
            rw [← hCS] at hxA hone
            have m0 : ∀ o u, o ≠ 1 → o ≠ 3 → (wr.cell? ⟨y, o, none⟩ = some u ∧ wr.frozen? ⟨y, o, none⟩ = false) → wA.cell? ⟨y, o, none⟩ = some u ∧ wA.frozen? ⟨y, o, none⟩ = false := fun o u n1 n3 hu => by
              rw [hwA]
              exact set_cell _ (set_cell _ ⟨hc1, hz1⟩ ⟨hc3, hz3⟩ (by simp)) (set_cell _ ⟨hc1, hz1⟩ hu (by simp [n1])) (by simp [n3])
            have m1 : wA.cell? ⟨y, 1, none⟩ = some (.int .u64 (slot : Int)) ∧ wA.frozen? ⟨y, 1, none⟩ = false := by
              rw [hwA]
              exact set_cell _ (set_cell _ ⟨hc1, hz1⟩ ⟨hc3, hz3⟩ (by simp)) (same_cell ⟨hc1, hz1⟩) (by simp)
            have m3 : wA.cell? ⟨y, 3, none⟩ = some (.bool true) ∧ wA.frozen? ⟨y, 3, none⟩ = false := by
              rw [hwA]
              exact same_cell (set_cell _ ⟨hc1, hz1⟩ ⟨hc3, hz3⟩ (by simp))
            have m2 := m0 2 _ (by omega) (by omega) ⟨hc2, hz2⟩
            clear sA
            replace m0 := hid m0
            replace m1 := hid m1
            replace m3 := hid m3
            have M2 := hid m2
            replace hCS := hid hCS
            replace hxA := hid hxA
            replace hownA := hid hownA
            have hywA : y < wA.heap.size := by omega
            have hswr := ho.size
            cases T0
            case' true =>
              have k1 : ¬ ((slot : Int) < (S0 : Int)) := fun h9 => g1 ⟨rfl, by omega⟩
              have k2 : ¬ ((slot : Int) = (S0 : Int)) := fun h9 => g2 ⟨rfl, by omega⟩
            all_goals
              clear g1 g2 m2
              go_wp2_with (at_builtin; rw [← hwA]; refine wpList_app (by rfl) _ _ 42 (by rfl) wr.heap.size 35 32 32 el_dig (by rfl) hownA.out (by rfl) hxA.out hone (by omega) (by omega) (by rw [World.size_alloc]; omega) ?_; intro v6 w6 own6 app6; rw [Nat.zero_add, List.nil_append] at own6; obtain ⟨va6, vc6, rfl⟩ := own_form own6; have o6 : Only [] wA w6 := oB.app app6 (fun i hi => .inr (by have := (hownA.out.lt i hi).1; omega)); have q2 := cell_kept o6 (by simp) M2.out; have q2a := q2.1; have q2b := q2.2; clear q2)
              obtain ⟨W, hW⟩ : ∃ W, W = w6.setCell ⟨y, 2, none⟩ (.slice va6 ids.length vc6) := ⟨_, rfl⟩
              have oW : Only [y] w6 W := by rw [hW]; exact (Only.refl _ w6).setCell (.inl (by simp)) _
              have sW : W.heap.size = w6.heap.size := by rw [hW]; simp
              have s6 := o6.size
              have hcW : W.cell? ⟨y, 2, none⟩ = some (.slice va6 ids.length vc6) ∧ W.frozen? ⟨y, 2, none⟩ = false := by
                rw [hW]; exact same_cell ⟨q2a, q2b⟩
              have hoth : ∀ o u, o ≠ 2 → (w6.cell? ⟨y, o, none⟩ = some u ∧ w6.frozen? ⟨y, o, none⟩ = false) → W.cell? ⟨y, o, none⟩ = some u ∧ W.frozen? ⟨y, o, none⟩ = false := fun o u n2 hu => by
                rw [hW]; exact set_cell _ ⟨q2a, q2b⟩ hu (by simp [n2])
              have hfin : RCommitPost w y x ls bs f rs (commitK m slot ids) (.returned (.tuple #[.bool true, .int .i64 0])) W := by
                rw [hfr.out]
                have hKr := hK.out
                have owW : Only [y] wr W := (oA.trans o6 (ds := [y]) (by simp) (by simp)).trans oW (ds := [y]) (by simp) (by simp)
                obtain ⟨lv, l1, l2⟩ := hKr.c0
                refine ⟨rfl, ?_, ho.trans owW (ds := [y]) (by simp) (by simp)⟩
                have hnew : ∀ i, wr.heap.size ≤ i → i < W.heap.size → i ∈ newBs w W := fun i h1 h2 => mem_newBs.2 ⟨by omega, h2⟩
                refine ⟨⟨lv, hoth 0 _ (by omega) (cell_kept o6 (by simp) (m0.out 0 _ (by omega) (by omega) l1)), (l2.kept owW (fun i hi => by rw [List.mem_singleton.1 hi]; exact hKr.ny.2)).mono (fun i hi => List.mem_append_left _ hi)⟩, hoth 1 _ (by omega) (cell_kept o6 (by simp) m1.out), ⟨_, hcW, ?_, ?_⟩, hoth 3 _ (by omega) (cell_kept o6 (by simp) m3.out), ?_, hKr.log.only owW (fun i hi => by rw [List.mem_singleton.1 hi]; exact hKr.ny.1), ⟨hKr.ny.1, ?_⟩, ?_⟩
                · refine ⟨?_, HV.out.2⟩
                  have := Cs.of_own (own_only own6 oW (fun i hi hm => by have := (own6.lt i hi).1; rw [List.mem_singleton] at hm; omega)) (by omega)
                  rw [hCS.out] at this
                  exact this
                · intro i hi
                  have := own6.lt i hi
                  exact List.mem_append_right _ (hnew i (by omega) (by omega))
                · rw [hW, World.cell?_setCell_other _ _ _ _ (by simp)]
                  have h4 := hKr.c4
                  have h4a : wA.cell? ⟨y, 4, none⟩ = some (.pointer (some ⟨x, 0, none⟩)) := by
                    rw [hwA, World.cell?_setCell_other _ _ _ _ (by simp), World.cell?_setCell_other _ _ _ _ (by simp)]
                    exact h4
                  exact o6.cell h4a (by simp)
                · intro hm
                  rcases List.mem_append.1 hm with hm | hm
                  · exact hKr.ny.2 hm
                  · have := (mem_newBs.1 hm).1; omega
                · intro i hi
                  rcases List.mem_append.1 hi with hi | hi
                  · exact hKr.dis i hi
                  · have := (mem_newBs.1 hi).1
                    exact fun hm => by have := hl i hm; omega
              rw [hW] at hfin
              replace hfin := hid hfin
              clear hoth hcW m0 m1 m3 M2 hxA hownA own6 hK hHV oW hwA
              go_wp2
              go_ret2
              exact hfin.out
end Go.Proofs.Ytnlmeaijnfjakaa.Sh
/- The document's keyper, whole: a record written; a share kept; shares forgotten: walked. -/
namespace Go.Proofs.Ytnlmeaijnfjakaa.Sh
set_option linter.unusedSimpArgs false
set_option linter.unusedVariables false
open Go Go.RowKit

set_option maxRecDepth 20000 in
set_option maxHeartbeats 1600000 in
theorem rwrite_any (w : World) (y x : Nat) (ls bs : List Nat) (m : Km) (f : List UInt8) (rs : List (List UInt8)) (h : RKp w y x ls bs m f rs) (hl : ∀ i ∈ ls, i < w.heap.size) (hbl : ∀ i ∈ bs, i < w.heap.size) (v : Value) (b : List UInt8) (hb : Bs w v b) (hvl : ∀ i, v.ownBlock = some i → i ∉ ls) (hb1 : 1 ≤ b.length) (hb2 : b.length ≤ 1000) (hf : f.length ≤ 300000) (hrs : rs.length ≤ 100000) :
    Calls Try.prog 80 #[.pointer (some ⟨y, 0, none⟩), v] w fun e w' => e = .returned (.tuple #[]) ∧ (∃ ls', RKp w' y x ls' bs m (f ++ frameL b) (rs ++ [b]) ∧ (∀ i ∈ ls', i ∈ ls ∨ w.heap.size ≤ i) ∧ ∀ i ∈ ls', i < w'.heap.size) ∧ Only ls w w' := by
  have hxl : x ∈ ls := h.log.2.1
  have hap := rappend_good w x f [] b rs ls h.log v hb (fun k hk => .inr (fun e => hvl k hk (by rw [e]; exact hxl))) hb1 hb2 (by simp; omega) (by omega)
  rw [List.nil_append] at hap
  have hfl : (frameL b).length ≤ 1006 := by rw [frameL_length]; omega
  have hc4 := h.c4
  have hyx : y ≠ x := fun e => h.ny.1 (by rw [e]; exact hxl)
  have HH := hid h
  replace hap := hid hap
  have hylt := h.lt
  clear h hb
  go_enter Try.func80, Try.ntmps80
  go_wp2_with fail
  refine hap.out.mono ?_
  rintro e w1 ⟨rfl, hL1, o1⟩
  have s1 := o1.size
  have c41 := o1.cell hc4 (by simpa using hyx)
  have hsy := hid (rsync_any w1 x f (frameL b) (rs ++ [b]) _ hL1 (by omega))
  go_wp2_with fail
  refine hsy.out.mono ?_
  rintro e w2 ⟨rfl, hL2, o2⟩
  have s2 := o2.size
  have o12 : Only [x] w w2 := o1.trans o2 (ds := [x]) (by simp) (by simp)
  have hfin : (∃ ls', RKp w2 y x ls' bs m (f ++ frameL b) (rs ++ [b]) ∧ (∀ i ∈ ls', i ∈ ls ∨ w.heap.size ≤ i) ∧ ∀ i ∈ ls', i < w2.heap.size) ∧ Only ls w w2 := by
    have hx : ∀ i ∈ [x], i ∈ ls := fun i hi => by rw [List.mem_singleton.1 hi]; exact hxl
    have hmem : ∀ i ∈ ls ++ newBs w w1 ++ newBs w1 w2, (i ∈ ls ∨ w.heap.size ≤ i) ∧ i < w2.heap.size := fun i hi => by
      rcases List.mem_append.1 hi with hi | hi
      · rcases List.mem_append.1 hi with hi | hi
        · exact ⟨.inl hi, by have := hl i hi; omega⟩
        · have := mem_newBs.1 hi
          exact ⟨.inr this.1, by omega⟩
      · have := mem_newBs.1 hi
        exact ⟨.inr (by omega), this.2⟩
    have hk := HH.out
    obtain ⟨lv, l1, l2⟩ := hk.c0
    obtain ⟨iv, i1, i2, i3⟩ := hk.c2
    have hyn : y ∉ [x] := by simpa using hyx
    have hbx : ∀ i ∈ bs, i ∉ [x] := fun i hi hm => hk.dis i hi (hx i hm)
    refine ⟨⟨_, ⟨⟨lv, cell_kept o12 hyn l1, l2.kept o12 (fun i hi hm => hbx i hm hi)⟩, cell_kept o12 hyn hk.c1, ⟨iv, cell_kept o12 hyn i1, i2.kept o12 (fun j hj => hbx j (i3 j hj)), i3⟩, cell_kept o12 hyn hk.c3, o12.cell hk.c4 hyn, hL2, ⟨fun hm => ?_, hk.ny.2⟩, fun i hi hm => ?_⟩, fun i hi => (hmem i hi).1, fun i hi => (hmem i hi).2⟩, o12.mono (fun i hi => .inl (hx i hi))⟩
    · rcases (hmem y hm).1 with h9 | h9
      · exact hk.ny.1 h9
      · omega
    · rcases (hmem i hm).1 with h9 | h9
      · exact hk.dis i hi h9
      · have := hbl i hi; omega
  replace hfin := hid hfin
  clear hL2 hL1 HH
  go_wp2
  go_end0
  exact ⟨rfl, hfin.out⟩

/-- The document's keyper at y that is what its records tell; all that it has lies in blocks B. -/
def RKB (W : World) (y : Nat) (rs : List (List UInt8)) (B : List Nat) : Prop :=
  ∃ x ls bs, RKp W y x ls bs (openK rs) (flatL rs) rs ∧ (y ∈ B ∧ (∀ i ∈ ls, i ∈ B) ∧ ∀ i ∈ bs, i ∈ B) ∧ (∀ i ∈ B, i < W.heap.size) ∧ ∀ r ∈ rs, 1 ≤ r.length ∧ r.length ≤ 1000
theorem RKB.only {W W' : World} {y : Nat} {rs : List (List UInt8)} {B ds : List Nat} (h : RKB W y rs B) (ho : Only ds W W') (hd : ∀ i ∈ ds, i ∉ B) : RKB W' y rs B := by
  obtain ⟨x, ls, bs, hK, ⟨h1, h3, h4⟩, h5, h6⟩ := h
  have hs := ho.size
  exact ⟨x, ls, bs, hK.only ho (fun i hi => ⟨fun e => hd i hi (by rw [e]; exact h1), fun hm => hd i hi (h3 i hm), fun hm => hd i hi (h4 i hm)⟩), ⟨h1, h3, h4⟩, fun i hi => by have := h5 i hi; omega, h6⟩
theorem RKB.kept0 {W W' : World} {y : Nat} {rs : List (List UInt8)} {B : List Nat} (h : RKB W y rs B) (ho : Only [] W W') : RKB W' y rs B := h.only ho (by simp)
theorem RKB.lt {W : World} {y : Nat} {rs : List (List UInt8)} {B : List Nat} (h : RKB W y rs B) : ∀ i ∈ B, i < W.heap.size := by
  obtain ⟨_, _, _, _, _, h5, _⟩ := h
  exact h5
theorem RKB.one {W : World} {y : Nat} {rs : List (List UInt8)} {B : List Nat} (h : RKB W y rs B) : ∀ r ∈ rs, 1 ≤ r.length ∧ r.length ≤ 1000 := by
  obtain ⟨_, _, _, _, _, _, h6⟩ := h
  exact h6
theorem RKB.make {W w' : World} {y x : Nat} {ls bs : List Nat} {m : Km} {f : List UInt8} {rs : List (List UInt8)} {B : List Nat} (hK : RKp w' y x ls bs m f rs) (hm : m = openK rs) (hf : f = flatL rs) (hy : y ∈ B) (h3 : ∀ i ∈ ls, (i ∈ B ∨ W.heap.size ≤ i) ∧ i < w'.heap.size) (h4 : ∀ i ∈ bs, (i ∈ B ∨ W.heap.size ≤ i) ∧ i < w'.heap.size) (h5 : ∀ i ∈ B, i < w'.heap.size) (h6 : ∀ r ∈ rs, 1 ≤ r.length ∧ r.length ≤ 1000) : RKB w' y rs (B ++ newBs W w') := by
  subst hm
  subst hf
  have hin : ∀ i, (i ∈ B ∨ W.heap.size ≤ i) ∧ i < w'.heap.size → i ∈ B ++ newBs W w' := by
    rintro i ⟨h | h, hl⟩
    · exact List.mem_append_left _ h
    · exact List.mem_append_right _ (mem_newBs.2 ⟨h, hl⟩)
  refine ⟨x, ls, bs, hK, ⟨List.mem_append_left _ hy, fun i hi => hin i (h3 i hi), fun i hi => hin i (h4 i hi)⟩, fun i hi => ?_, h6⟩
  rcases List.mem_append.1 hi with hi | hi
  · exact h5 i hi
  · exact (mem_newBs.1 hi).2

def RMKeepPost (W : World) (y : Nat) (B : List Nat) (c : Nat) (rs : List (List UInt8)) (e : Ending) (w' : World) : Prop :=
  e = .returned (.int .i64 (c : Int)) ∧ RKB w' y rs (B ++ newBs W w') ∧ Only B W w'

set_option maxRecDepth 20000 in
set_option maxHeartbeats 3200000 in
theorem rmkeep_any (W : World) (y : Nat) (rs : List (List UInt8)) (B : List Nat) (h : RKB W y rs B) (d : List UInt8) (hd : d.length = 32) (sv : Value) (s : List UInt8) (hs : Bs W sv s) (hsB0 : ∀ i, sv.ownBlock = some i → s = [] ∨ i ∉ B) (hsl : s.length ≤ 1000) (hf : (flatL rs).length ≤ 300000) (hrs : rs.length ≤ 100000) :
    Calls Try.prog 53 #[.pointer (some ⟨y, 0, none⟩), vD d, sv] W (RMKeepPost W y B (keepK (openK rs) d s).1 (keepR rs d s)) := by
  obtain ⟨sa, sc, rfl⟩ := bs_form hs
  obtain ⟨x, ls, bs, hK, ⟨b1, b3, b4⟩, b5, b6⟩ := h
  have hD := Dv.boxed W d hd 35
  obtain ⟨w1, hw1⟩ : ∃ w1, w1 = W.alloc (Obj.cells (bytes d).toArray 35) := ⟨_, rfl⟩
  have o1 : Only [] W w1 := by rw [hw1]; exact (Only.refl [] W).alloc _
  have s1 : W.heap.size < w1.heap.size := by rw [hw1]; simp
  rw [← hw1] at hD
  obtain ⟨gd, hg⟩ : ∃ gd, gd = W.heap.size := ⟨_, rfl⟩
  rw [← hg] at hD
  have hgd : W.heap.size ≤ gd := by omega
  have kp := rkeep_any w1 y x ls bs (openK rs) (flatL rs) rs (hK.kept0 o1) (fun i hi => by have := b5 i (b3 i hi); omega) (open_inv rs) d hd _ s (hs.kept0 o1) (fun i hi => (hsB0 i hi).imp id (fun h e => h (by rw [e]; exact b1))) hsl
  have HD32 := hid hd
  obtain ⟨r, hr⟩ : ∃ r, r = keepK (openK rs) d s := ⟨_, rfl⟩
  have HR := hid hr
  rw [← hr] at kp ⊢
  clear hr
  obtain ⟨c, m'⟩ := r
  rw [show vD d = .agg (bytes d).toArray from rfl] at kp
  rw [show vD d = .agg (bytes d).toArray from rfl]
  replace kp := hid kp
  have hcl : c ≤ 16 := by
    have h1 : c = (keepK (openK rs) d s).1 := by rw [← HR.out]
    rw [h1]
    unfold keepK
    split
    · simp
    · cases getS (openK rs).sh d with
      | some t => simp only; split <;> simp
      | none => simp only; split <;> simp
  obtain ⟨RS, hRS⟩ : ∃ RS, RS = keepR rs d s := ⟨_, rfl⟩
  have HRS := hid hRS
  rw [← hRS]
  simp only
  clear hRS hd hK
  go_enter Try.func53, Try.ntmps53
  go_wp2_with (first | (rw [← hw1, ← hg]; refine wpList_load_dig (by rfl) _ (by rfl) gd d (by rfl) hD ?_) | (refine wpList_load_dig (by rfl) _ (by rfl) gd d (by rfl) hD ?_))
  try rw [← hw1]
  try rw [← hg]
  clear hw1 hg
  refine kp.out.mono ?_
  rintro e w2 ⟨rfl, hK2, o2⟩
  have s2 := o2.size
  have O2 : Only B W w2 := o1.trans o2 (by simp) (fun i hi => .inl (by rw [List.mem_singleton.1 hi]; exact b1))
  have hbs2 : ∀ i ∈ bs ++ newBs w1 w2, (i ∈ B ∨ W.heap.size ≤ i) ∧ i < w2.heap.size := fun i hi => by
    rcases List.mem_append.1 hi with hi | hi
    · exact ⟨.inl (b4 i hi), by have := b5 i (b4 i hi); omega⟩
    · have := mem_newBs.1 hi
      exact ⟨.inr (by omega), this.2⟩
  by_cases h0 : c = 0
  · subst h0
    have hkl := keepK_len (m := openK rs) (d := d) (s := s) (by rw [← HR.out])
    have hsB : ∀ i, (Value.slice sa s.length sc).ownBlock = some i → i ∉ B := fun i hi => (hsB0 i hi).resolve_left (fun e => by have := hkl.1; rw [e] at this; simp at this)
    have HM := hid (show m' = openK (rs ++ [rec1 d s]) by rw [openK_snoc, redo_rec1 _ _ _ HD32.out hkl.2, ← HR.out])
    have HRS2 := hid (show RS = rs ++ [rec1 d s] by rw [HRS.out]; unfold keepR; rw [← HR.out]; rfl)
    have hgy : gd ≠ y := fun e => by have := b5 y b1; omega
    have hD2 := hD.kept o2 (by simpa using hgy)
    have own0 := own_built w2 [.int .u8 1] 5 1 1 rfl (by unfold maxLen; omega)
    have so : Only [] w2 (w2.alloc (Obj.cells #[.int .u8 1] 5)) := (Only.refl [] w2).alloc _
    have hxd := cs_dig (hD2.kept0 so).range hD2.len
    have hs2 := (hs.kept0 o1).kept o2 (fun i hi hm => hsB i hi (by rw [List.mem_singleton.1 hm]; exact b1))
    have tx := fun W' (hW : Only [] w2 W') => refTextB_any _ s W' (by omega) (hs2.kept0 hW)
    have htl : (textB s).length ≤ s.length + 10 := by
      unfold textB
      rw [List.length_append]
      have := numB_few s.length (by omega)
      omega
    obtain ⟨tb, htb⟩ : ∃ tb, tb = textB s := ⟨_, rfl⟩
    rw [← htb] at htl
    simp only [← htb] at tx
    replace tx := hid tx
    have hrec := hid (show ([1] ++ d) ++ tb = rec1 d s by rw [htb]; rfl)
    have hdl : d.length ≤ 32 := by have := HD32.out; omega
    clear htb kp
    go_wp2_with (at_builtin; refine wpList_app (by rfl) _ _ 27 (by rfl) w2.heap.size 5 1 1 el_u8 (by rfl) own0 (by rfl) hxd (bytes_one d) (by omega) (by omega) (by simp) ?_; intro v3 w3 own3 app3; obtain ⟨va3, vc3, rfl⟩ := own_form own3; have o3 : Only [] w2 w3 := so.app app3 (fun i hi => .inr (own0.lt i hi).1))
    have s3 := o3.size
    refine (tx.out _ o3).mono ?_
    rintro e w4 ⟨v4, rfl, own4, o4⟩
    have s4 := o4.size
    obtain ⟨va4, vc4, rfl⟩ := own_form own4
    have own3' := own_only0 own3 o4
    have hx4 : Bs w4 (.slice va4 tb.length vc4) tb := Cs.of_own own4 (by omega)
    go_wp2_with (at_builtin; refine wpList_app (by rfl) _ _ 27 (by rfl) w2.heap.size 5 1 1 el_u8 (by rfl) own3' (by rfl) hx4 (bytes_one tb) (by omega) (by omega) (by omega) ?_; intro v5 w5 own5 app5; obtain ⟨va5, vc5, rfl⟩ := own_form own5)
    have q5 : Only [] w2 w5 := (o3.trans0 o4).app app5 (fun i hi => .inr (own3'.lt i hi).1)
    have s5 := q5.size
    obtain ⟨z, hz⟩ : ∃ z, z = rec1 d s := ⟨_, rfl⟩
    have hzl : z.length = 1 + d.length + tb.length := by rw [hz, ← hrec.out]; simp; omega
    have hB5 : Bs w5 (.slice va5 (1 + d.length + tb.length) vc5) z := by
      have := Cs.of_own (own_cast own5 hzl.symm (show [Value.int .u8 1] ++ bytes d ++ bytes tb = bytes z by rw [hz, ← hrec.out]; simp [bytes])) (by omega)
      rw [← hzl]
      rw [← hzl] at this
      exact this
    rw [← hz] at HM HRS2
    have wr := hid (rwrite_any w5 y x ls _ m' (flatL rs) rs (hK2.kept0 q5) (fun i hi => by have := b5 i (b3 i hi); omega) (fun i hi => by have := (hbs2 i hi).2; omega) _ z hB5 (fun i hi hm => by have := (own5.lt i hi).1; have := b5 i (b3 i hm); omega) (by omega) (by omega) hf hrs)
    have hz1 : 1 ≤ z.length ∧ z.length ≤ 1000 := by omega
    clear hB5 hz hzl own5 own4 own3 own3' hx4 own0 hxd hK2 hD hD2
    refine wr.out.mono ?_
    rintro e w6 ⟨rfl, ⟨ls', hK6, hl6, hl6'⟩, o6⟩
    have s6 := o6.size
    have hpost : RMKeepPost W y B 0 RS (.returned (.int .i64 0)) w6 := by
      rw [HRS2.out]
      refine ⟨rfl, RKB.make hK6 HM.out (flatL_snoc rs z).symm b1 (fun i hi => ⟨?_, hl6' i hi⟩) (fun i hi => ⟨(hbs2 i hi).1, by have := (hbs2 i hi).2; omega⟩) (fun i hi => by have := b5 i hi; omega) ?_, (O2.trans q5 (ds := B) (fun i hi => hi) (by simp)).trans o6 (ds := B) (fun i hi => hi) (fun i hi => .inl (b3 i hi))⟩
      · rcases hl6 i hi with h | h
        · exact .inl (b3 i h)
        · exact .inr (by omega)
      · intro r hr
        rcases List.mem_append.1 hr with hr | hr
        · exact b6 r hr
        · rw [List.mem_singleton.1 hr]; exact hz1
    replace hpost := hid hpost
    clear hK6 hl6 hl6' wr
    go_wp2
    go_ret
    exact hpost.out
  · have hcz : ¬ ((c : Int) = 0) := by omega
    have hpost : RMKeepPost W y B c RS (.returned (.int .i64 (c : Int))) w2 := by
      have hm' : m' = openK rs := by
        have := keepK_ne (m := openK rs) (d := d) (s := s) (by rw [← HR.out]; exact h0)
        rw [← HR.out] at this
        exact this
      have hrs' : RS = rs := by
        rw [HRS.out]
        unfold keepR
        rw [← HR.out, if_neg h0]
      rw [hrs']
      exact ⟨rfl, RKB.make hK2 hm' rfl b1 (fun i hi => ⟨.inl (b3 i hi), by have := b5 i (b3 i hi); omega⟩) hbs2 (fun i hi => by have := b5 i hi; omega) b6, O2⟩
    replace hpost := hid hpost
    clear hK2 kp hD
    go_wp2
    go_ret
    exact hpost.out

def RMForgetPost (W : World) (y : Nat) (B : List Nat) (r : (Nat × Nat) × List (List UInt8)) (e : Ending) (w' : World) : Prop :=
  e = .returned (.tuple #[.int .i64 (r.1.1 : Int), .int .i64 (r.1.2 : Int)]) ∧ RKB w' y r.2 (B ++ newBs W w') ∧ Only B W w'
theorem RKB.more {W W' : World} {y : Nat} {rs : List (List UInt8)} {B : List Nat} (h : RKB W' y rs B) : RKB W' y rs (B ++ newBs W W') := by
  obtain ⟨x, ls, bs, hK, ⟨h1, h3, h4⟩, h5, h6⟩ := h
  refine ⟨x, ls, bs, hK, ⟨List.mem_append_left _ h1, fun i hi => List.mem_append_left _ (h3 i hi), fun i hi => List.mem_append_left _ (h4 i hi)⟩, fun i hi => ?_, h6⟩
  rcases List.mem_append.1 hi with hi | hi
  · exact h5 i hi
  · exact (mem_newBs.1 hi).2

set_option maxRecDepth 20000 in
set_option maxHeartbeats 3200000 in
theorem rmforget_any (W : World) (y : Nat) (rs : List (List UInt8)) (B : List Nat) (h : RKB W y rs B) (u : Value) (ids : List (List UInt8)) (hu : Dgs W u ids) (huB : ∀ i, u.ownBlock = some i → i ∉ B) (hil : ids.length ≤ 1000) (hf : (flatL rs).length ≤ 300000) (hrs : rs.length ≤ 100000) :
    Calls Try.prog 55 #[.pointer (some ⟨y, 0, none⟩), u] W (RMForgetPost W y B (mforgetE rs ids)) := by
  obtain ⟨ua, uc, rfl, u1, u2, u3⟩ := hu.form
  by_cases h24 : 24 < ids.length
  · have hpost := hid (show RMForgetPost W y B (mforgetE rs ids) (.returned (.tuple #[.int .i64 0, .int .i64 1])) W by
      unfold mforgetE
      rw [if_pos h24]
      exact ⟨rfl, h.more, Only.refl _ _⟩)
    clear h
    go_enter Try.func55, Try.ntmps55
    go_wp2
    go_ret2
    exact hpost.out
  · have hn24 : ids.length ≤ 24 := by omega
    obtain ⟨x, ls, bs, hK, ⟨b1, b3, b4⟩, b5, b6⟩ := h
    have fg := hid (rforget_any W y x ls bs (openK rs) (flatL rs) rs hK (fun i hi => b5 i (b3 i hi)) (fun i hi => b5 i (b4 i hi)) (open_inv rs) _ ids hu (fun i hi e => huB i hi (by rw [e]; exact b1)) hil)
    have hres : mforgetE rs ids = (((forgetK (openK rs) ids).1, 0), if (forgetK (openK rs) ids).1 = 0 then rs else rs ++ [rec3 ids]) := by unfold mforgetE; rw [if_neg h24]
    rw [hres]
    clear hres h24
    obtain ⟨r, hr⟩ : ∃ r, r = forgetK (openK rs) ids := ⟨_, rfl⟩
    have HR := hid hr
    rw [← hr] at fg ⊢
    clear hr
    obtain ⟨n, m'⟩ := r
    simp only
    obtain ⟨RS, hRS⟩ : ∃ RS, RS = if n = 0 then rs else rs ++ [rec3 ids] := ⟨_, rfl⟩
    have HRS := hid hRS
    rw [← hRS]
    clear hRS
    have hnl : n ≤ 32 := by
      have h1 : n = (forgetK (openK rs) ids).1 := by rw [← HR.out]
      have h2 := (open_inv rs).few
      rw [h1]
      unfold forgetK
      simp only
      omega
    have HU := hid hu
    go_enter Try.func55, Try.ntmps55
    go_wp2_with fail
    refine fg.out.mono ?_
    rintro e w2 ⟨rfl, hK2, o2⟩
    have O2 : Only B W w2 := o2.mono (fun i hi => .inl (by rw [List.mem_singleton.1 hi]; exact b1))
    have s2 := o2.size
    have hbs2 : ∀ i ∈ bs ++ newBs W w2, (i ∈ B ∨ W.heap.size ≤ i) ∧ i < w2.heap.size := fun i hi => by
      rcases List.mem_append.1 hi with hi | hi
      · exact ⟨.inl (b4 i hi), by have := b5 i (b4 i hi); omega⟩
      · have := mem_newBs.1 hi
        exact ⟨.inr this.1, this.2⟩
    by_cases h0 : n = 0
    · have hm' : m' = openK rs := by
        have := forgetK_zero (m := openK rs) (ids := ids) (by rw [← HR.out]; exact h0)
        rw [← HR.out] at this
        exact this
      have hpost : RMForgetPost W y B ((n, 0), RS) (.returned (.tuple #[.int .i64 (n : Int), .int .i64 0])) w2 := by
        rw [HRS.out, if_pos h0]
        exact ⟨rfl, RKB.make hK2 hm' rfl b1 (fun i hi => ⟨.inl (b3 i hi), by have := b5 i (b3 i hi); omega⟩) hbs2 (fun i hi => by have := b5 i hi; omega) b6, O2⟩
      replace hpost := hid hpost
      clear hm' fg hK2
      subst h0
      go_wp2
      go_ret2
      exact hpost.out
    · have hn0 : 0 < n := by omega
      have HM := hid (show m' = openK (rs ++ [rec3 ids]) by rw [openK_snoc, redo_rec3 _ _ HU.out.2 hn24, ← HR.out])
      have own0 := own_built w2 [.int .u8 3] 5 1 1 rfl (by unfold maxLen; omega)
      have so : Only [] w2 (w2.alloc (Obj.cells #[.int .u8 3] 5)) := (Only.refl [] w2).alloc _
      have hu2 := HU.out.kept o2 (fun i hi hm => huB i hi (by rw [List.mem_singleton.1 hm]; exact b1))
      have nmc := hid (rnames_any _ _ ids (hu2.kept0 so) hil)
      have hnbl := namesB_len ids HU.out.2 (by omega)
      obtain ⟨nb, hnb⟩ : ∃ nb, nb = namesB ids := ⟨_, rfl⟩
      rw [← hnb] at nmc hnbl
      have hrec := hid (show [3] ++ nb = rec3 ids by rw [hnb]; rfl)
      clear hnb fg
      go_wp2_with fail
      refine nmc.out.mono ?_
      rintro e w4 ⟨v4, rfl, own4, o4⟩
      have s4 := o4.size
      have o24 := so.trans0 o4
      obtain ⟨va4, vc4, rfl⟩ := own_form own4
      have own0' := own_only0 own0 o4
      have hx4 : Bs w4 (.slice va4 nb.length vc4) nb := Cs.of_own own4 (by omega)
      have s24 := o24.size
      go_wp2_with (at_builtin; refine wpList_app (by rfl) _ _ 27 (by rfl) w2.heap.size 5 1 1 el_u8 (by rfl) own0' (by rfl) hx4 (bytes_one nb) (by omega) (by omega) (by omega) ?_; intro v5 w5 own5 app5; obtain ⟨va5, vc5, rfl⟩ := own_form own5)
      have q5 : Only [] w2 w5 := o24.app app5 (fun i hi => .inr (own0'.lt i hi).1)
      have s5 := q5.size
      obtain ⟨z, hz⟩ : ∃ z, z = rec3 ids := ⟨_, rfl⟩
      have hzl : z.length = 1 + nb.length := by rw [hz, ← hrec.out]; simp; omega
      have hB5 : Bs w5 (.slice va5 (1 + nb.length) vc5) z := by
        have := Cs.of_own (own_cast own5 hzl.symm (show [Value.int .u8 3] ++ bytes nb = bytes z by rw [hz, ← hrec.out]; simp [bytes])) (by omega)
        rw [← hzl]
        rw [← hzl] at this
        exact this
      rw [← hz] at HM HRS
      have wr := hid (rwrite_any w5 y x ls _ m' (flatL rs) rs (hK2.kept0 q5) (fun i hi => by have := b5 i (b3 i hi); omega) (fun i hi => by have := (hbs2 i hi).2; omega) _ z hB5 (fun i hi hm => by have := (own5.lt i hi).1; have := b5 i (b3 i hm); omega) (by omega) (by omega) hf hrs)
      have hz1 : 1 ≤ z.length ∧ z.length ≤ 1000 := by omega
      clear hB5 hz hzl own5 own4 own0 own0' hx4 hK2 hu2 nmc
      refine wr.out.mono ?_
      rintro e w6 ⟨rfl, ⟨ls', hK6, hl6, hl6'⟩, o6⟩
      have s6 := o6.size
      have hpost : RMForgetPost W y B ((n, 0), RS) (.returned (.tuple #[.int .i64 (n : Int), .int .i64 0])) w6 := by
        rw [HRS.out, if_neg h0]
        refine ⟨rfl, RKB.make hK6 HM.out (flatL_snoc rs z).symm b1 (fun i hi => ⟨?_, hl6' i hi⟩) (fun i hi => ⟨(hbs2 i hi).1, by have := (hbs2 i hi).2; omega⟩) (fun i hi => by have := b5 i hi; omega) ?_, (O2.trans q5 (ds := B) (fun i hi => hi) (by simp)).trans o6 (ds := B) (fun i hi => hi) (fun i hi => .inl (b3 i hi))⟩
        · rcases hl6 i hi with h | h
          · exact .inl (b3 i h)
          · exact .inr (by omega)
        · intro r hr
          rcases List.mem_append.1 hr with hr | hr
          · exact b6 r hr
          · rw [List.mem_singleton.1 hr]; exact hz1
      replace hpost := hid hpost
      clear hK6 hl6 hl6' wr
      go_wp2
      go_ret2
      exact hpost.out
end Go.Proofs.Ytnlmeaijnfjakaa.Sh
/- The document's keyper, whole: an order told, shares told: walked. (Printed by gen_krh.py.) -/
namespace Go.Proofs.Ytnlmeaijnfjakaa.Sh
set_option linter.unusedSimpArgs false
set_option linter.unusedVariables false
open Go Go.RowKit

theorem RKB.sup {W : World} {y : Nat} {rs : List (List UInt8)} {B B' : List Nat} (h : RKB W y rs B) (hs : ∀ i ∈ B, i ∈ B') (hl : ∀ i ∈ B', i < W.heap.size) : RKB W y rs B' := by
  obtain ⟨x, ls, bs, hK, ⟨h1, h3, h4⟩, h5, h6⟩ := h
  exact ⟨x, ls, bs, hK, ⟨hs _ h1, fun i hi => hs i (h3 i hi), fun i hi => hs i (h4 i hi)⟩, hl, h6⟩
def RMCommitPost (W : World) (y : Nat) (B : List Nat) (c : Nat) (L rs : List (List UInt8)) (e : Ending) (w' : World) : Prop :=
  ∃ ov, e = .returned (.tuple #[ov, .int .i64 (c : Int)]) ∧ Bss w' ov L ∧ RKB w' y rs (B ++ newBs W w') ∧ Only B W w'

set_option maxRecDepth 20000 in
set_option maxHeartbeats 6400000 in
theorem rmcommit_any (W : World) (y : Nat) (rs : List (List UInt8)) (B : List Nat) (h : RKB W y rs B) (slot : Nat) (hslot : slot < 18446744073709551616) (u : Value) (ids : List (List UInt8)) (huD : Dgs W u ids) (huB : ∀ i, u.ownBlock = some i → i ∉ B) (hil : ids.length ≤ 1000) (hf : (flatL rs).length ≤ 300000) (hrs : rs.length ≤ 100000) :
    Calls Try.prog 54 #[.pointer (some ⟨y, 0, none⟩), .int .u64 (slot : Int), u] W (RMCommitPost W y B (commitK (openK rs) slot ids).1.2 (mcommitL rs slot ids) (mcommitR rs slot ids)) := by
  obtain ⟨ua, uc, rfl, u1, u2, u3⟩ := huD.form
  obtain ⟨x, ls, bs, hK, ⟨b1, b3, b4⟩, b5, b6⟩ := h
  have hu := Try.underlying35
  have cm := rcommit_any W y x ls bs (openK rs) (flatL rs) rs hK (fun i hi => b5 i (b3 i hi)) (open_inv rs) slot hslot _ ids huD (fun i hi e => huB i hi (by rw [e]; exact b1)) hil
  have HOP := hid (openK_commitR rs slot ids hslot huD.2)
  obtain ⟨RS, hRS⟩ : ∃ RS, RS = mcommitR rs slot ids := ⟨_, rfl⟩
  obtain ⟨ML, hML⟩ : ∃ ML, ML = mcommitL rs slot ids := ⟨_, rfl⟩
  rw [← hRS] at HOP
  rw [← hRS, ← hML]
  obtain ⟨SH, hSH⟩ : ∃ SH, SH = (openK rs).sh := ⟨_, rfl⟩
  have HSH := hid hSH
  have hshl : SH.length ≤ 32 := by rw [hSH]; exact (open_inv rs).few
  have HRSe := hid hRS
  have HMLe := hid hML
  have HC1 := hid (show (commitK (openK rs) slot ids).1.1 = false → (commitK (openK rs) slot ids).2 = openK rs from fun h => commitK_ne h)
  have HC2 := hid (show (commitK (openK rs) slot ids).1.2 ≠ 0 → (commitK (openK rs) slot ids).2 = openK rs ∧ (commitK (openK rs) slot ids).1.1 = false from fun h => ⟨commitK_bad h, by
    cases hb : (commitK (openK rs) slot ids).1.1 with
    | false => rfl
    | true =>
      exfalso
      apply h
      unfold commitK at hb ⊢
      split
      · rename_i g; rw [if_pos g] at hb; cases hb
      · rename_i g
        rw [if_neg g] at hb
        split
        · rename_i g2; rw [if_pos g2] at hb; cases hb
        · rename_i g2
          rw [if_neg g2] at hb
          split
          · rename_i g3; rw [if_pos g3] at hb; split at hb <;> cases hb
          · rfl⟩)
  obtain ⟨r, hr⟩ : ∃ r, r = commitK (openK rs) slot ids := ⟨_, rfl⟩
  have HR := hid hr
  rw [← hr] at cm HC1 HC2 HOP ⊢
  clear hr hRS hML hSH
  obtain ⟨⟨fr, c⟩, m'⟩ := r
  simp only at HC1 HC2 HOP ⊢
  replace cm := hid cm
  have HU := hid huD
  have HR2 := hid (show (commitK (openK rs) slot ids).1.1 = fr ∧ (commitK (openK rs) slot ids).1.2 = c by rw [← HR.out]; exact ⟨rfl, rfl⟩)
  clear huD hK
  go_enter Try.func54, Try.ntmps54
  go_wp2_with fail
  refine cm.out.mono ?_
  rintro e w2 ⟨rfl, hK2, o2⟩
  simp only at hK2
  have O2 : Only B W w2 := o2.mono (fun i hi => .inl (by rw [List.mem_singleton.1 hi]; exact b1))
  have s2 := o2.size
  have hbs2 : ∀ i ∈ bs ++ newBs W w2, (i ∈ B ∨ W.heap.size ≤ i) ∧ i < w2.heap.size := fun i hi => by
    rcases List.mem_append.1 hi with hi | hi
    · exact ⟨.inl (b4 i hi), by have := b5 i (b4 i hi); omega⟩
    · have := mem_newBs.1 hi
      exact ⟨.inr this.1, this.2⟩
  have uD2 := HU.out.kept O2 (fun i hi hm => huB i hi hm)
  by_cases h0 : c = 0
  · subst h0
    have HML := hid (show ML = outL SH ids by rw [HMLe.out, HSH.out]; unfold mcommitL; rw [if_pos HR2.out.2])
    cases fr
    · have hm' := HC1.out rfl
      have hRSr : RS = rs := by
        rw [HRSe.out]
        unfold mcommitR
        rw [HR2.out.1]
        rfl
      have hRB : RKB w2 y RS (B ++ newBs W w2) := by
        rw [hRSr]
        exact RKB.make hK2 hm' rfl b1 (fun i hi => ⟨.inl (b3 i hi), by have := b5 i (b3 i hi); omega⟩) hbs2 (fun i hi => by have := b5 i hi; omega) b6
      obtain ⟨w5, hw5⟩ : ∃ w5, w5 = w2 := ⟨_, rfl⟩
      rw [← hw5] at hRB O2 uD2 ⊢
      have O5 := O2
      have uD5 := hid uD2
      have hrw : openK RS = (commitK (openK rs) slot ids).2 := by
        rw [← HR.out]
        exact HOP.out
      replace HOP := hid hrw
      clear hw5 hK2 hm' hRSr cm O2 uD2 hrw
      go_wp2_with fail
      have RB5 := hid hRB
      obtain ⟨x5, ls5, bs5, K5, _, _, _⟩ := hRB
      have hsh5 : (openK RS).sh = SH := by rw [HOP.out, commitK_sh, HSH.out]
      obtain ⟨lv, ⟨l0, _⟩, l2⟩ := K5.c0
      rw [hsh5] at l2
      obtain ⟨la, lc, rfl, f1, f2, f3⟩ := l2.form
      have KK5 := hid K5
      have LL2 := hid l2
      clear K5 l2
      go_loopw [10, 35] (fun ov i wr => ∃ (k : Nat) (vs : List Value), k ≤ ids.length ∧ i = .int .i64 k ∧ wr.ownsRow w5.heap.size 27 1 ov k vs ∧ All2 (Bs w5) vs (outL SH (ids.take k)) ∧ Only [] w5 wr) (fun _ i _ => ids.length - (intOf i).toNat)
      case atStart => exact ⟨0, [], Nat.zero_le _, rfl, World.ownsRow_nil _ _ _ _, .nil, Only.refl _ _⟩
      case round =>
        obtain ⟨k, vs, hk, rfl, hown, hall, ho⟩ := hrel
        obtain ⟨oa, oc, rfl⟩ := own_form hown
        have sr := ho.size
        by_cases hlt : k < ids.length
        · obtain ⟨b, o, rfl, hr⟩ := (uD5.out.kept0 ho).at k hlt
          have hl32 := uD5.out.2 ids[k] (List.getElem_mem hlt)
          obtain ⟨d, hd⟩ : ∃ d, d = ids[k] := ⟨_, rfl⟩
          rw [← hd] at hr hl32
          have hin : (Try.prog.info? 35).map (·.size) = some (bytes d).length := by rw [dig_info]; simp [bytes, hl32]
          have hnext := hid (show outL SH (ids.take (k + 1)) = outL SH (ids.take k) ++ [(getS SH d).getD []] by
            unfold outL
            rw [List.take_succ_eq_append_getElem hlt, List.map_append, hd]
            rfl)
          have fd := find_any wr y x5 ls5 bs5 _ _ RS (KK5.out.kept0 ho) d hl32
          rw [hsh5] at fd
          rw [show vD d = .agg (bytes d).toArray from rfl] at fd
          have HALL := hid hall
          cases hg : getS SH d with
          | none =>
            rw [findI_no _ _ hg] at fd
            replace fd := hid fd
            rw [hg] at hnext
            clear hg hd hl32 hall
            go_wp2_with (refine wpList_load_mid (by rfl) 35 _ (by rfl) b (o + k * 32) (by rfl) _ _ hr hu rfl hin ?_)
            refine fd.out.mono ?_
            rintro e w6 ⟨rfl, o6⟩
            have s6 := o6.size
            have hown6 := own_only0 hown o6
            go_wp2_with (at_builtin; refine wpList_app1 (by rfl) _ _ 39 (by rfl) w5.heap.size 27 1 24 el_bss (by rfl) hown6 [_] (by rfl) rfl (one1 rfl) (by omega) (by omega) (by omega) ?_; intro v7 w7 own7 app7; obtain ⟨va7, vc7, rfl⟩ := own_form own7)
            have o7 : Only [] w5 w7 := (ho.trans0 o6).app app7 (fun i hi => .inr (hown6.lt i hi).1)
            have hall7 : All2 (Bs w5) (vs ++ [.slice none 0 0]) (outL SH (ids.take (k + 1))) := by
              rw [hnext.out]
              exact HALL.out.snoc (Bs.empty (by unfold maxLen; omega))
            go_wp2
            go_roundw
            case rel => exact ⟨k + 1, _, by omega, by go_num, own7, hall7, o7⟩
            case measure => simp [intOf]; omega
          | some t =>
            obtain ⟨q, hq, hf1, hf2⟩ := findI_some _ _ _ hg
            rw [hf1] at fd
            replace fd := hid fd
            rw [hg] at hnext
            obtain ⟨b2, o2', u2, rfl, _, _, hc2, hu2, _⟩ := LL2.out.at q hq
            rw [hf2] at hu2
            have HU2 := hid hu2
            obtain ⟨ta, tc, rfl⟩ := bs_form hu2
            obtain ⟨N, hN⟩ : ∃ N, N = SH.length := ⟨_, rfl⟩
            rw [← hN] at l0 hq
            obtain ⟨tl, htl⟩ : ∃ tl, tl = t.length := ⟨_, rfl⟩
            rw [← htl] at hc2 HU2
            clear hg hd hl32 hall hf1 hf2 hu2 hN htl
            go_wp2_with (refine wpList_load_mid (by rfl) 35 _ (by rfl) b (o + k * 32) (by rfl) _ _ hr hu rfl hin ?_)
            refine fd.out.mono ?_
            rintro e w6 ⟨rfl, o6⟩
            have s6 := o6.size
            have hown6 := own_only0 hown o6
            have o56 := ho.trans0 o6
            have l6 := o56.cell l0 (by simp)
            have c6 := o56.cell hc2 (by simp)
            go_wp2_with (at_builtin; refine wpList_app1 (by rfl) _ _ 39 (by rfl) w5.heap.size 27 1 24 el_bss (by rfl) hown6 [_] (by rfl) rfl (one1 rfl) (by omega) (by omega) (by omega) ?_; intro v7 w7 own7 app7; obtain ⟨va7, vc7, rfl⟩ := own_form own7)
            have o7 : Only [] w5 w7 := o56.app app7 (fun i hi => .inr (hown6.lt i hi).1)
            have hall7 : All2 (Bs w5) (vs ++ [.slice ta tl tc]) (outL SH (ids.take (k + 1))) := by
              rw [hnext.out]
              exact HALL.out.snoc HU2.out
            go_wp2
            go_roundw
            case rel => exact ⟨k + 1, _, by omega, by go_num, own7, hall7, o7⟩
            case measure => simp [intOf]; omega
        · obtain rfl : k = ids.length := by omega
          have hpost : RMCommitPost W y B 0 ML RS (.returned (.tuple #[.slice oa ids.length oc, .int .i64 0])) wr := by
            refine ⟨_, rfl, ?_, (RB5.out.kept0 ho).sup (fun i hi => ?_) (fun i hi => ?_), O5.trans ho (fun i hi => hi) (by simp)⟩
            · rw [List.take_length] at hall
              rw [HML.out]
              refine ⟨vs, ?_, hall.imp fun _ _ k => k.kept0 ho⟩
              have := Cs.of_own hown (by omega)
              have hol : (outL SH ids).length = ids.length := by simp [outL]
              rw [hol]
              exact this
            · rcases List.mem_append.1 hi with hi | hi
              · exact List.mem_append_left _ hi
              · have := mem_newBs.1 hi
                exact List.mem_append_right _ (mem_newBs.2 ⟨this.1, by omega⟩)
            · rcases List.mem_append.1 hi with hi | hi
              · have := b5 i hi; have := O5.size; omega
              · exact (mem_newBs.1 hi).2
          replace hpost := hid hpost
          clear hown hall RB5 KK5 LL2
          go_wp2
          go_ret2
          exact hpost.out
    · have hl8 := commitK_ids (m := openK rs) (slot := slot) (ids := ids) (by rw [HR2.out.1])
      have HM := hid (show m' = openK (rs ++ [rec2 slot ids]) by rw [openK_snoc, redo_rec2 _ _ _ hslot HU.out.2 hl8, ← HR.out])
      have HRS2 := hid (show RS = rs ++ [rec2 slot ids] by rw [HRSe.out]; unfold mcommitR; rw [HR2.out.1]; rfl)
      have own0 := own_built w2 [.int .u8 2] 5 1 1 rfl (by unfold maxLen; omega)
      have so : Only [] w2 (w2.alloc (Obj.cells #[.int .u8 2] 5)) := (Only.refl [] w2).alloc _
      have nuc := hid (refNumB_any slot (w2.alloc (Obj.cells #[.int .u8 2] 5)) hslot)
      have hnul := numB_few slot hslot
      have hnbl := namesB_len ids HU.out.2 (by omega)
      obtain ⟨nu, hnu⟩ : ∃ nu, nu = numB slot := ⟨_, rfl⟩
      obtain ⟨nb, hnb⟩ : ∃ nb, nb = namesB ids := ⟨_, rfl⟩
      rw [← hnu] at nuc hnul
      rw [← hnb] at hnbl
      have nmc := fun W' (hW : Only [] w2 W') => rnames_any W' _ ids (uD2.kept0 hW) hil
      simp only [← hnb] at nmc
      replace nmc := hid nmc
      have hrec := hid (show ([2] ++ nu) ++ nb = rec2 slot ids by rw [hnb, hnu]; simp [rec2])
      replace uD2 := hid uD2
      clear hnu hnb cm
      go_wp2_with fail
      refine nuc.out.mono ?_
      rintro e wn ⟨vn, rfl, ownn, on⟩
      have sn := on.size
      have o2n := so.trans0 on
      have s2n := o2n.size
      obtain ⟨van, vcn, rfl⟩ := own_form ownn
      have own0' := own_only0 own0 on
      have hxn : Bs wn (.slice van nu.length vcn) nu := Cs.of_own ownn (by omega)
      go_wp2_with (at_builtin; refine wpList_app (by rfl) _ _ 27 (by rfl) w2.heap.size 5 1 1 el_u8 (by rfl) own0' (by rfl) hxn (bytes_one nu) (by omega) (by omega) (by omega) ?_; intro v3 w3 own3 app3; obtain ⟨va3, vc3, rfl⟩ := own_form own3; have o3 : Only [] w2 w3 := o2n.app app3 (fun i hi => .inr (own0'.lt i hi).1))
      have s3 := o3.size
      refine (nmc.out _ o3).mono ?_
      rintro e w4 ⟨v4, rfl, own4, o4⟩
      have s4 := o4.size
      obtain ⟨va4, vc4, rfl⟩ := own_form own4
      have own3' := own_only0 own3 o4
      have hx4 : Bs w4 (.slice va4 nb.length vc4) nb := Cs.of_own own4 (by omega)
      go_wp2_with (at_builtin; refine wpList_app (by rfl) _ _ 27 (by rfl) w2.heap.size 5 1 1 el_u8 (by rfl) own3' (by rfl) hx4 (bytes_one nb) (by omega) (by omega) (by omega) ?_; intro v5 wz own5 app5; obtain ⟨va5, vc5, rfl⟩ := own_form own5)
      have q5 : Only [] w2 wz := (o3.trans0 o4).app app5 (fun i hi => .inr (own3'.lt i hi).1)
      have s5 := q5.size
      obtain ⟨z, hz⟩ : ∃ z, z = rec2 slot ids := ⟨_, rfl⟩
      have hzl : z.length = 1 + nu.length + nb.length := by rw [hz, ← hrec.out]; simp; omega
      have hB5 : Bs wz (.slice va5 (1 + nu.length + nb.length) vc5) z := by
        have := Cs.of_own (own_cast own5 hzl.symm (show [Value.int .u8 2] ++ bytes nu ++ bytes nb = bytes z by rw [hz, ← hrec.out]; simp [bytes])) (by omega)
        rw [← hzl]
        rw [← hzl] at this
        exact this
      rw [← hz] at HM HRS2
      have wrc := hid (rwrite_any wz y x ls _ m' (flatL rs) rs (hK2.kept0 q5) (fun i hi => by have := b5 i (b3 i hi); omega) (fun i hi => by have := (hbs2 i hi).2; omega) _ z hB5 (fun i hi hm => by have := (own5.lt i hi).1; have := b5 i (b3 i hm); omega) (by omega) (by omega) hf hrs)
      have hz1 : 1 ≤ z.length ∧ z.length ≤ 1000 := by omega
      clear hB5 hz hzl own5 own4 own3 own3' hx4 hxn ownn own0 own0' hK2 nmc nuc
      refine wrc.out.mono ?_
      rintro e w5 ⟨rfl, ⟨ls', hK6, hl6, hl6'⟩, o6⟩
      have s6 := o6.size
      have hlsB : ∀ i ∈ ls, i ∈ B := b3
      have O5 : Only B W w5 := (O2.trans q5 (ds := B) (fun i hi => hi) (by simp)).trans o6 (ds := B) (fun i hi => hi) (fun i hi => .inl (b3 i hi))
      have uD5 := hid (HU.out.kept O5 (fun i hi hm => huB i hi hm))
      have hRB : RKB w5 y RS (B ++ newBs W w5) := by
        rw [HRS2.out]
        refine RKB.make hK6 HM.out (flatL_snoc rs z).symm b1 (fun i hi => ⟨?_, hl6' i hi⟩) (fun i hi => ⟨(hbs2 i hi).1, by have := (hbs2 i hi).2; omega⟩) (fun i hi => by have := b5 i hi; omega) ?_
        · rcases hl6 i hi with h | h
          · exact .inl (b3 i h)
          · exact .inr (by omega)
        · intro r hr
          rcases List.mem_append.1 hr with hr | hr
          · exact b6 r hr
          · rw [List.mem_singleton.1 hr]; exact hz1
      have hrw : openK RS = (commitK (openK rs) slot ids).2 := by
        rw [← HR.out]
        exact HOP.out
      replace HOP := hid hrw
      clear hK6 hl6 hl6' wrc hrw O2 uD2
      go_wp2_with fail
      have RB5 := hid hRB
      obtain ⟨x5, ls5, bs5, K5, _, _, _⟩ := hRB
      have hsh5 : (openK RS).sh = SH := by rw [HOP.out, commitK_sh, HSH.out]
      obtain ⟨lv, ⟨l0, _⟩, l2⟩ := K5.c0
      rw [hsh5] at l2
      obtain ⟨la, lc, rfl, f1, f2, f3⟩ := l2.form
      have KK5 := hid K5
      have LL2 := hid l2
      clear K5 l2
      go_loopw [10, 35] (fun ov i wr => ∃ (k : Nat) (vs : List Value), k ≤ ids.length ∧ i = .int .i64 k ∧ wr.ownsRow w5.heap.size 27 1 ov k vs ∧ All2 (Bs w5) vs (outL SH (ids.take k)) ∧ Only [] w5 wr) (fun _ i _ => ids.length - (intOf i).toNat)
      case atStart => exact ⟨0, [], Nat.zero_le _, rfl, World.ownsRow_nil _ _ _ _, .nil, Only.refl _ _⟩
      case round =>
        obtain ⟨k, vs, hk, rfl, hown, hall, ho⟩ := hrel
        obtain ⟨oa, oc, rfl⟩ := own_form hown
        have sr := ho.size
        by_cases hlt : k < ids.length
        · obtain ⟨b, o, rfl, hr⟩ := (uD5.out.kept0 ho).at k hlt
          have hl32 := uD5.out.2 ids[k] (List.getElem_mem hlt)
          obtain ⟨d, hd⟩ : ∃ d, d = ids[k] := ⟨_, rfl⟩
          rw [← hd] at hr hl32
          have hin : (Try.prog.info? 35).map (·.size) = some (bytes d).length := by rw [dig_info]; simp [bytes, hl32]
          have hnext := hid (show outL SH (ids.take (k + 1)) = outL SH (ids.take k) ++ [(getS SH d).getD []] by
            unfold outL
            rw [List.take_succ_eq_append_getElem hlt, List.map_append, hd]
            rfl)
          have fd := find_any wr y x5 ls5 bs5 _ _ RS (KK5.out.kept0 ho) d hl32
          rw [hsh5] at fd
          rw [show vD d = .agg (bytes d).toArray from rfl] at fd
          have HALL := hid hall
          cases hg : getS SH d with
          | none =>
            rw [findI_no _ _ hg] at fd
            replace fd := hid fd
            rw [hg] at hnext
            clear hg hd hl32 hall
            go_wp2_with (refine wpList_load_mid (by rfl) 35 _ (by rfl) b (o + k * 32) (by rfl) _ _ hr hu rfl hin ?_)
            refine fd.out.mono ?_
            rintro e w6 ⟨rfl, o6⟩
            have s6 := o6.size
            have hown6 := own_only0 hown o6
            go_wp2_with (at_builtin; refine wpList_app1 (by rfl) _ _ 39 (by rfl) w5.heap.size 27 1 24 el_bss (by rfl) hown6 [_] (by rfl) rfl (one1 rfl) (by omega) (by omega) (by omega) ?_; intro v7 w7 own7 app7; obtain ⟨va7, vc7, rfl⟩ := own_form own7)
            have o7 : Only [] w5 w7 := (ho.trans0 o6).app app7 (fun i hi => .inr (hown6.lt i hi).1)
            have hall7 : All2 (Bs w5) (vs ++ [.slice none 0 0]) (outL SH (ids.take (k + 1))) := by
              rw [hnext.out]
              exact HALL.out.snoc (Bs.empty (by unfold maxLen; omega))
            go_wp2
            go_roundw
            case rel => exact ⟨k + 1, _, by omega, by go_num, own7, hall7, o7⟩
            case measure => simp [intOf]; omega
          | some t =>
            obtain ⟨q, hq, hf1, hf2⟩ := findI_some _ _ _ hg
            rw [hf1] at fd
            replace fd := hid fd
            rw [hg] at hnext
            obtain ⟨b2, o2', u2, rfl, _, _, hc2, hu2, _⟩ := LL2.out.at q hq
            rw [hf2] at hu2
            have HU2 := hid hu2
            obtain ⟨ta, tc, rfl⟩ := bs_form hu2
            obtain ⟨N, hN⟩ : ∃ N, N = SH.length := ⟨_, rfl⟩
            rw [← hN] at l0 hq
            obtain ⟨tl, htl⟩ : ∃ tl, tl = t.length := ⟨_, rfl⟩
            rw [← htl] at hc2 HU2
            clear hg hd hl32 hall hf1 hf2 hu2 hN htl
            go_wp2_with (refine wpList_load_mid (by rfl) 35 _ (by rfl) b (o + k * 32) (by rfl) _ _ hr hu rfl hin ?_)
            refine fd.out.mono ?_
            rintro e w6 ⟨rfl, o6⟩
            have s6 := o6.size
            have hown6 := own_only0 hown o6
            have o56 := ho.trans0 o6
            have l6 := o56.cell l0 (by simp)
            have c6 := o56.cell hc2 (by simp)
            go_wp2_with (at_builtin; refine wpList_app1 (by rfl) _ _ 39 (by rfl) w5.heap.size 27 1 24 el_bss (by rfl) hown6 [_] (by rfl) rfl (one1 rfl) (by omega) (by omega) (by omega) ?_; intro v7 w7 own7 app7; obtain ⟨va7, vc7, rfl⟩ := own_form own7)
            have o7 : Only [] w5 w7 := o56.app app7 (fun i hi => .inr (hown6.lt i hi).1)
            have hall7 : All2 (Bs w5) (vs ++ [.slice ta tl tc]) (outL SH (ids.take (k + 1))) := by
              rw [hnext.out]
              exact HALL.out.snoc HU2.out
            go_wp2
            go_roundw
            case rel => exact ⟨k + 1, _, by omega, by go_num, own7, hall7, o7⟩
            case measure => simp [intOf]; omega
        · obtain rfl : k = ids.length := by omega
          have hpost : RMCommitPost W y B 0 ML RS (.returned (.tuple #[.slice oa ids.length oc, .int .i64 0])) wr := by
            refine ⟨_, rfl, ?_, (RB5.out.kept0 ho).sup (fun i hi => ?_) (fun i hi => ?_), O5.trans ho (fun i hi => hi) (by simp)⟩
            · rw [List.take_length] at hall
              rw [HML.out]
              refine ⟨vs, ?_, hall.imp fun _ _ k => k.kept0 ho⟩
              have := Cs.of_own hown (by omega)
              have hol : (outL SH ids).length = ids.length := by simp [outL]
              rw [hol]
              exact this
            · rcases List.mem_append.1 hi with hi | hi
              · exact List.mem_append_left _ hi
              · have := mem_newBs.1 hi
                exact List.mem_append_right _ (mem_newBs.2 ⟨this.1, by omega⟩)
            · rcases List.mem_append.1 hi with hi | hi
              · have := b5 i hi; have := O5.size; omega
              · exact (mem_newBs.1 hi).2
          replace hpost := hid hpost
          clear hown hall RB5 KK5 LL2
          go_wp2
          go_ret2
          exact hpost.out
  · have hcz : ¬ ((c : Int) = 0) := by omega
    have hpost : RMCommitPost W y B c ML RS (.returned (.tuple #[.slice none 0 0, .int .i64 (c : Int)])) w2 := by
      obtain ⟨hm', hfr⟩ := HC2.out h0
      have hRSr : RS = rs := by
        rw [HRSe.out]
        unfold mcommitR
        rw [HR2.out.1, hfr]
        rfl
      have hMLr : ML = [] := by
        rw [HMLe.out]
        unfold mcommitL
        rw [HR2.out.2, if_neg h0]
      rw [hRSr, hMLr]
      exact ⟨_, rfl, ⟨[], ⟨by simp, none, 0, rfl, by simp, by simp [maxLen], by simp, .inl rfl⟩, .nil⟩, RKB.make hK2 hm' rfl b1 (fun i hi => ⟨.inl (b3 i hi), by have := b5 i (b3 i hi); omega⟩) hbs2 (fun i hi => by have := b5 i hi; omega) b6, O2⟩
    replace hpost := hid hpost
    clear hK2 cm uD2
    go_wp2
    go_ret2
    exact hpost.out
end Go.Proofs.Ytnlmeaijnfjakaa.Sh
/- The document's reader in whatever state: a number, bytes, a text, a name, names, the end: walked. -/
namespace Go.Proofs.Ytnlmeaijnfjakaa.Sh
set_option linter.unusedSimpArgs false
set_option linter.unusedVariables false
open Go Go.RowKit

/-- The document's reader: its error, and, without one, what is left. -/
def RfS (w : World) (wb fb : Nat) (l : List UInt8) (c : Nat) (r : List UInt8) : Prop := ∃ p, Rf w wb fb l p c ∧ (c = 0 → l.drop p = r)
theorem RfS.kept0 {w w' : World} {wb fb : Nat} {l : List UInt8} {c : Nat} {r : List UInt8} (h : RfS w wb fb l c r) (ho : Only [] w w') : RfS w' wb fb l c r := by
  obtain ⟨p, h1, h2⟩ := h
  exact ⟨p, h1.kept0 ho, h2⟩
theorem RfS.lt {w : World} {wb fb : Nat} {l : List UInt8} {c : Nat} {r : List UInt8} (h : RfS w wb fb l c r) : wb < w.heap.size := by
  obtain ⟨p, h1, _⟩ := h
  exact h1.lt
theorem RfS.ok {w : World} {wb fb : Nat} {l : List UInt8} {r : List UInt8} {c : Nat} (h : RfS w wb fb l c r) (hc : c = 0) : ∃ p, Rf w wb fb l p 0 ∧ l.drop p = r := by
  subst hc
  obtain ⟨p, h1, h2⟩ := h
  exact ⟨p, h1, h2 rfl⟩

section
variable (wb fb : Nat) (l : List UInt8) (c : Nat) (r : List UInt8) (w : World)
/-- What a reading comes to: the error stays; without one it is that of the reading. -/
def ReadsTo (wb fb : Nat) (l : List UInt8) (c x : Nat) (w w' : World) (P : List UInt8 → Prop) : Prop :=
  Only [wb] w w' ∧ ∃ c' r', RfS w' wb fb l c' r' ∧ (c' = 0 ↔ c = 0 ∧ x = 0) ∧ (c' = 0 → P r')

set_option maxHeartbeats 1600000 in
theorem rnumS_any (h : RfS w wb fb l c r) (most : Nat) (hm : most < 18446744073709551616) (hl : l.length ≤ 1000000) :
    Calls Try.prog 48 #[.pointer (some ⟨wb, 0, none⟩), .int .u64 most] w fun e w' => ∃ z : Nat, e = .returned (.int .u64 (z : Int)) ∧ z < 18446744073709551616 ∧ ((c = 0 ∧ (numL most r).1 = 0) → z = (numL most r).2.1) ∧ (¬ (c = 0 ∧ (numL most r).1 = 0) → z = 0) ∧ ReadsTo wb fb l c (numL most r).1 w w' (fun r' => r' = (numL most r).2.2) := by
  by_cases hc : c = 0
  · obtain ⟨p, h1, rfl⟩ := h.ok hc
    refine (refNum_any wb fb most l p w h1 hm hl).mono ?_
    rintro e w' ⟨o, rfl, q, h2, h3⟩
    have hle : (numL most (l.drop p)).2.1 < 18446744073709551616 := by
      by_cases h0 : (numL most (l.drop p)).1 = 0
      · have := numL_most _ _ h0; omega
      · rw [numL_err most _ h0]; omega
    exact ⟨_, rfl, hle, fun _ => rfl, fun hn => numL_err most _ (fun h0 => hn ⟨hc, h0⟩), o, _, _, ⟨q, h2, h3⟩, ⟨fun e => ⟨hc, e⟩, fun e => e.2⟩, fun _ => rfl⟩
  · obtain ⟨p, h1, _⟩ := h
    have hc2 := h1.fE
    have hne : ((c : Int) == 0) = false := by rw [beq_eq_false_iff_ne]; omega
    have hfin : ReadsTo wb fb l c (numL most r).1 w w (fun r' => r' = (numL most r).2.2) := ⟨Only.refl _ _, c, r, ⟨p, h1, fun e => absurd e hc⟩, ⟨fun e => absurd e hc, fun e => absurd e.1 hc⟩, fun e => absurd e hc⟩
    replace hfin := hid hfin
    have hcn := hid hc
    clear hc
    go_enter Try.func48, Try.ntmps48
    go_wp2_with fail
    go_loopw [5, 6, 7] (fun n sc i wr => wr = w) (fun _ _ _ _ => 0)
    case atStart => exact rfl
    case round =>
      obtain rfl : w = wr := hrel.symm
      go_wp2
      go_ret
      exact ⟨0, rfl, by omega, fun e _ => absurd e hcn.out, fun _ => rfl, hfin.out⟩

theorem rbytesS_any (h : RfS w wb fb l c r) (n : Nat) (hn : n ≤ 1000) (hl : l.length ≤ 1000000) :
    Calls Try.prog 78 #[.pointer (some ⟨wb, 0, none⟩), .int .i64 n] w fun e w' => ∃ v s, e = .returned v ∧ Bs w' v s ∧ (∀ i, v.ownBlock = some i → w.heap.size ≤ i) ∧ s.length ≤ n ∧ ((c = 0 ∧ ¬ r.length < n) → s = r.take n) ∧ ReadsTo wb fb l c (if r.length < n then 2 else 0) w w' (fun r' => r' = r.drop n) := by
  by_cases hc : c = 0
  · obtain ⟨p, h1, rfl⟩ := h.ok hc
    have hle := h1.le
    by_cases hs : l.length - p < n
    · refine (refBytes_short wb fb n l p w h1 hs hl (by omega)).mono ?_
      rintro e w' ⟨rfl, h2, o⟩
      have hs2 : (l.drop p).length < n := by simp; omega
      rw [if_pos hs2]
      exact ⟨_, [], rfl, Bs.empty (by unfold maxLen; omega), by simp [Value.ownBlock], by simp, fun e => absurd hs2 e.2, o, 2, [], ⟨p, h2, fun e => absurd e (by decide)⟩, ⟨fun e => absurd e (by decide), fun e => absurd e.2 (by decide)⟩, fun e => absurd e (by decide)⟩
    · refine (refBytes_ok wb fb n l p w h1 (by omega) hl).mono ?_
      rintro e w' ⟨v, rfl, hF, h2, o⟩
      have hs2 : ¬ (l.drop p).length < n := by simp; omega
      rw [if_neg hs2]
      have hlt : ((l.drop p).take n).length ≤ n := by simp; omega
      exact ⟨_, _, rfl, hF.bs (by omega), fun i hi => (hF.lt i hi).1, hlt, fun _ => rfl, o, 0, (l.drop p).drop n, ⟨p + n, h2, fun _ => by rw [List.drop_drop]⟩, ⟨fun _ => ⟨hc, rfl⟩, fun _ => rfl⟩, fun _ => rfl⟩
  · obtain ⟨p, h1, _⟩ := h
    refine (refBytes_err wb fb n l p c w h1 hc).mono ?_
    rintro e w' ⟨rfl, h9⟩
    subst h9
    exact ⟨_, [], rfl, Bs.empty (by unfold maxLen; omega), by simp [Value.ownBlock], by simp, fun e => absurd e.1 hc, Only.refl _ _, c, r, ⟨p, h1, fun e => absurd e hc⟩, ⟨fun e => absurd e hc, fun e => absurd e.1 hc⟩, fun e => absurd e hc⟩

set_option maxHeartbeats 800000 in
theorem rtextS_any (h : RfS w wb fb l c r) (hl : l.length ≤ 1000000) :
    Calls Try.prog 45 #[.pointer (some ⟨wb, 0, none⟩), .int .i64 32] w fun e w' => ∃ v s, e = .returned v ∧ Bs w' v s ∧ (∀ i, v.ownBlock = some i → w.heap.size ≤ i) ∧ s.length ≤ 32 ∧ ((c = 0 ∧ (textL 32 r).1 = 0) → s = (textL 32 r).2.1) ∧ ReadsTo wb fb l c (textL 32 r).1 w w' (fun r' => r' = (textL 32 r).2.2) := by
  have hnum := hid (rnumS_any wb fb l c r w h 32 (by omega) hl)
  clear h
  go_enter Try.func45, Try.ntmps45
  go_wp2_with fail
  refine hnum.out.mono ?_
  rintro e w1 ⟨z, rfl, hz, h1, h2, o1, c1, r1, hS1, hc1, hr1⟩
  have hz32 : z ≤ 32 := by
    by_cases g : c = 0 ∧ (numL 32 r).1 = 0
    · rw [h1 g]; exact numL_most _ _ g.2
    · rw [h2 g]; omega
  have s1 := o1.size
  have hby := hid (rbytesS_any wb fb l c1 r1 w1 hS1 z (by omega) hl)
  have F : Hid (((c = 0 ∧ (numL 32 r).1 = 0) → z = (numL 32 r).2.1) ∧ (c1 = 0 ↔ c = 0 ∧ (numL 32 r).1 = 0) ∧ (c1 = 0 → r1 = (numL 32 r).2.2)) := ⟨h1, hc1, hr1⟩
  clear h1 h2 hc1 hr1 hS1
  go_wp2_with fail
  refine hby.out.mono ?_
  rintro e w2 ⟨v, s, rfl, hB, hblk, hsl, hs, o2, c2, r2, hS2, hc2, hr2⟩
  have hfin : Hid (∃ v' s', Ending.returned v = .returned v' ∧ Bs w2 v' s' ∧ (∀ i, v'.ownBlock = some i → w.heap.size ≤ i) ∧ s'.length ≤ 32 ∧ ((c = 0 ∧ (textL 32 r).1 = 0) → s' = (textL 32 r).2.1) ∧ ReadsTo wb fb l c (textL 32 r).1 w w2 (fun r' => r' = (textL 32 r).2.2)) := by
    obtain ⟨f1, f2, f3⟩ := F.out
    have hcode : (c = 0 ∧ (textL 32 r).1 = 0) ↔ (c1 = 0 ∧ ¬ r1.length < z) := by
      constructor
      · rintro ⟨g1, g2⟩
        unfold textL at g2
        split at g2
        · rename_i g3; exact absurd g2 g3
        · rename_i g3
          have g4 : c = 0 ∧ (numL 32 r).1 = 0 := ⟨g1, by simpa using g3⟩
          have g5 := f2.2 g4
          refine ⟨g5, ?_⟩
          rw [f3 g5, f1 g4]
          split at g2
          · cases g2
          · assumption
      · rintro ⟨g1, g2⟩
        have g4 := f2.1 g1
        refine ⟨g4.1, ?_⟩
        rw [f3 g1, f1 g4] at g2
        unfold textL
        rw [if_neg (by simp [g4.2]), if_neg g2]
    have hval : (c = 0 ∧ (textL 32 r).1 = 0) → s = (textL 32 r).2.1 ∧ r1.drop z = (textL 32 r).2.2 := fun g => by
      obtain ⟨g1, g2⟩ := hcode.1 g
      have g4 := f2.1 g1
      rw [hs ⟨g1, g2⟩]
      rw [f3 g1, f1 g4] at g2
      unfold textL
      rw [if_neg (by simp [g4.2]), if_neg g2, f3 g1, f1 g4]
      exact ⟨rfl, rfl⟩
    refine ⟨v, s, rfl, hB, fun i hi => by have := hblk i hi; omega, by omega, fun g => (hval g).1, o1.trans o2 (ds := [wb]) (by simp) (by simp), c2, r2, hS2, ?_, fun g => ?_⟩
    · rw [hc2, hcode]
      constructor
      · rintro ⟨g1, g2⟩
        refine ⟨g1, fun g3 => ?_⟩
        rw [if_pos g3] at g2
        cases g2
      · rintro ⟨g1, g2⟩
        exact ⟨g1, if_neg g2⟩
    · have g9 : c = 0 ∧ (textL 32 r).1 = 0 := by
        rw [hcode]
        obtain ⟨g1, g2⟩ := hc2.1 g
        refine ⟨g1, fun g3 => ?_⟩
        rw [if_pos g3] at g2
        cases g2
      rw [hr2 g, (hval g9).2]
  clear hB hblk hsl hs hS2 hc2 hr2 F
  go_wp2
  go_ret
  exact hfin.out

set_option maxHeartbeats 800000 in
theorem rendS_any (h : RfS w wb fb l c r) :
    Calls Try.prog 46 #[.pointer (some ⟨wb, 0, none⟩)] w fun e w' => ∃ z : Nat, e = .returned (.int .i64 (z : Int)) ∧ (z = 0 ↔ c = 0 ∧ r = []) ∧ Only [wb] w w' := by
  by_cases hc : c = 0
  · obtain ⟨p, h1, rfl⟩ := h.ok hc
    refine (refEnd_any wb fb l p w h1).mono ?_
    rintro e w' ⟨rfl, o⟩
    by_cases he : l.drop p = []
    · rw [if_pos he]
      exact ⟨0, rfl, ⟨fun _ => ⟨hc, he⟩, fun _ => rfl⟩, o⟩
    · rw [if_neg he]
      exact ⟨3, rfl, ⟨fun e => absurd e (by decide), fun e => absurd e.2 he⟩, o⟩
  · obtain ⟨p, h1, _⟩ := h
    have hc2 := h1.fE
    have hne : ((c : Int) == 0) = false := by rw [beq_eq_false_iff_ne]; omega
    have hcn := hid hc
    clear hc
    go_enter Try.func46, Try.ntmps46
    go_wp2_with fail
    go_quiet (fail)
    go_wp2
    go_ret
    exact ⟨c, rfl, ⟨fun e => absurd e hcn.out, fun e => absurd e.1 hcn.out⟩, only_drewN _ _ _⟩
end
end Go.Proofs.Ytnlmeaijnfjakaa.Sh
