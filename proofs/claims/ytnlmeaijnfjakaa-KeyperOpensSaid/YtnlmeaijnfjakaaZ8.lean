/- Texts of this proof, merged: KrJ, KrK. -/
import Derived.Test.YtnlmeaijnfjakaaZ7
/- The document's reader of names: walked. -/
namespace Go.Proofs.Ytnlmeaijnfjakaa.Sh
set_option linter.unusedSimpArgs false
set_option linter.unusedVariables false
open Go Go.RowKit

theorem padL_32 (s : List UInt8) (h : s.length = 32) : padL s = s := by
  unfold padL
  rw [List.take_of_length_le (by omega), show 32 - s.length = 0 by omega]
  simp
theorem there_kept {w w' : World} {b n : Nat} (h : w.there b 0 n) {bs : List Nat} (ho : Only bs w w') (hb : b ∉ bs) : w'.there b 0 n := fun j hj => by
  obtain ⟨q1, q2⟩ := h j hj
  have hlt : b < w.heap.size := by
    obtain ⟨y, hy⟩ := Option.isSome_iff_exists.1 q1
    exact World.block_lt_of_cell? w _ hy
  exact ⟨by rw [ho.cell' hlt hb]; exact q1, by rw [ho.frozen' hlt hb]; exact q2⟩
theorem RfS.kept {w w' : World} {wb fb : Nat} {l : List UInt8} {c : Nat} {r : List UInt8} (h : RfS w wb fb l c r) {bs : List Nat} (ho : Only bs w w') (hn : wb ∉ bs) (hl : l = [] ∨ fb ∉ bs) : RfS w' wb fb l c r := by
  obtain ⟨p, h1, h2⟩ := h
  exact ⟨p, h1.kept ho hn hl, h2⟩

section
variable (wb fb : Nat) (l : List UInt8) (c : Nat) (r : List UInt8) (w : World)
set_option maxRecDepth 20000 in
set_option maxHeartbeats 1600000 in
theorem rdigS_any (h : RfS w wb fb l c r) (hl : l.length ≤ 1000000) (hfb : l = [] ∨ fb < w.heap.size) :
    Calls Try.prog 44 #[.pointer (some ⟨wb, 0, none⟩)] w fun e w' => ∃ d, e = .returned (vD d) ∧ d.length = 32 ∧ ((c = 0 ∧ (digL r).1 = 0) → d = (digL r).2.1) ∧ ReadsTo wb fb l c (digL r).1 w w' (fun r' => r' = (digL r).2.2) := by
  have hwlt := h.lt
  have HH := hid h
  clear h
  go_enter Try.func44, Try.ntmps44
  go_wp2_with (first
    | (refine wpList_alloc_run (by rfl) 35 (by rfl) (alloc_dig _) ?_)
    | (refine wpList_build_run (by rfl) 35 (by rfl) (build_dig _) ?_)
    | (refine wpList_store_dig (by rfl) _ _ (by rfl) (w.alloc (.cells Z32 35)).heap.size (List.replicate 32 0) Z32 (by rfl) (by rfl) rfl (by simp) (Dv.fresh (w.alloc (.cells Z32 35)) 35).there ?_; intro w2 hD2 hp2; rw [World.size_alloc] at hD2 hp2))
  have hres0 : w2.there w.heap.size 0 32 := by
    have h0 := (Dv.fresh w 35).kept ((Only.refl [] (w.alloc (.cells Z32 35))).alloc (.cells Z32 35)) (by simp)
    exact (h0.kept hp2 (by simp)).there
  have ho2 : Only [] w w2 := (((Only.refl [] w).alloc _).alloc _).trans hp2 (by simp) (by simp)
  have s2 := ho2.size
  have hg2l : w.heap.size + 1 < w2.heap.size := by
    obtain ⟨y, hy⟩ := Option.isSome_iff_exists.1 (hD2.there 0 (by omega)).1
    exact World.block_lt_of_cell? w2 _ hy
  obtain ⟨g, hg⟩ : ∃ g, g = w.heap.size + 1 := ⟨_, rfl⟩
  rw [← hg] at hD2 hg2l ⊢
  have HG1 : w.heap.size < g := by omega
  clear hp2 hg
  refine (rbytesS_any wb fb l c r w2 (HH.out.kept0 ho2) 32 (by omega) hl).mono ?_
  rintro e w3 ⟨v, s, rfl, hB, hblk, hsl, hs, o3, c', r', hS3, hc3, hr3⟩
  have s3 := o3.size
  obtain ⟨a, cap, rfl⟩ := bs_form hB
  have hgw : g ≠ wb := by omega
  have hD3 := hD2.kept o3 (by simpa using hgw)
  have hres3 := there_kept hres0 o3 (by simp; omega)
  have HS := hid (show ((c = 0 ∧ (digL r).1 = 0) → padL s = (digL r).2.1) ∧ RfS w3 wb fb l c' r' ∧ (c' = 0 ↔ c = 0 ∧ (digL r).1 = 0) ∧ (c' = 0 → r' = (digL r).2.2) by
    by_cases h32 : r.length < 32
    · have hd : digL r = (2, [], r) := by unfold digL; rw [if_pos h32]
      rw [if_pos h32] at hc3
      rw [hd]
      exact ⟨fun e => absurd e.2 (by simp), hS3, hc3, fun e => absurd (hc3.1 e).2 (by simp)⟩
    · have hd : digL r = (0, r.take 32, r.drop 32) := by unfold digL; rw [if_neg h32]
      rw [if_neg h32] at hc3
      rw [hd]
      refine ⟨fun e => ?_, hS3, hc3, hr3⟩
      rw [hs ⟨e.1, h32⟩]
      exact padL_32 _ (by simp; omega))
  clear hS3 hc3 hr3 hs HH hD2 hres0
  have hv64 : s.length ≤ 32 := hsl
  go_wp2_with fail
  go_loopw [11] (fun i wr => ∃ (k : Nat) (d : List UInt8), k ≤ s.length ∧ i = .int .i64 k ∧ Dv wr g d ∧ Hid (d = padL (s.take k)) ∧ wr.there w.heap.size 0 32 ∧ Only [g] w3 wr) (fun i _ => s.length - (intOf i).toNat)
  case atStart => exact ⟨0, _, Nat.zero_le _, rfl, hD3, by simp [Hid, padL], hres3, Only.refl _ _⟩
  case round =>
    obtain ⟨k, d, hk, rfl, hD, hd, hres, ho⟩ := hrel
    by_cases hlt : k < s.length
    · obtain ⟨vb, vo, rfl, hld⟩ := (hB.kept ho (fun i hi => by have := hblk i hi; simp; omega)).at k hlt
      have hk32 : k < 32 := by omega
      obtain ⟨hsome, hfz⟩ := hD.there k hk32
      obtain ⟨y, hc⟩ := Option.isSome_iff_exists.1 hsome
      rw [Nat.zero_add] at hc hfz
      obtain ⟨x, hx⟩ : ∃ x, x = s[k] := ⟨_, rfl⟩
      rw [← hx] at hld
      have hstep : Hid (d.set k x = padL (s.take (k + 1))) := by
        show d.set k x = _
        rw [hd.out, hx]
        exact padL_step s k hlt hk32
      clear hx hsome hd
      go_wp2
      go_roundw
      case rel => exact ⟨k + 1, d.set k x, by omega, by go_num, hD.set k hk32 x, hstep, there_kept hres ((Only.refl [g] wr).setCell (p := ⟨g, k, none⟩) (.inl (by simp)) _) (by simp; omega), ho.setCell (p := ⟨g, k, none⟩) (.inl (by simp)) _⟩
      case measure => simp [intOf]; omega
    · obtain rfl : k = s.length := by omega
      have hend : Hid (d = padL s) := by
        show d = padL s
        rw [hd.out, List.take_length]
      clear hd
      go_wp2_with (first
        | (refine wpList_load_dig (by rfl) _ (by rfl) g d (by rfl) hD ?_)
        | (refine wpList_store_dig (by rfl) _ _ (by rfl) w.heap.size d (bytes d).toArray (by rfl) (by rfl) rfl hD.len hres ?_; intro w5 hD5 hp5))
      refine bodyPost_ret (results_dig rfl _ _ rfl hD5) rfl ?_
      obtain ⟨f1, f2, f3, f4⟩ := HS.out
      have o35 : Only [g, w.heap.size] w3 w5 := ho.trans hp5 (ds := [g, w.heap.size]) (by simp) (by simp)
      refine ⟨d, rfl, hD.len, fun e => by rw [hend.out, f1 e], ?_, c', r', f2.kept o35 (by simp; omega) ?_, f3, f4⟩
      · exact (ho2.trans o3 (ds := [wb]) (by simp) (by simp)).trans o35 (ds := [wb]) (by simp) (by simp; omega)
      · rcases hfb with h9 | h9
        · exact .inl h9
        · exact .inr (by simp; omega)

set_option maxRecDepth 20000 in
set_option maxHeartbeats 1600000 in
theorem rlistS_any (h : RfS w wb fb l c r) (hl : l.length ≤ 1000000) (hfb : l = [] ∨ fb < w.heap.size) (most : Nat) (hm : most ≤ 24) :
    Calls Try.prog 49 #[.pointer (some ⟨wb, 0, none⟩), .int .i64 most] w fun e w' => ∃ v ids, e = .returned v ∧ OwnD w.heap.size w' v ids ∧ ids.length ≤ most ∧ ((c = 0 ∧ (listL most r).1 = 0) → ids = (listL most r).2.1) ∧ ReadsTo wb fb l c (listL most r).1 w w' (fun r' => r' = (listL most r).2.2) := by
  have hwlt := h.lt
  have hnum := hid (rnumS_any wb fb l c r w h most (by omega) hl)
  clear h
  go_enter Try.func49, Try.ntmps49
  go_wp2_with fail
  refine hnum.out.mono ?_
  rintro e w1 ⟨n, rfl, hz, h1, h2, o1, c1, r1, hS1, hc1, hr1⟩
  have hnm : n ≤ most := by
    by_cases g : c = 0 ∧ (numL most r).1 = 0
    · rw [h1 g]; exact numL_most _ _ g.2
    · rw [h2 g]; omega
  have s1 := o1.size
  have hwr : IntKind.i64.wrap (n : Int) = (n : Int) := IntWalk.i64_in _ (by omega)
  have F : Hid ((c1 = 0 ↔ c = 0 ∧ (numL most r).1 = 0) ∧ (c1 = 0 → n = (numL most r).2.1 ∧ r1 = (numL most r).2.2)) := ⟨hc1, fun g => ⟨h1 (hc1.1 g), hr1 g⟩⟩
  clear h1 h2 hc1 hr1
  go_wp2_with fail
  go_loopw [5, 7] (fun ov i wr => ∃ (j : Nat) (ids : List (List UInt8)) (cj : Nat) (rj : List UInt8), j ≤ n ∧ i = .int .i64 j ∧ OwnD w.heap.size wr ov ids ∧ Hid (ids.length = j) ∧ RfS wr wb fb l cj rj ∧ Hid (cj = 0 → c1 = 0 ∧ digsL n r1 = ((digsL (n - j) rj).1, ids ++ (digsL (n - j) rj).2.1, (digsL (n - j) rj).2.2)) ∧ Hid (cj ≠ 0 → ¬ (c1 = 0 ∧ (digsL n r1).1 = 0)) ∧ Only [wb] w wr) (fun _ i _ => n - (intOf i).toNat)
  case atStart => exact ⟨0, [], c1, r1, Nat.zero_le _, rfl, ⟨World.ownsRow_nil _ _ _ _, by simp⟩, hid rfl, hS1, hid (fun g => ⟨g, by simp⟩), hid (fun g e => g e.1), o1⟩
  case round =>
    obtain ⟨j, ids, cj, rj, hj, rfl, hown, hidl, hSj, hj1, hj2, ho⟩ := hrel
    have sr := ho.size
    have hil : ids.length ≤ 24 := by have := hidl.out; omega
    obtain ⟨oa, oc, rfl⟩ := own_form hown.1
    by_cases hlt : j < n
    · have hdg := hid (rdigS_any wb fb l cj rj wr hSj hl (hfb.imp id (fun h9 => by omega)))
      have HN := hid hown
      clear hSj hown
      go_wp2_with fail
      refine hdg.out.mono ?_
      rintro e w2 ⟨d, rfl, hd32, hd1, o2, c', r', hS2, hc2, hr2⟩
      have s2 := o2.size
      have own2 := HN.out.only o2 (fun i hi hm => by have := (HN.out.1.lt i hi).1; rw [List.mem_singleton] at hm; omega)
      have own2k : w2.ownsRow w.heap.size 35 32 (.slice oa ids.length oc) ids.length (ids.flatMap bytes) := own2.1
      have hnext : Hid ((c' = 0 → c1 = 0 ∧ digsL n r1 = ((digsL (n - (j + 1)) r').1, (ids ++ [d]) ++ (digsL (n - (j + 1)) r').2.1, (digsL (n - (j + 1)) r').2.2)) ∧ (c' ≠ 0 → ¬ (c1 = 0 ∧ (digsL n r1).1 = 0))) := by
        have hstep : n - j = (n - (j + 1)) + 1 := by omega
        refine ⟨fun g => ?_, fun g => ?_⟩
        · obtain ⟨g1, g2⟩ := hc2.1 g
          obtain ⟨f1, f2⟩ := hj1.out g1
          refine ⟨f1, ?_⟩
          rw [f2, hstep, digsL, if_pos g2, ← hd1 ⟨g1, g2⟩, hr2 g]
          simp
        · by_cases g1 : cj = 0
          · obtain ⟨f1, f2⟩ := hj1.out g1
            have g2 : (digL rj).1 ≠ 0 := fun g2 => g (hc2.2 ⟨g1, g2⟩)
            rw [f2, hstep, digsL, if_neg g2]
            exact fun e => g2 e.2
          · exact hj2.out g1
      have HD32 := hid hd32
      clear hdg hd1 hc2 hr2 hj1 hj2
      go_wp2_with (first
        | (refine wpList_name1 20 d hd32 (by rfl) ?_)
        | (at_builtin; refine wpList_app1 (by rfl) _ _ 42 (by rfl) w.heap.size 35 32 32 el_dig (by rfl) own2k ([d].flatMap bytes) (by rfl) (by simp [bytes, hd32]) (by simpa using bytes_one d) (by omega) (by omega) (by omega) ?_; intro v4 w4 own4 app4))
      have q4 : Only [wb] w w4 := (ho.trans o2 (ds := [wb]) (by simp) (by simp)).app app4 (fun i hi => .inr (own2k.lt i hi).1)
      have hS4 : RfS w4 wb fb l c' r' := by
        have := (Only.refl (Value.slice oa ids.length oc).ownBlock.toList w2).app app4 (fun i hi => .inl (by simp [hi]))
        refine hS2.kept this ?_ ?_
        · intro hm
          have := (own2k.lt wb (by simpa using hm)).1
          omega
        · rcases hfb with h9 | h9
          · exact .inl h9
          · refine .inr (fun hm => ?_)
            have := (own2k.lt fb (by simpa using hm)).1
            omega
      obtain ⟨va, vc, rfl⟩ := own_form own4
      have hnl : (ids ++ [d]).length = ids.length + 1 := by simp
      have hown4 : OwnD w.heap.size w4 (.slice va (ids.length + 1) vc) (ids ++ [d]) := ⟨own_cast own4 hnl.symm (by rw [List.flatMap_append]), by
        intro x hx
        rcases List.mem_append.1 hx with hx | hx
        · exact HN.out.2 x hx
        · rw [List.mem_singleton.1 hx]; exact HD32.out⟩
      have HL4 := hid (show (ids ++ [d]).length = j + 1 by rw [hnl, hidl.out])
      clear own4 app4 hnl own2 own2k
      go_wp2
      go_roundw
      case rel => exact ⟨j + 1, ids ++ [d], c', r', by omega, by go_num, hown4, HL4, hS4, hid hnext.out.1, hid hnext.out.2, q4⟩
      case measure => simp [intOf]; omega
    · obtain rfl : j = n := by omega
      have hfin : Hid (∃ v ids', Ending.returned (.slice oa ids.length oc) = .returned v ∧ OwnD w.heap.size wr v ids' ∧ ids'.length ≤ most ∧ ((c = 0 ∧ (listL most r).1 = 0) → ids' = (listL most r).2.1) ∧ ReadsTo wb fb l c (listL most r).1 w wr (fun r' => r' = (listL most r).2.2)) := by
        obtain ⟨f1, f2⟩ := F.out
        have g1 := hj1.out
        have g2 := hj2.out
        rw [Nat.sub_self] at g1
        simp only [digsL, List.append_nil] at g1
        have hiff : cj = 0 ↔ c = 0 ∧ (listL most r).1 = 0 := by
          constructor
          · intro e
            obtain ⟨e1, e2⟩ := g1 e
            obtain ⟨e3, e4⟩ := f1.1 e1
            refine ⟨e3, ?_⟩
            unfold listL
            rw [if_pos e4, ← (f2 e1).1, ← (f2 e1).2, e2]
          · rintro ⟨e1, e2⟩
            by_cases e : cj = 0
            · exact e
            · exfalso
              refine g2 e ?_
              by_cases e4 : (numL most r).1 = 0
              · have e5 := f1.2 ⟨e1, e4⟩
                refine ⟨e5, ?_⟩
                unfold listL at e2
                rw [if_pos e4, ← (f2 e5).1, ← (f2 e5).2] at e2
                exact e2
              · unfold listL at e2
                rw [if_neg e4] at e2
                exact absurd e2 e4
        have hval : cj = 0 → ids = (listL most r).2.1 ∧ rj = (listL most r).2.2 := fun e => by
          obtain ⟨e1, e2⟩ := g1 e
          obtain ⟨e3, e4⟩ := f1.1 e1
          unfold listL
          rw [if_pos e4, ← (f2 e1).1, ← (f2 e1).2, e2]
          exact ⟨rfl, rfl⟩
        exact ⟨_, ids, rfl, hown, by have := hidl.out; omega, fun e => (hval (hiff.2 e)).1, ho, cj, rj, hSj, hiff, fun e => (hval e).2⟩
      clear hown hSj hj1 hj2
      go_wp2
      go_ret
      exact hfin.out
end
end Go.Proofs.Ytnlmeaijnfjakaa.Sh
/- The document's keyper opened: walked. (Printed by gen_krk.py.) -/
namespace Go.Proofs.Ytnlmeaijnfjakaa.Sh
set_option linter.unusedSimpArgs false
set_option linter.unusedVariables false
open Go Go.RowKit

theorem RLg.rows2 {w : World} {x : Nat} {f l : List UInt8} {rs : List (List UInt8)} {bs : List Nat} (h : RLg w x f l rs bs) (hr : rs.length ≤ 1000000) :
    ∃ ra rc, w.cell? ⟨x, 2, none⟩ = some (.slice ra rs.length rc) ∧ Bss w (.slice ra rs.length rc) rs := by
  obtain ⟨ht, hx, fv, lv, rv, vs, c0, c1, c2, h1, h2, h3, h4, h5⟩ := h
  obtain ⟨ra, rc, rfl⟩ := own_form h3
  exact ⟨ra, rc, c2.1, vs, Cs.of_own h3 (by omega), h5.imp fun _ _ k => k.1⟩
def ROpenPost (w : World) (z : List UInt8) (e : Ending) (w' : World) : Prop :=
  ∃ y, e = .returned (.pointer (some ⟨y, 0, none⟩)) ∧ RKB w' y (allL z).1 (newBs w w') ∧ Only [] w w'

set_option maxRecDepth 20000 in
set_option maxHeartbeats 12800000 in
theorem rkopen_any (w : World) (fv lv : Value) (f0 l0 : List UInt8) (hf : Bs w fv f0) (hl : Bs w lv l0) (hlen : f0.length + l0.length ≤ 500000) :
    Calls Try.prog 21 #[dskV fv lv] w (ROpenPost w (f0 ++ l0)) := by
  obtain ⟨fa, fc, rfl⟩ := bs_form hf
  obtain ⟨la, lc, rfl⟩ := bs_form hl
  obtain ⟨w1, hw1⟩ : ∃ w1, w1 = w.alloc (Obj.cells #[.slice fa f0.length fc, .slice la l0.length lc] 49) := ⟨_, rfl⟩
  have ho1 : Only [] w w1 := by rw [hw1]; exact (Only.refl [] w).alloc _
  have hop := ropen_any w1 _ _ f0 l0 (hf.kept0 ho1) (hl.kept0 ho1) hlen
  obtain ⟨z, hz⟩ : ∃ z, z = f0 ++ l0 := ⟨_, rfl⟩
  have hzl : z.length ≤ 500000 := by rw [hz]; simp; omega
  rw [← hz] at hop ⊢
  clear hz
  obtain ⟨hflat, hrl⟩ := allL_flat _ z (Nat.le_refl _)
  rw [← hflat] at hop
  obtain ⟨hr1, hr2⟩ := allL_le _ z (Nat.le_refl _)
  unfold ROpenPost
  obtain ⟨R, hR⟩ : ∃ R, R = (allL z).1 := ⟨_, rfl⟩
  rw [← hR] at hop hrl hr2 ⊢
  have hRl : R.length ≤ 500000 := by omega
  replace hop := hid hop
  replace hrl := hid hrl
  clear hR hflat hr1 hr2
  go_enter Try.func21, Try.ntmps21
  go_wp2_with fail
  rw [← hw1]
  clear hw1
  refine hop.out.mono ?_
  rintro e w2 ⟨x, rfl, hL, o2⟩
  have s1 := ho1.size
  have s2 := o2.size
  obtain ⟨f, hf'⟩ : ∃ f, f = (R.map frameL).flatten := ⟨_, rfl⟩
  rw [← hf'] at hL
  have HF := hid (show f = flatL R from hf')
  clear hf'
  obtain ⟨w4, hw4⟩ : ∃ w4, w4 = w2.alloc (Obj.cells #[.slice none 0 0, .int .u64 0, .slice none 0 0, .bool false, .pointer (some ⟨x, 0, none⟩)] 70) := ⟨_, rfl⟩
  have o4 : Only [] w2 w4 := by rw [hw4]; exact (Only.refl [] w2).alloc _
  have s4 : w2.heap.size < w4.heap.size := by rw [hw4]; simp
  obtain ⟨y, hy⟩ : ∃ y, y = w2.heap.size := ⟨_, rfl⟩
  have hls := hid (fun i (hi : i ∈ newBs w1 w2) => (⟨by have := (mem_newBs.1 hi).1; omega, by have := (mem_newBs.1 hi).2; omega⟩ : w.heap.size ≤ i ∧ i < w4.heap.size))
  have hK4 : RKp w4 y x (newBs w1 w2) [] km0 f R := by
    refine ⟨⟨.slice none 0 0, ?_, [], rfl, ⟨by simp [gotC, km0], none, 0, rfl, by simp [km0], by simp [maxLen], by simp [km0], .inl rfl⟩, by simp [Value.ownBlock], by simp⟩, ?_, ⟨.slice none 0 0, ?_, ⟨⟨by simp [km0], none, 0, rfl, by simp [km0], by simp [maxLen], by simp [km0], .inl rfl⟩, by simp [km0]⟩, by simp [Value.ownBlock]⟩, ?_, ?_, hL.kept0 o4, ⟨fun hm => by have := (mem_newBs.1 hm).2; omega, by simp⟩, by simp⟩
    · rw [hw4, hy]; constructor <;> simp [go_sem]
    · rw [hw4, hy]; constructor <;> simp [go_sem, km0]
    · rw [hw4, hy]; constructor <;> simp [go_sem]
    · rw [hw4, hy]; constructor <;> simp [go_sem, km0]
    · rw [hw4, hy]; simp [go_sem]
  obtain ⟨ra, rc, hx2, hrows⟩ := (hL.kept0 o4).rows2 (by omega)
  obtain ⟨ls, hlse⟩ : ∃ ls, ls = newBs w1 w2 := ⟨_, rfl⟩
  rw [← hlse] at hK4 hls
  have hyw : w.heap.size ≤ y := by omega
  have hy4 : y < w4.heap.size := by omega
  have hx4 := hK4.c4
  have hLl := hls
  have hxls : x ∈ ls := hK4.log.2.1
  have o14 : Only [] w w4 := (ho1.trans0 o2).trans0 o4
  have hHR := hid hrows
  have hxL := hx2
  have hxLL := hx4
  rw [hw4] at hxL hxLL
  rw [hy] at hxLL
  clear hL hlse hls hrows
  go_wp2_with fail
  rw [← hw4, ← hy]
  clear hw4 hy hxL hxLL
  go_loopw [23] (fun i wr => ∃ (n : Nat) (bs : List Nat), n ≤ R.length ∧ i = .int .i64 n ∧ RKp wr y x ls bs ((R.take n).foldl redoK km0) f R ∧ Hid (∀ j ∈ bs, w.heap.size ≤ j ∧ j < wr.heap.size) ∧ Only [y] w4 wr) (fun i _ => R.length - (intOf i).toNat)
  case atStart => exact ⟨0, [], Nat.zero_le _, rfl, hK4, by simp [Hid], Only.refl _ _⟩
  case round =>
    obtain ⟨n, bs, hn, rfl, hK, hbs, ho⟩ := hrel
    have sr := ho.size
    by_cases hlt : n < R.length
    · have hyx : x ≠ y := fun e => hK.ny.1 (by rw [← e]; exact hxls)
      have hxr := ho.cell hx2 (by simpa using hyx)
      have hKlog := hK.log
      obtain ⟨ra', rc', hx2', hrows'⟩ := hK.log.rows2 (by omega)
      obtain ⟨rfl, rfl⟩ : ra' = ra ∧ rc' = rc := by
        rw [hxr] at hx2'
        simp only [Option.some.injEq, Value.slice.injEq, true_and] at hx2'
        exact ⟨hx2'.1.symm, hx2'.2.symm⟩
      obtain ⟨b, o', xv, rfl, c1, hx⟩ := hrows'.at n hlt
      have hrn := hrl.out R[n] (List.getElem_mem hlt)
      have hsucc := hid (foldl_succ R n hlt)
      obtain ⟨r, hr⟩ : ∃ r, r = R[n] := ⟨_, rfl⟩
      rw [← hr] at hx hrn hsucc
      obtain ⟨c, tl, rfl⟩ : ∃ c tl, r = c :: tl := by
        cases r with
        | nil => simp at hrn
        | cons c tl => exact ⟨c, tl, rfl⟩
      obtain ⟨q, o, cap, rfl, hcap, _⟩ := hx.form (by simp)
      obtain ⟨q', p', he, hq⟩ := hx.at 0 (by simp)
      simp only [Option.some.injEq, Addr.mk.injEq] at he
      obtain ⟨rfl, rfl, _⟩ := he
      simp only [Nat.add_zero, List.getElem_cons_zero] at hq
      have htail := hx.tail 1 (by simp)
      have hlen : (c :: tl).length = tl.length + 1 := rfl
      rw [hlen] at hcap htail c1 hrn
      rw [show (c :: tl).drop 1 = tl from rfl, show tl.length + 1 - 1 = tl.length by omega] at htail
      have htl : tl.length ≤ 1000000 := by omega
      have hql : q < wr.heap.size := World.block_lt_of_cell? wr _ hq
      have hMi := hid (foldl_inv R n)
      obtain ⟨M, hM⟩ : ∃ M, M = (R.take n).foldl redoK km0 := ⟨_, rfl⟩
      rw [← hM] at hK hMi hsucc
      have hyc4 := hK.c4
      have hwbK : wr.heap.size ≠ y ∧ wr.heap.size ∉ ls ∧ wr.heap.size ∉ bs := ⟨by omega, fun hm => by have := hLl.out _ hm; omega, fun hm => by have := hbs.out _ hm; omega⟩
      clear hr hM hx hx2' hrows' hlen
      by_cases e1 : c = 1
      · subst e1
        have hqX : wr.cell? ⟨q, o, none⟩ = some (.int .u8 1) := hq
        clear hq
        by_cases hc1 : cap = 1
        · have hc2 : cap - 1 = 0 := by omega
          have hl0 : tl.length = 0 := by omega
          have hVB : Bs wr (.slice (some ⟨q, o, none⟩) 0 0) tl := (by rw [List.eq_nil_of_length_eq_zero hl0]; exact Bs.empty (by unfold maxLen; omega))
          obtain ⟨w5, hw5⟩ : ∃ w5, w5 = wr.alloc (Obj.cells #[.slice (some ⟨q, o, none⟩) 0 0, .int .i64 0, .int .i64 0] 93) := ⟨_, rfl⟩
          have o5 : Only [] wr w5 := by rw [hw5]; exact (Only.refl [] wr).alloc _
          have s5 : wr.heap.size < w5.heap.size := by rw [hw5]; simp
          obtain ⟨wb, hwb⟩ : ∃ wb, wb = wr.heap.size := ⟨_, rfl⟩
          have hqwb : q ≠ wb := by omega
          have hwb1 : wr.heap.size ≤ wb := by omega
          have hS5 : RfS w5 wb q tl 0 tl := by
            refine ⟨0, ⟨⟨.slice (some ⟨q, o, none⟩) 0 0, by rw [hw5, hwb]; simp [go_sem], hVB.kept0 o5, fun b hb => .inr (by simpa [Value.ownBlock] using hb.symm)⟩, hqwb, by rw [hw5, hwb]; simp [go_sem], by omega, by rw [hw5, hwb]; simp [go_sem], ?_⟩, fun _ => rfl⟩
            rw [hw5, hwb]
            refine ⟨?_, ?_, ?_⟩ <;> simp [go_sem]
          clear hVB
          have G1 := o5.cell hyc4 (by simp)
          have G2 := o5.cell hxr (by simp)
          have G3 := o5.cell c1 (by simp)
          have G4 := o5.cell hqX (by simp)
          rw [hw5] at G1 G2 G3 G4
          go_wp2_with fail
          rw [← hw5, ← hwb]
          rw [← hwb] at hwbK
          have hwbK' := hwbK
          clear hw5 hwb G1 G2 G3 G4
          have hwb2 := hS5.lt
          refine (rdigS_any wb q tl 0 tl w5 hS5 htl (.inr (by omega))).mono ?_
          rintro e w6 ⟨d, rfl, hd32, hd1, o6, c6, r6, hS6, hc6, hr6⟩
          have s6 := o6.size
          obtain ⟨w7, hw7⟩ : ∃ w7, w7 = w6.alloc (.cells Z32 35) := ⟨_, rfl⟩
          have o7 : Only [] w6 w7 := by rw [hw7]; exact (Only.refl [] w6).alloc _
          have hD7 := Dv.fresh w6 35
          rw [← hw7] at hD7
          have hth7 := hD7.there
          clear hD7
          go_wp2_with (first
            | (refine wpList_alloc_run (by rfl) 35 (by rfl) (alloc_dig _) ?_; rw [← hw7])
            | (refine wpList_store_dig (by rfl) _ _ (by rfl) w6.heap.size d _ (by rfl) (by rfl) rfl hd32 hth7 ?_; intro w8 hD8 o8))
          have s7 := o7.size
          have s8 := o8.size
          have hS8 := (hS6.kept0 o7).kept o8 (by simp; omega) (.inr (by simp; omega))
          clear hw7 hth7 hS6
          refine (rtextS_any wb q tl c6 r6 w8 hS8 htl).mono ?_
          rintro e w9 ⟨sv, s, rfl, hB9, hblk, hsl, hs9, o9, c9, r9, hS9, hc9, hr9⟩
          have s9 := o9.size
          obtain ⟨sa, sc, rfl⟩ := bs_form hB9
          have hwgd : w6.heap.size ≠ wb := by omega
          have hD9 := hD8.kept o9 (by simpa using hwgd)
          go_wp2_with fail
          refine (rendS_any wb q tl c9 r9 w9 hS9).mono ?_
          rintro e w10 ⟨z, rfl, hz, o10⟩
          have s10 := o10.size
          have hD10 := hD9.kept o10 (by simpa using hwgd)
          have o5A : Only [y] wr w10 := (((((o5.trans o6 (ds := [wb]) (by simp) (by simp)).trans o7 (ds := [wb]) (by simp) (by simp)).trans o8 (ds := [wb]) (by simp) (by simp; omega)).trans o9 (ds := [wb]) (by simp) (by simp)).trans o10 (ds := [wb]) (by simp) (by simp)).mono (fun i hi => .inr (by rw [List.mem_singleton.1 hi]; omega))
          have hK10 := hK.only ((((((o5.trans o6 (ds := [wb]) (by simp) (by simp)).trans o7 (ds := [wb]) (by simp) (by simp)).trans o8 (ds := [wb]) (by simp) (by simp; omega)).trans o9 (ds := [wb]) (by simp) (by simp)).trans o10 (ds := [wb]) (by simp) (by simp)) : Only [wb] wr w10) (fun i hi => by rw [List.mem_singleton.1 hi]; exact hwbK')
          have hiff : z = 0 ↔ (digL tl).1 = 0 ∧ (textL 32 (digL tl).2.2).1 = 0 ∧ (textL 32 (digL tl).2.2).2.2 = [] := by
            rw [hz]
            constructor
            · rintro ⟨g1, g2⟩
              obtain ⟨g3, g4⟩ := hc9.1 g1
              have g5 := hr6 g3
              rw [hr9 g1, g5] at g2
              rw [g5] at g4
              exact ⟨(hc6.1 g3).2, g4, g2⟩
            · rintro ⟨g1, g2, g3⟩
              have g4 := hc6.2 ⟨by simp, g1⟩
              have g5 := hr6 g4
              rw [← g5] at g2 g3
              have g6 := hc9.2 ⟨g4, g2⟩
              exact ⟨g6, by rw [hr9 g6]; exact g3⟩
          by_cases h0 : z = 0
          · obtain ⟨g1, g2, g3⟩ := hiff.1 h0
            have hde : d = (digL tl).2.1 := hd1 ⟨by simp, g1⟩
            have hse : s = (textL 32 (digL tl).2.2).2.1 := by
              have := hs9 ⟨hc6.2 ⟨by simp, g1⟩, by rw [hr6 (hc6.2 ⟨by simp, g1⟩)]; exact g2⟩
              rw [this, hr6 (hc6.2 ⟨by simp, g1⟩)]
            have hred := hid (show redoB M 1 tl = (keepK M d s).2 by
              unfold redoB
              rw [if_pos rfl, if_pos ⟨g1, g2, g3⟩, ← hde, ← hse])
            have hB10 : Bs w10 (.slice sa s.length sc) s := hB9.kept o10 (fun i hi hm => by have := hblk i hi; rw [List.mem_singleton] at hm; omega)
            have kp := hid (rkeep_any w10 y x ls bs M f R hK10 (fun i hi => by have := hLl.out i hi; omega) hMi.out d hd32 _ s hB10 (fun i hi => .inr (fun e => by have := hblk i hi; omega)) (by omega))
            have hbs10 := hid (fun i (hi : i ∈ bs) => (by have := hbs.out i hi; omega : w.heap.size ≤ i ∧ i < w10.heap.size))
            subst h0
            clear hz hiff hde hse g1 g2 g3 hd1 hs9 hc6 hr6 hc9 hr9 hS9 hS8 hK10 hK hB9 hB10 hD9 hD8
            go_wp2_with (refine wpList_load_dig (by rfl) _ (by rfl) w6.heap.size d (by rfl) hD10 ?_)
            refine kp.out.mono ?_
            rintro e w11 ⟨rfl, hK11, o11⟩
            have s11 := o11.size
            have hKE := hid (show RKp w11 y x ls (bs ++ newBs w10 w11) (redoB M 1 tl) f R by rw [hred.out]; exact hK11)
            have hbE : Hid (∀ i ∈ bs ++ newBs w10 w11, w.heap.size ≤ i ∧ i < w11.heap.size) := fun i hi => by
              rcases List.mem_append.1 hi with hi | hi
              · have := hbs10.out i hi; omega
              · have := mem_newBs.1 hi; omega
            have oE : Only [y] w4 w11 := (ho.trans o5A (ds := [y]) (by simp) (by simp)).trans o11 (ds := [y]) (by simp) (by simp)
            clear hK11 kp
            go_wp2
            go_roundw
            case rel => exact ⟨n + 1, _, by omega, by go_num, by rw [hsucc.out]; exact hKE.out, hbE, oE⟩
            case measure => simp [intOf]; omega
          · have hzz : ¬ ((z : Int) = 0) := by omega
            have hKE := hid (show RKp w10 y x ls bs (redoB M 1 tl) f R by
              unfold redoB
              rw [if_pos rfl, if_neg (fun g => h0 (hiff.2 g))]
              exact hK10)
            have hbE : Hid (∀ i ∈ bs, w.heap.size ≤ i ∧ i < w10.heap.size) := fun i hi => by have := hbs.out i hi; omega
            have oE : Only [y] w4 w10 := ho.trans o5A (ds := [y]) (by simp) (by simp)
            clear hz hiff hK10 hK hd1 hs9 hc6 hr6 hc9 hr9 hS9 hS8 hB9 hD9 hD8 hD10 h0
            go_wp2
            go_roundw
            case rel => exact ⟨n + 1, _, by omega, by go_num, by rw [hsucc.out]; exact hKE.out, hbE, oE⟩
            case measure => simp [intOf]; omega
        · have hc2 : ¬ cap - 1 = 0 := by omega
          have hVB : Bs wr (.slice (some ⟨q, o + 1, none⟩) tl.length (cap - 1)) tl := htail
          obtain ⟨w5, hw5⟩ : ∃ w5, w5 = wr.alloc (Obj.cells #[.slice (some ⟨q, o + 1, none⟩) tl.length (cap - 1), .int .i64 0, .int .i64 0] 93) := ⟨_, rfl⟩
          have o5 : Only [] wr w5 := by rw [hw5]; exact (Only.refl [] wr).alloc _
          have s5 : wr.heap.size < w5.heap.size := by rw [hw5]; simp
          obtain ⟨wb, hwb⟩ : ∃ wb, wb = wr.heap.size := ⟨_, rfl⟩
          have hqwb : q ≠ wb := by omega
          have hwb1 : wr.heap.size ≤ wb := by omega
          have hS5 : RfS w5 wb q tl 0 tl := by
            refine ⟨0, ⟨⟨.slice (some ⟨q, o + 1, none⟩) tl.length (cap - 1), by rw [hw5, hwb]; simp [go_sem], hVB.kept0 o5, fun b hb => .inr (by simpa [Value.ownBlock] using hb.symm)⟩, hqwb, by rw [hw5, hwb]; simp [go_sem], by omega, by rw [hw5, hwb]; simp [go_sem], ?_⟩, fun _ => rfl⟩
            rw [hw5, hwb]
            refine ⟨?_, ?_, ?_⟩ <;> simp [go_sem]
          clear hVB
          have G1 := o5.cell hyc4 (by simp)
          have G2 := o5.cell hxr (by simp)
          have G3 := o5.cell c1 (by simp)
          have G4 := o5.cell hqX (by simp)
          rw [hw5] at G1 G2 G3 G4
          go_wp2_with fail
          rw [← hw5, ← hwb]
          rw [← hwb] at hwbK
          have hwbK' := hwbK
          clear hw5 hwb G1 G2 G3 G4
          have hwb2 := hS5.lt
          refine (rdigS_any wb q tl 0 tl w5 hS5 htl (.inr (by omega))).mono ?_
          rintro e w6 ⟨d, rfl, hd32, hd1, o6, c6, r6, hS6, hc6, hr6⟩
          have s6 := o6.size
          obtain ⟨w7, hw7⟩ : ∃ w7, w7 = w6.alloc (.cells Z32 35) := ⟨_, rfl⟩
          have o7 : Only [] w6 w7 := by rw [hw7]; exact (Only.refl [] w6).alloc _
          have hD7 := Dv.fresh w6 35
          rw [← hw7] at hD7
          have hth7 := hD7.there
          clear hD7
          go_wp2_with (first
            | (refine wpList_alloc_run (by rfl) 35 (by rfl) (alloc_dig _) ?_; rw [← hw7])
            | (refine wpList_store_dig (by rfl) _ _ (by rfl) w6.heap.size d _ (by rfl) (by rfl) rfl hd32 hth7 ?_; intro w8 hD8 o8))
          have s7 := o7.size
          have s8 := o8.size
          have hS8 := (hS6.kept0 o7).kept o8 (by simp; omega) (.inr (by simp; omega))
          clear hw7 hth7 hS6
          refine (rtextS_any wb q tl c6 r6 w8 hS8 htl).mono ?_
          rintro e w9 ⟨sv, s, rfl, hB9, hblk, hsl, hs9, o9, c9, r9, hS9, hc9, hr9⟩
          have s9 := o9.size
          obtain ⟨sa, sc, rfl⟩ := bs_form hB9
          have hwgd : w6.heap.size ≠ wb := by omega
          have hD9 := hD8.kept o9 (by simpa using hwgd)
          go_wp2_with fail
          refine (rendS_any wb q tl c9 r9 w9 hS9).mono ?_
          rintro e w10 ⟨z, rfl, hz, o10⟩
          have s10 := o10.size
          have hD10 := hD9.kept o10 (by simpa using hwgd)
          have o5A : Only [y] wr w10 := (((((o5.trans o6 (ds := [wb]) (by simp) (by simp)).trans o7 (ds := [wb]) (by simp) (by simp)).trans o8 (ds := [wb]) (by simp) (by simp; omega)).trans o9 (ds := [wb]) (by simp) (by simp)).trans o10 (ds := [wb]) (by simp) (by simp)).mono (fun i hi => .inr (by rw [List.mem_singleton.1 hi]; omega))
          have hK10 := hK.only ((((((o5.trans o6 (ds := [wb]) (by simp) (by simp)).trans o7 (ds := [wb]) (by simp) (by simp)).trans o8 (ds := [wb]) (by simp) (by simp; omega)).trans o9 (ds := [wb]) (by simp) (by simp)).trans o10 (ds := [wb]) (by simp) (by simp)) : Only [wb] wr w10) (fun i hi => by rw [List.mem_singleton.1 hi]; exact hwbK')
          have hiff : z = 0 ↔ (digL tl).1 = 0 ∧ (textL 32 (digL tl).2.2).1 = 0 ∧ (textL 32 (digL tl).2.2).2.2 = [] := by
            rw [hz]
            constructor
            · rintro ⟨g1, g2⟩
              obtain ⟨g3, g4⟩ := hc9.1 g1
              have g5 := hr6 g3
              rw [hr9 g1, g5] at g2
              rw [g5] at g4
              exact ⟨(hc6.1 g3).2, g4, g2⟩
            · rintro ⟨g1, g2, g3⟩
              have g4 := hc6.2 ⟨by simp, g1⟩
              have g5 := hr6 g4
              rw [← g5] at g2 g3
              have g6 := hc9.2 ⟨g4, g2⟩
              exact ⟨g6, by rw [hr9 g6]; exact g3⟩
          by_cases h0 : z = 0
          · obtain ⟨g1, g2, g3⟩ := hiff.1 h0
            have hde : d = (digL tl).2.1 := hd1 ⟨by simp, g1⟩
            have hse : s = (textL 32 (digL tl).2.2).2.1 := by
              have := hs9 ⟨hc6.2 ⟨by simp, g1⟩, by rw [hr6 (hc6.2 ⟨by simp, g1⟩)]; exact g2⟩
              rw [this, hr6 (hc6.2 ⟨by simp, g1⟩)]
            have hred := hid (show redoB M 1 tl = (keepK M d s).2 by
              unfold redoB
              rw [if_pos rfl, if_pos ⟨g1, g2, g3⟩, ← hde, ← hse])
            have hB10 : Bs w10 (.slice sa s.length sc) s := hB9.kept o10 (fun i hi hm => by have := hblk i hi; rw [List.mem_singleton] at hm; omega)
            have kp := hid (rkeep_any w10 y x ls bs M f R hK10 (fun i hi => by have := hLl.out i hi; omega) hMi.out d hd32 _ s hB10 (fun i hi => .inr (fun e => by have := hblk i hi; omega)) (by omega))
            have hbs10 := hid (fun i (hi : i ∈ bs) => (by have := hbs.out i hi; omega : w.heap.size ≤ i ∧ i < w10.heap.size))
            subst h0
            clear hz hiff hde hse g1 g2 g3 hd1 hs9 hc6 hr6 hc9 hr9 hS9 hS8 hK10 hK hB9 hB10 hD9 hD8
            go_wp2_with (refine wpList_load_dig (by rfl) _ (by rfl) w6.heap.size d (by rfl) hD10 ?_)
            refine kp.out.mono ?_
            rintro e w11 ⟨rfl, hK11, o11⟩
            have s11 := o11.size
            have hKE := hid (show RKp w11 y x ls (bs ++ newBs w10 w11) (redoB M 1 tl) f R by rw [hred.out]; exact hK11)
            have hbE : Hid (∀ i ∈ bs ++ newBs w10 w11, w.heap.size ≤ i ∧ i < w11.heap.size) := fun i hi => by
              rcases List.mem_append.1 hi with hi | hi
              · have := hbs10.out i hi; omega
              · have := mem_newBs.1 hi; omega
            have oE : Only [y] w4 w11 := (ho.trans o5A (ds := [y]) (by simp) (by simp)).trans o11 (ds := [y]) (by simp) (by simp)
            clear hK11 kp
            go_wp2
            go_roundw
            case rel => exact ⟨n + 1, _, by omega, by go_num, by rw [hsucc.out]; exact hKE.out, hbE, oE⟩
            case measure => simp [intOf]; omega
          · have hzz : ¬ ((z : Int) = 0) := by omega
            have hKE := hid (show RKp w10 y x ls bs (redoB M 1 tl) f R by
              unfold redoB
              rw [if_pos rfl, if_neg (fun g => h0 (hiff.2 g))]
              exact hK10)
            have hbE : Hid (∀ i ∈ bs, w.heap.size ≤ i ∧ i < w10.heap.size) := fun i hi => by have := hbs.out i hi; omega
            have oE : Only [y] w4 w10 := ho.trans o5A (ds := [y]) (by simp) (by simp)
            clear hz hiff hK10 hK hd1 hs9 hc6 hr6 hc9 hr9 hS9 hS8 hB9 hD9 hD8 hD10 h0
            go_wp2
            go_roundw
            case rel => exact ⟨n + 1, _, by omega, by go_num, by rw [hsucc.out]; exact hKE.out, hbE, oE⟩
            case measure => simp [intOf]; omega
      · by_cases e2 : c = 2
        · subst e2
          have hqX : wr.cell? ⟨q, o, none⟩ = some (.int .u8 2) := hq
          clear hq
          by_cases hc1 : cap = 1
          · have hc2 : cap - 1 = 0 := by omega
            have hl0 : tl.length = 0 := by omega
            have hVB : Bs wr (.slice (some ⟨q, o, none⟩) 0 0) tl := (by rw [List.eq_nil_of_length_eq_zero hl0]; exact Bs.empty (by unfold maxLen; omega))
            obtain ⟨w5, hw5⟩ : ∃ w5, w5 = wr.alloc (Obj.cells #[.slice (some ⟨q, o, none⟩) 0 0, .int .i64 0, .int .i64 0] 93) := ⟨_, rfl⟩
            have o5 : Only [] wr w5 := by rw [hw5]; exact (Only.refl [] wr).alloc _
            have s5 : wr.heap.size < w5.heap.size := by rw [hw5]; simp
            obtain ⟨wb, hwb⟩ : ∃ wb, wb = wr.heap.size := ⟨_, rfl⟩
            have hqwb : q ≠ wb := by omega
            have hwb1 : wr.heap.size ≤ wb := by omega
            have hS5 : RfS w5 wb q tl 0 tl := by
              refine ⟨0, ⟨⟨.slice (some ⟨q, o, none⟩) 0 0, by rw [hw5, hwb]; simp [go_sem], hVB.kept0 o5, fun b hb => .inr (by simpa [Value.ownBlock] using hb.symm)⟩, hqwb, by rw [hw5, hwb]; simp [go_sem], by omega, by rw [hw5, hwb]; simp [go_sem], ?_⟩, fun _ => rfl⟩
              rw [hw5, hwb]
              refine ⟨?_, ?_, ?_⟩ <;> simp [go_sem]
            clear hVB
            have G1 := o5.cell hyc4 (by simp)
            have G2 := o5.cell hxr (by simp)
            have G3 := o5.cell c1 (by simp)
            have G4 := o5.cell hqX (by simp)
            rw [hw5] at G1 G2 G3 G4
            go_wp2_with fail
            rw [← hw5, ← hwb]
            rw [← hwb] at hwbK
            have hwbK' := hwbK
            clear hw5 hwb G1 G2 G3 G4
            have hwb2 := hS5.lt
            refine (rnumS_any wb q tl 0 tl w5 hS5 18446744073709551615 (by omega) htl).mono ?_
            rintro e w6 ⟨sl, rfl, hsl64, hn1, hn2, o6, c6, r6, hS6, hc6, hr6⟩
            have s6 := o6.size
            clear hn2
            go_wp2_with fail
            refine (rlistS_any wb q tl c6 r6 w6 hS6 htl (.inr (by omega)) 8 (by omega)).mono ?_
            rintro e w9 ⟨iv, ids, rfl, hown, hil, hids9, o9, c9, r9, hS9, hc9, hr9⟩
            have s9 := o9.size
            obtain ⟨va9, vc9, hiv9⟩ := own_form hown.1
            subst hiv9
            go_wp2_with fail
            refine (rendS_any wb q tl c9 r9 w9 hS9).mono ?_
            rintro e w10 ⟨z, rfl, hz, o10⟩
            have s10 := o10.size
            have oAll : Only [wb] wr w10 := ((o5.trans o6 (ds := [wb]) (by simp) (by simp)).trans o9 (ds := [wb]) (by simp) (by simp)).trans o10 (ds := [wb]) (by simp) (by simp)
            have o5A : Only [y] wr w10 := oAll.mono (fun i hi => .inr (by rw [List.mem_singleton.1 hi]; omega))
            have hK10 := hK.only oAll (fun i hi => by rw [List.mem_singleton.1 hi]; exact hwbK')
            have hiff : z = 0 ↔ (numL 18446744073709551615 tl).1 = 0 ∧ (listL 8 (numL 18446744073709551615 tl).2.2).1 = 0 ∧ (listL 8 (numL 18446744073709551615 tl).2.2).2.2 = [] := by
              rw [hz]
              constructor
              · rintro ⟨g1, g2⟩
                obtain ⟨g3, g4⟩ := hc9.1 g1
                have g5 := hr6 g3
                rw [hr9 g1, g5] at g2
                rw [g5] at g4
                exact ⟨(hc6.1 g3).2, g4, g2⟩
              · rintro ⟨g1, g2, g3⟩
                have g4 := hc6.2 ⟨by simp, g1⟩
                have g5 := hr6 g4
                rw [← g5] at g2 g3
                have g6 := hc9.2 ⟨g4, g2⟩
                exact ⟨g6, by rw [hr9 g6]; exact g3⟩
            have hown10 := hown.only o10 (fun i hi hm => by have := (hown.1.lt i hi).1; rw [List.mem_singleton] at hm; omega)
            by_cases h0 : z = 0
            · have g := hiff.1 h0
              have g4 := hc6.2 ⟨by simp, g.1⟩
              have hse : sl = (numL 18446744073709551615 tl).2.1 := hn1 ⟨by simp, g.1⟩
              have hie : ids = (listL 8 (numL 18446744073709551615 tl).2.2).2.1 := by
                have := hids9 ⟨g4, by rw [hr6 g4]; exact g.2.1⟩
                rw [this, hr6 g4]
              have hred := hid (show redoB M 2 tl = (commitK M sl ids).2 by
                unfold redoB
                rw [if_neg (by decide), if_pos rfl, if_pos g, ← hse, ← hie])
              have kp := hid (rcommit_any w10 y x ls bs M f R hK10 (fun i hi => by have := hLl.out i hi; omega) hMi.out sl hsl64 _ ids (hown10.dgs (by omega)) (fun i hi e => by have := (hown10.1.lt i hi).1; omega) (by omega))
              clear hse hie g4 hn1 hc6 hr6 hS6
              have hbs10 := hid (fun i (hi : i ∈ bs) => (by have := hbs.out i hi; omega : w.heap.size ≤ i ∧ i < w10.heap.size))
              subst h0
              clear hz hiff g hc9 hr9 hS9 hK10 hK hown hown10 hids9
              go_wp2_with fail
              refine kp.out.mono ?_
              rintro e w11 ⟨rfl, hK11, o11⟩
              have s11 := o11.size
              have hKE := hid (show RKp w11 y x ls (bs ++ newBs w10 w11) (redoB M 2 tl) f R by rw [hred.out]; exact hK11)
              have hbE : Hid (∀ i ∈ bs ++ newBs w10 w11, w.heap.size ≤ i ∧ i < w11.heap.size) := fun i hi => by
                rcases List.mem_append.1 hi with hi | hi
                · have := hbs10.out i hi; omega
                · have := mem_newBs.1 hi; omega
              have oE : Only [y] w4 w11 := (ho.trans o5A (ds := [y]) (by simp) (by simp)).trans o11 (ds := [y]) (by simp) (by simp)
              clear hK11 kp
              go_wp2
              go_roundw
              case rel => exact ⟨n + 1, _, by omega, by go_num, by rw [hsucc.out]; exact hKE.out, hbE, oE⟩
              case measure => simp [intOf]; omega
            · have hzz : ¬ ((z : Int) = 0) := by omega
              have hKE := hid (show RKp w10 y x ls bs (redoB M 2 tl) f R by
                unfold redoB
                rw [if_neg (by decide), if_pos rfl, if_neg (fun g => h0 (hiff.2 g))]
                exact hK10)
              have hbE : Hid (∀ i ∈ bs, w.heap.size ≤ i ∧ i < w10.heap.size) := fun i hi => by have := hbs.out i hi; omega
              have oE : Only [y] w4 w10 := ho.trans o5A (ds := [y]) (by simp) (by simp)
              clear hz hiff hK10 hK hc9 hr9 hS9 hown hown10 h0 hids9
              go_wp2
              go_roundw
              case rel => exact ⟨n + 1, _, by omega, by go_num, by rw [hsucc.out]; exact hKE.out, hbE, oE⟩
              case measure => simp [intOf]; omega
          · have hc2 : ¬ cap - 1 = 0 := by omega
            have hVB : Bs wr (.slice (some ⟨q, o + 1, none⟩) tl.length (cap - 1)) tl := htail
            obtain ⟨w5, hw5⟩ : ∃ w5, w5 = wr.alloc (Obj.cells #[.slice (some ⟨q, o + 1, none⟩) tl.length (cap - 1), .int .i64 0, .int .i64 0] 93) := ⟨_, rfl⟩
            have o5 : Only [] wr w5 := by rw [hw5]; exact (Only.refl [] wr).alloc _
            have s5 : wr.heap.size < w5.heap.size := by rw [hw5]; simp
            obtain ⟨wb, hwb⟩ : ∃ wb, wb = wr.heap.size := ⟨_, rfl⟩
            have hqwb : q ≠ wb := by omega
            have hwb1 : wr.heap.size ≤ wb := by omega
            have hS5 : RfS w5 wb q tl 0 tl := by
              refine ⟨0, ⟨⟨.slice (some ⟨q, o + 1, none⟩) tl.length (cap - 1), by rw [hw5, hwb]; simp [go_sem], hVB.kept0 o5, fun b hb => .inr (by simpa [Value.ownBlock] using hb.symm)⟩, hqwb, by rw [hw5, hwb]; simp [go_sem], by omega, by rw [hw5, hwb]; simp [go_sem], ?_⟩, fun _ => rfl⟩
              rw [hw5, hwb]
              refine ⟨?_, ?_, ?_⟩ <;> simp [go_sem]
            clear hVB
            have G1 := o5.cell hyc4 (by simp)
            have G2 := o5.cell hxr (by simp)
            have G3 := o5.cell c1 (by simp)
            have G4 := o5.cell hqX (by simp)
            rw [hw5] at G1 G2 G3 G4
            go_wp2_with fail
            rw [← hw5, ← hwb]
            rw [← hwb] at hwbK
            have hwbK' := hwbK
            clear hw5 hwb G1 G2 G3 G4
            have hwb2 := hS5.lt
            refine (rnumS_any wb q tl 0 tl w5 hS5 18446744073709551615 (by omega) htl).mono ?_
            rintro e w6 ⟨sl, rfl, hsl64, hn1, hn2, o6, c6, r6, hS6, hc6, hr6⟩
            have s6 := o6.size
            clear hn2
            go_wp2_with fail
            refine (rlistS_any wb q tl c6 r6 w6 hS6 htl (.inr (by omega)) 8 (by omega)).mono ?_
            rintro e w9 ⟨iv, ids, rfl, hown, hil, hids9, o9, c9, r9, hS9, hc9, hr9⟩
            have s9 := o9.size
            obtain ⟨va9, vc9, hiv9⟩ := own_form hown.1
            subst hiv9
            go_wp2_with fail
            refine (rendS_any wb q tl c9 r9 w9 hS9).mono ?_
            rintro e w10 ⟨z, rfl, hz, o10⟩
            have s10 := o10.size
            have oAll : Only [wb] wr w10 := ((o5.trans o6 (ds := [wb]) (by simp) (by simp)).trans o9 (ds := [wb]) (by simp) (by simp)).trans o10 (ds := [wb]) (by simp) (by simp)
            have o5A : Only [y] wr w10 := oAll.mono (fun i hi => .inr (by rw [List.mem_singleton.1 hi]; omega))
            have hK10 := hK.only oAll (fun i hi => by rw [List.mem_singleton.1 hi]; exact hwbK')
            have hiff : z = 0 ↔ (numL 18446744073709551615 tl).1 = 0 ∧ (listL 8 (numL 18446744073709551615 tl).2.2).1 = 0 ∧ (listL 8 (numL 18446744073709551615 tl).2.2).2.2 = [] := by
              rw [hz]
              constructor
              · rintro ⟨g1, g2⟩
                obtain ⟨g3, g4⟩ := hc9.1 g1
                have g5 := hr6 g3
                rw [hr9 g1, g5] at g2
                rw [g5] at g4
                exact ⟨(hc6.1 g3).2, g4, g2⟩
              · rintro ⟨g1, g2, g3⟩
                have g4 := hc6.2 ⟨by simp, g1⟩
                have g5 := hr6 g4
                rw [← g5] at g2 g3
                have g6 := hc9.2 ⟨g4, g2⟩
                exact ⟨g6, by rw [hr9 g6]; exact g3⟩
            have hown10 := hown.only o10 (fun i hi hm => by have := (hown.1.lt i hi).1; rw [List.mem_singleton] at hm; omega)
            by_cases h0 : z = 0
            · have g := hiff.1 h0
              have g4 := hc6.2 ⟨by simp, g.1⟩
              have hse : sl = (numL 18446744073709551615 tl).2.1 := hn1 ⟨by simp, g.1⟩
              have hie : ids = (listL 8 (numL 18446744073709551615 tl).2.2).2.1 := by
                have := hids9 ⟨g4, by rw [hr6 g4]; exact g.2.1⟩
                rw [this, hr6 g4]
              have hred := hid (show redoB M 2 tl = (commitK M sl ids).2 by
                unfold redoB
                rw [if_neg (by decide), if_pos rfl, if_pos g, ← hse, ← hie])
              have kp := hid (rcommit_any w10 y x ls bs M f R hK10 (fun i hi => by have := hLl.out i hi; omega) hMi.out sl hsl64 _ ids (hown10.dgs (by omega)) (fun i hi e => by have := (hown10.1.lt i hi).1; omega) (by omega))
              clear hse hie g4 hn1 hc6 hr6 hS6
              have hbs10 := hid (fun i (hi : i ∈ bs) => (by have := hbs.out i hi; omega : w.heap.size ≤ i ∧ i < w10.heap.size))
              subst h0
              clear hz hiff g hc9 hr9 hS9 hK10 hK hown hown10 hids9
              go_wp2_with fail
              refine kp.out.mono ?_
              rintro e w11 ⟨rfl, hK11, o11⟩
              have s11 := o11.size
              have hKE := hid (show RKp w11 y x ls (bs ++ newBs w10 w11) (redoB M 2 tl) f R by rw [hred.out]; exact hK11)
              have hbE : Hid (∀ i ∈ bs ++ newBs w10 w11, w.heap.size ≤ i ∧ i < w11.heap.size) := fun i hi => by
                rcases List.mem_append.1 hi with hi | hi
                · have := hbs10.out i hi; omega
                · have := mem_newBs.1 hi; omega
              have oE : Only [y] w4 w11 := (ho.trans o5A (ds := [y]) (by simp) (by simp)).trans o11 (ds := [y]) (by simp) (by simp)
              clear hK11 kp
              go_wp2
              go_roundw
              case rel => exact ⟨n + 1, _, by omega, by go_num, by rw [hsucc.out]; exact hKE.out, hbE, oE⟩
              case measure => simp [intOf]; omega
            · have hzz : ¬ ((z : Int) = 0) := by omega
              have hKE := hid (show RKp w10 y x ls bs (redoB M 2 tl) f R by
                unfold redoB
                rw [if_neg (by decide), if_pos rfl, if_neg (fun g => h0 (hiff.2 g))]
                exact hK10)
              have hbE : Hid (∀ i ∈ bs, w.heap.size ≤ i ∧ i < w10.heap.size) := fun i hi => by have := hbs.out i hi; omega
              have oE : Only [y] w4 w10 := ho.trans o5A (ds := [y]) (by simp) (by simp)
              clear hz hiff hK10 hK hc9 hr9 hS9 hown hown10 h0 hids9
              go_wp2
              go_roundw
              case rel => exact ⟨n + 1, _, by omega, by go_num, by rw [hsucc.out]; exact hKE.out, hbE, oE⟩
              case measure => simp [intOf]; omega
        · by_cases e3 : c = 3
          · subst e3
            have hqX : wr.cell? ⟨q, o, none⟩ = some (.int .u8 3) := hq
            clear hq
            by_cases hc1 : cap = 1
            · have hc2 : cap - 1 = 0 := by omega
              have hl0 : tl.length = 0 := by omega
              have hVB : Bs wr (.slice (some ⟨q, o, none⟩) 0 0) tl := (by rw [List.eq_nil_of_length_eq_zero hl0]; exact Bs.empty (by unfold maxLen; omega))
              obtain ⟨w5, hw5⟩ : ∃ w5, w5 = wr.alloc (Obj.cells #[.slice (some ⟨q, o, none⟩) 0 0, .int .i64 0, .int .i64 0] 93) := ⟨_, rfl⟩
              have o5 : Only [] wr w5 := by rw [hw5]; exact (Only.refl [] wr).alloc _
              have s5 : wr.heap.size < w5.heap.size := by rw [hw5]; simp
              obtain ⟨wb, hwb⟩ : ∃ wb, wb = wr.heap.size := ⟨_, rfl⟩
              have hqwb : q ≠ wb := by omega
              have hwb1 : wr.heap.size ≤ wb := by omega
              have hS5 : RfS w5 wb q tl 0 tl := by
                refine ⟨0, ⟨⟨.slice (some ⟨q, o, none⟩) 0 0, by rw [hw5, hwb]; simp [go_sem], hVB.kept0 o5, fun b hb => .inr (by simpa [Value.ownBlock] using hb.symm)⟩, hqwb, by rw [hw5, hwb]; simp [go_sem], by omega, by rw [hw5, hwb]; simp [go_sem], ?_⟩, fun _ => rfl⟩
                rw [hw5, hwb]
                refine ⟨?_, ?_, ?_⟩ <;> simp [go_sem]
              clear hVB
              have G1 := o5.cell hyc4 (by simp)
              have G2 := o5.cell hxr (by simp)
              have G3 := o5.cell c1 (by simp)
              have G4 := o5.cell hqX (by simp)
              rw [hw5] at G1 G2 G3 G4
              go_wp2_with fail
              rw [← hw5, ← hwb]
              rw [← hwb] at hwbK
              have hwbK' := hwbK
              clear hw5 hwb G1 G2 G3 G4
              have hwb2 := hS5.lt
              refine (rlistS_any wb q tl 0 tl w5 hS5 htl (.inr (by omega)) 24 (by omega)).mono ?_
              rintro e w9 ⟨iv, ids, rfl, hown, hil, hids9, o9, c9, r9, hS9, hc9, hr9⟩
              have s9 := o9.size
              obtain ⟨va9, vc9, hiv9⟩ := own_form hown.1
              subst hiv9
              go_wp2_with fail
              refine (rendS_any wb q tl c9 r9 w9 hS9).mono ?_
              rintro e w10 ⟨z, rfl, hz, o10⟩
              have s10 := o10.size
              have oAll : Only [wb] wr w10 := (o5.trans o9 (ds := [wb]) (by simp) (by simp)).trans o10 (ds := [wb]) (by simp) (by simp)
              have o5A : Only [y] wr w10 := oAll.mono (fun i hi => .inr (by rw [List.mem_singleton.1 hi]; omega))
              have hK10 := hK.only oAll (fun i hi => by rw [List.mem_singleton.1 hi]; exact hwbK')
              have hiff : z = 0 ↔ (listL 24 tl).1 = 0 ∧ (listL 24 tl).2.2 = [] := by
                rw [hz]
                constructor
                · rintro ⟨g1, g2⟩
                  rw [hr9 g1] at g2
                  exact ⟨(hc9.1 g1).2, g2⟩
                · rintro ⟨g1, g2⟩
                  have g6 := hc9.2 ⟨by simp, g1⟩
                  exact ⟨g6, by rw [hr9 g6]; exact g2⟩
              have hown10 := hown.only o10 (fun i hi hm => by have := (hown.1.lt i hi).1; rw [List.mem_singleton] at hm; omega)
              by_cases h0 : z = 0
              · have g := hiff.1 h0
                have hie : ids = (listL 24 tl).2.1 := hids9 ⟨by simp, g.1⟩
                have hred := hid (show redoB M 3 tl = (forgetK M ids).2 by
                  unfold redoB
                  rw [if_neg (by decide), if_neg (by decide), if_pos rfl, if_pos g, ← hie])
                have kp := hid (rforget_any w10 y x ls bs M f R hK10 (fun i hi => by have := hLl.out i hi; omega) (fun i hi => by have := hbs.out i hi; omega) hMi.out _ ids (hown10.dgs (by omega)) (fun i hi e => by have := (hown10.1.lt i hi).1; omega) (by omega))
                clear hie
                have hbs10 := hid (fun i (hi : i ∈ bs) => (by have := hbs.out i hi; omega : w.heap.size ≤ i ∧ i < w10.heap.size))
                subst h0
                clear hz hiff g hc9 hr9 hS9 hK10 hK hown hown10 hids9
                go_wp2_with fail
                refine kp.out.mono ?_
                rintro e w11 ⟨rfl, hK11, o11⟩
                have s11 := o11.size
                have hKE := hid (show RKp w11 y x ls (bs ++ newBs w10 w11) (redoB M 3 tl) f R by rw [hred.out]; exact hK11)
                have hbE : Hid (∀ i ∈ bs ++ newBs w10 w11, w.heap.size ≤ i ∧ i < w11.heap.size) := fun i hi => by
                  rcases List.mem_append.1 hi with hi | hi
                  · have := hbs10.out i hi; omega
                  · have := mem_newBs.1 hi; omega
                have oE : Only [y] w4 w11 := (ho.trans o5A (ds := [y]) (by simp) (by simp)).trans o11 (ds := [y]) (by simp) (by simp)
                clear hK11 kp
                go_wp2
                go_roundw
                case rel => exact ⟨n + 1, _, by omega, by go_num, by rw [hsucc.out]; exact hKE.out, hbE, oE⟩
                case measure => simp [intOf]; omega
              · have hzz : ¬ ((z : Int) = 0) := by omega
                have hKE := hid (show RKp w10 y x ls bs (redoB M 3 tl) f R by
                  unfold redoB
                  rw [if_neg (by decide), if_neg (by decide), if_pos rfl, if_neg (fun g => h0 (hiff.2 g))]
                  exact hK10)
                have hbE : Hid (∀ i ∈ bs, w.heap.size ≤ i ∧ i < w10.heap.size) := fun i hi => by have := hbs.out i hi; omega
                have oE : Only [y] w4 w10 := ho.trans o5A (ds := [y]) (by simp) (by simp)
                clear hz hiff hK10 hK hc9 hr9 hS9 hown hown10 h0 hids9
                go_wp2
                go_roundw
                case rel => exact ⟨n + 1, _, by omega, by go_num, by rw [hsucc.out]; exact hKE.out, hbE, oE⟩
                case measure => simp [intOf]; omega
            · have hc2 : ¬ cap - 1 = 0 := by omega
              have hVB : Bs wr (.slice (some ⟨q, o + 1, none⟩) tl.length (cap - 1)) tl := htail
              obtain ⟨w5, hw5⟩ : ∃ w5, w5 = wr.alloc (Obj.cells #[.slice (some ⟨q, o + 1, none⟩) tl.length (cap - 1), .int .i64 0, .int .i64 0] 93) := ⟨_, rfl⟩
              have o5 : Only [] wr w5 := by rw [hw5]; exact (Only.refl [] wr).alloc _
              have s5 : wr.heap.size < w5.heap.size := by rw [hw5]; simp
              obtain ⟨wb, hwb⟩ : ∃ wb, wb = wr.heap.size := ⟨_, rfl⟩
              have hqwb : q ≠ wb := by omega
              have hwb1 : wr.heap.size ≤ wb := by omega
              have hS5 : RfS w5 wb q tl 0 tl := by
                refine ⟨0, ⟨⟨.slice (some ⟨q, o + 1, none⟩) tl.length (cap - 1), by rw [hw5, hwb]; simp [go_sem], hVB.kept0 o5, fun b hb => .inr (by simpa [Value.ownBlock] using hb.symm)⟩, hqwb, by rw [hw5, hwb]; simp [go_sem], by omega, by rw [hw5, hwb]; simp [go_sem], ?_⟩, fun _ => rfl⟩
                rw [hw5, hwb]
                refine ⟨?_, ?_, ?_⟩ <;> simp [go_sem]
              clear hVB
              have G1 := o5.cell hyc4 (by simp)
              have G2 := o5.cell hxr (by simp)
              have G3 := o5.cell c1 (by simp)
              have G4 := o5.cell hqX (by simp)
              rw [hw5] at G1 G2 G3 G4
              go_wp2_with fail
              rw [← hw5, ← hwb]
              rw [← hwb] at hwbK
              have hwbK' := hwbK
              clear hw5 hwb G1 G2 G3 G4
              have hwb2 := hS5.lt
              refine (rlistS_any wb q tl 0 tl w5 hS5 htl (.inr (by omega)) 24 (by omega)).mono ?_
              rintro e w9 ⟨iv, ids, rfl, hown, hil, hids9, o9, c9, r9, hS9, hc9, hr9⟩
              have s9 := o9.size
              obtain ⟨va9, vc9, hiv9⟩ := own_form hown.1
              subst hiv9
              go_wp2_with fail
              refine (rendS_any wb q tl c9 r9 w9 hS9).mono ?_
              rintro e w10 ⟨z, rfl, hz, o10⟩
              have s10 := o10.size
              have oAll : Only [wb] wr w10 := (o5.trans o9 (ds := [wb]) (by simp) (by simp)).trans o10 (ds := [wb]) (by simp) (by simp)
              have o5A : Only [y] wr w10 := oAll.mono (fun i hi => .inr (by rw [List.mem_singleton.1 hi]; omega))
              have hK10 := hK.only oAll (fun i hi => by rw [List.mem_singleton.1 hi]; exact hwbK')
              have hiff : z = 0 ↔ (listL 24 tl).1 = 0 ∧ (listL 24 tl).2.2 = [] := by
                rw [hz]
                constructor
                · rintro ⟨g1, g2⟩
                  rw [hr9 g1] at g2
                  exact ⟨(hc9.1 g1).2, g2⟩
                · rintro ⟨g1, g2⟩
                  have g6 := hc9.2 ⟨by simp, g1⟩
                  exact ⟨g6, by rw [hr9 g6]; exact g2⟩
              have hown10 := hown.only o10 (fun i hi hm => by have := (hown.1.lt i hi).1; rw [List.mem_singleton] at hm; omega)
              by_cases h0 : z = 0
              · have g := hiff.1 h0
                have hie : ids = (listL 24 tl).2.1 := hids9 ⟨by simp, g.1⟩
                have hred := hid (show redoB M 3 tl = (forgetK M ids).2 by
                  unfold redoB
                  rw [if_neg (by decide), if_neg (by decide), if_pos rfl, if_pos g, ← hie])
                have kp := hid (rforget_any w10 y x ls bs M f R hK10 (fun i hi => by have := hLl.out i hi; omega) (fun i hi => by have := hbs.out i hi; omega) hMi.out _ ids (hown10.dgs (by omega)) (fun i hi e => by have := (hown10.1.lt i hi).1; omega) (by omega))
                clear hie
                have hbs10 := hid (fun i (hi : i ∈ bs) => (by have := hbs.out i hi; omega : w.heap.size ≤ i ∧ i < w10.heap.size))
                subst h0
                clear hz hiff g hc9 hr9 hS9 hK10 hK hown hown10 hids9
                go_wp2_with fail
                refine kp.out.mono ?_
                rintro e w11 ⟨rfl, hK11, o11⟩
                have s11 := o11.size
                have hKE := hid (show RKp w11 y x ls (bs ++ newBs w10 w11) (redoB M 3 tl) f R by rw [hred.out]; exact hK11)
                have hbE : Hid (∀ i ∈ bs ++ newBs w10 w11, w.heap.size ≤ i ∧ i < w11.heap.size) := fun i hi => by
                  rcases List.mem_append.1 hi with hi | hi
                  · have := hbs10.out i hi; omega
                  · have := mem_newBs.1 hi; omega
                have oE : Only [y] w4 w11 := (ho.trans o5A (ds := [y]) (by simp) (by simp)).trans o11 (ds := [y]) (by simp) (by simp)
                clear hK11 kp
                go_wp2
                go_roundw
                case rel => exact ⟨n + 1, _, by omega, by go_num, by rw [hsucc.out]; exact hKE.out, hbE, oE⟩
                case measure => simp [intOf]; omega
              · have hzz : ¬ ((z : Int) = 0) := by omega
                have hKE := hid (show RKp w10 y x ls bs (redoB M 3 tl) f R by
                  unfold redoB
                  rw [if_neg (by decide), if_neg (by decide), if_pos rfl, if_neg (fun g => h0 (hiff.2 g))]
                  exact hK10)
                have hbE : Hid (∀ i ∈ bs, w.heap.size ≤ i ∧ i < w10.heap.size) := fun i hi => by have := hbs.out i hi; omega
                have oE : Only [y] w4 w10 := ho.trans o5A (ds := [y]) (by simp) (by simp)
                clear hz hiff hK10 hK hc9 hr9 hS9 hown hown10 h0 hids9
                go_wp2
                go_roundw
                case rel => exact ⟨n + 1, _, by omega, by go_num, by rw [hsucc.out]; exact hKE.out, hbE, oE⟩
                case measure => simp [intOf]; omega
          · have hqX : wr.cell? ⟨q, o, none⟩ = some (.int .u8 (c.toNat : Int)) := hq
            clear hq
            by_cases hc1 : cap = 1
            · have hc2 : cap - 1 = 0 := by omega
              have hl0 : tl.length = 0 := by omega
              have hVB : Bs wr (.slice (some ⟨q, o, none⟩) 0 0) tl := (by rw [List.eq_nil_of_length_eq_zero hl0]; exact Bs.empty (by unfold maxLen; omega))
              obtain ⟨w5, hw5⟩ : ∃ w5, w5 = wr.alloc (Obj.cells #[.slice (some ⟨q, o, none⟩) 0 0, .int .i64 0, .int .i64 0] 93) := ⟨_, rfl⟩
              have o5 : Only [] wr w5 := by rw [hw5]; exact (Only.refl [] wr).alloc _
              have s5 : wr.heap.size < w5.heap.size := by rw [hw5]; simp
              obtain ⟨wb, hwb⟩ : ∃ wb, wb = wr.heap.size := ⟨_, rfl⟩
              have hqwb : q ≠ wb := by omega
              have hwb1 : wr.heap.size ≤ wb := by omega
              have hS5 : RfS w5 wb q tl 0 tl := by
                refine ⟨0, ⟨⟨.slice (some ⟨q, o, none⟩) 0 0, by rw [hw5, hwb]; simp [go_sem], hVB.kept0 o5, fun b hb => .inr (by simpa [Value.ownBlock] using hb.symm)⟩, hqwb, by rw [hw5, hwb]; simp [go_sem], by omega, by rw [hw5, hwb]; simp [go_sem], ?_⟩, fun _ => rfl⟩
                rw [hw5, hwb]
                refine ⟨?_, ?_, ?_⟩ <;> simp [go_sem]
              clear hVB
              have G1 := o5.cell hyc4 (by simp)
              have G2 := o5.cell hxr (by simp)
              have G3 := o5.cell c1 (by simp)
              have G4 := o5.cell hqX (by simp)
              rw [hw5] at G1 G2 G3 G4
              have hKE := hid (show RKp w5 y x ls bs (redoB M c tl) f R by
                unfold redoB
                rw [if_neg e1, if_neg e2, if_neg e3]
                exact hK.kept0 o5)
              have hbE : Hid (∀ i ∈ bs, w.heap.size ≤ i ∧ i < w5.heap.size) := fun i hi => by have := hbs.out i hi; omega
              have oE : Only [y] w4 w5 := ho.trans o5 (ds := [y]) (by simp) (by simp)
              have n1 : ¬ ((c.toNat : Int) = 1) := fun h9 => e1 (UInt8.toNat_inj.1 (by show c.toNat = 1; omega))
              have n2 : ¬ ((c.toNat : Int) = 2) := fun h9 => e2 (UInt8.toNat_inj.1 (by show c.toNat = 2; omega))
              have n3 : ¬ ((c.toNat : Int) = 3) := fun h9 => e3 (UInt8.toNat_inj.1 (by show c.toNat = 3; omega))
              clear hK hS5
              go_wp2
              rw [← hw5]
              clear hw5 G1 G2 G3 G4
              go_roundw
              case rel => exact ⟨n + 1, _, by omega, by go_num, by rw [hsucc.out]; exact hKE.out, hbE, oE⟩
              case measure => simp [intOf]; omega
            · have hc2 : ¬ cap - 1 = 0 := by omega
              have hVB : Bs wr (.slice (some ⟨q, o + 1, none⟩) tl.length (cap - 1)) tl := htail
              obtain ⟨w5, hw5⟩ : ∃ w5, w5 = wr.alloc (Obj.cells #[.slice (some ⟨q, o + 1, none⟩) tl.length (cap - 1), .int .i64 0, .int .i64 0] 93) := ⟨_, rfl⟩
              have o5 : Only [] wr w5 := by rw [hw5]; exact (Only.refl [] wr).alloc _
              have s5 : wr.heap.size < w5.heap.size := by rw [hw5]; simp
              obtain ⟨wb, hwb⟩ : ∃ wb, wb = wr.heap.size := ⟨_, rfl⟩
              have hqwb : q ≠ wb := by omega
              have hwb1 : wr.heap.size ≤ wb := by omega
              have hS5 : RfS w5 wb q tl 0 tl := by
                refine ⟨0, ⟨⟨.slice (some ⟨q, o + 1, none⟩) tl.length (cap - 1), by rw [hw5, hwb]; simp [go_sem], hVB.kept0 o5, fun b hb => .inr (by simpa [Value.ownBlock] using hb.symm)⟩, hqwb, by rw [hw5, hwb]; simp [go_sem], by omega, by rw [hw5, hwb]; simp [go_sem], ?_⟩, fun _ => rfl⟩
                rw [hw5, hwb]
                refine ⟨?_, ?_, ?_⟩ <;> simp [go_sem]
              clear hVB
              have G1 := o5.cell hyc4 (by simp)
              have G2 := o5.cell hxr (by simp)
              have G3 := o5.cell c1 (by simp)
              have G4 := o5.cell hqX (by simp)
              rw [hw5] at G1 G2 G3 G4
              have hKE := hid (show RKp w5 y x ls bs (redoB M c tl) f R by
                unfold redoB
                rw [if_neg e1, if_neg e2, if_neg e3]
                exact hK.kept0 o5)
              have hbE : Hid (∀ i ∈ bs, w.heap.size ≤ i ∧ i < w5.heap.size) := fun i hi => by have := hbs.out i hi; omega
              have oE : Only [y] w4 w5 := ho.trans o5 (ds := [y]) (by simp) (by simp)
              have n1 : ¬ ((c.toNat : Int) = 1) := fun h9 => e1 (UInt8.toNat_inj.1 (by show c.toNat = 1; omega))
              have n2 : ¬ ((c.toNat : Int) = 2) := fun h9 => e2 (UInt8.toNat_inj.1 (by show c.toNat = 2; omega))
              have n3 : ¬ ((c.toNat : Int) = 3) := fun h9 => e3 (UInt8.toNat_inj.1 (by show c.toNat = 3; omega))
              clear hK hS5
              go_wp2
              rw [← hw5]
              clear hw5 G1 G2 G3 G4
              go_roundw
              case rel => exact ⟨n + 1, _, by omega, by go_num, by rw [hsucc.out]; exact hKE.out, hbE, oE⟩
              case measure => simp [intOf]; omega
    · obtain rfl : n = R.length := by omega
      rw [List.take_length] at hK
      have hfin : Hid (∃ y', Ending.returned (.pointer (some ⟨y, 0, none⟩)) = .returned (.pointer (some ⟨y', 0, none⟩)) ∧ RKB wr y' R (newBs w wr) ∧ Only [] w wr) := by
        have hK2 := hK
        rw [HF.out] at hK2
        exact ⟨y, rfl, ⟨x, ls, bs, hK2, ⟨mem_newBs.2 ⟨hyw, by omega⟩, fun i hi => mem_newBs.2 (by have := hLl.out i hi; omega), fun i hi => mem_newBs.2 (hbs.out i hi)⟩, fun i hi => (mem_newBs.1 hi).2, hrl.out⟩, o14.trans ho (ds := []) (by simp) (by simp; omega)⟩
      clear hK hK4
      go_wp2
      go_ret
      exact hfin.out
end Go.Proofs.Ytnlmeaijnfjakaa.Sh
