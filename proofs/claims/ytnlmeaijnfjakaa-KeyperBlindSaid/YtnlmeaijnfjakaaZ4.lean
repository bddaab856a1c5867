/- Texts of this proof, merged: KpM, KpN, KpO, KpP. -/
import Derived.Test.YtnlmeaijnfjakaaZ3
import Derived.Test.YtnlmeaijnfjakaaStepApp
import Derived.Great.BuildSlice
/- The keyper, whole: an order committed, shares told: walked. -/
namespace Go.Proofs.Ytnlmeaijnfjakaa.Sh
set_option linter.unusedSimpArgs false
set_option linter.unusedVariables false
open Go Go.RowKit

/-- The shares of names. -/
def outL (sh : List (List UInt8 × List UInt8)) (ids : List (List UInt8)) : List (List UInt8) := ids.map (fun d => (getS sh d).getD [])
/-- Names that no block of the keyper holds. -/
theorem Dgs.only {w w' : World} {B : List Nat} {v : Value} {l : List (List UInt8)} (h : Dgs w v l) (hv : ∀ i, v.ownBlock = some i → l = [] ∨ i ∉ B) (ho : Only B w w') : Dgs w' v l := by
  by_cases hl : l = []
  · subst hl
    obtain ⟨⟨hl0, a, cap, rfl, h1, h2, h3, h4⟩, h5⟩ := h
    exact ⟨⟨hl0, a, cap, rfl, h1, h2, h3, .inl rfl⟩, h5⟩
  · exact h.kept ho (fun b hb => (hv b hb).resolve_left hl)

def mcommitR (rs : List (List UInt8)) (slot : Nat) (ids : List (List UInt8)) : List (List UInt8) := if (commitK (openK rs) slot ids).1.1 = true then rs ++ [rec2 slot ids] else rs
def mcommitL (rs : List (List UInt8)) (slot : Nat) (ids : List (List UInt8)) : List (List UInt8) := if (commitK (openK rs) slot ids).1.2 = 0 then outL (openK rs).sh ids else []
def MCommitPost (W : World) (k : Nat) (B : List Nat) (c : Nat) (L rs : List (List UInt8)) (e : Ending) (w' : World) : Prop :=
  ∃ ov V, e = .returned (.tuple #[ov, .int .i64 (c : Int)]) ∧ KB w' k rs (B ++ newBs W V) ∧ OwnBss V.heap.size w' ov L ∧ W.heap.size ≤ V.heap.size ∧ V.heap.size ≤ w'.heap.size ∧ Only B W w'
theorem commitK_ne {m : Km} {slot : Nat} {ids : List (List UInt8)} (h : (commitK m slot ids).1.1 = false) : (commitK m slot ids).2 = m := by
  unfold commitK at h ⊢
  split
  · rfl
  · rename_i h1
    rw [if_neg h1] at h
    split
    · rfl
    · rename_i h2
      rw [if_neg h2] at h
      split
      · split <;> rfl
      · rename_i h3
        rw [if_neg h3] at h
        cases h
theorem commitK_sh (m : Km) (slot : Nat) (ids : List (List UInt8)) : (commitK m slot ids).2.sh = m.sh := by
  unfold commitK
  split
  · rfl
  · split
    · rfl
    · split
      · split <;> rfl
      · rfl
theorem commitK_good {m : Km} {slot : Nat} {ids : List (List UInt8)} (h : (commitK m slot ids).1.2 = 0) : ids.length ≤ 8 := by
  unfold commitK at h
  split at h
  · cases h
  · rename_i h1
    omega
theorem commitK_fresh {m : Km} {slot : Nat} {ids : List (List UInt8)} (h : (commitK m slot ids).1.1 = true) : (commitK m slot ids).1.2 = 0 := by
  unfold commitK at h ⊢
  split at h
  · cases h
  · rename_i h1
    rw [if_neg h1]
    split at h
    · cases h
    · rename_i h2
      rw [if_neg h2]
      split at h
      · split at h <;> cases h
      · rename_i h3
        rw [if_neg h3]

set_option maxRecDepth 20000 in
set_option maxHeartbeats 3200000 in
theorem mcommit_any (W : World) (k : Nat) (rs : List (List UInt8)) (B : List Nat) (h : KB W k rs B) (slot : Nat) (hslot : slot < 18446744073709551616) (u : Value) (ids : List (List UInt8)) (hu : Dgs W u ids) (huB : ∀ i, u.ownBlock = some i → ids = [] ∨ i ∉ B) (hf : (flatL rs).length ≤ 300000) (hrs : rs.length ≤ 100000) :
    Calls Try.prog 15 #[.pointer (some ⟨k, 0, none⟩), .int .u64 (slot : Int), u] W (MCommitPost W k B (commitK (openK rs) slot ids).1.2 (mcommitL rs slot ids) (mcommitR rs slot ids)) := by
  obtain ⟨ua, uc, rfl, u1, u2, u3⟩ := hu.form
  have hda := Try.underlying35
  obtain ⟨x, mb, ls, ss, hK, ⟨b1, b2, b3, b4⟩, b5, b6⟩ := h
  have cm := hid (commit_any W k x mb ls ss _ _ _ hK (fun i hi => b5 i (b3 i hi)) (open_inv rs) slot hslot _ ids hu)
  have HCI := hid (commit_inv (open_inv rs) slot ids hslot hu.2)
  have HSH := hid (commitK_sh (openK rs) slot ids)
  have HNE := hid (fun h9 => commitK_ne (m := openK rs) (slot := slot) (ids := ids) h9)
  have HGD := hid (fun h9 => commitK_good (m := openK rs) (slot := slot) (ids := ids) h9)
  have HFR := hid (fun h9 => commitK_fresh (m := openK rs) (slot := slot) (ids := ids) h9)
  obtain ⟨RS, hRS⟩ : ∃ RS, RS = mcommitR rs slot ids := ⟨_, rfl⟩
  obtain ⟨LL, hLL⟩ : ∃ LL, LL = mcommitL rs slot ids := ⟨_, rfl⟩
  have hRS2 := hRS
  have hLL2 := hLL
  unfold mcommitR at hRS2
  unfold mcommitL at hLL2
  rw [← hRS, ← hLL]
  have HRD := hid (fun h8 => redo_rec2 (openK rs) slot ids hslot hu.2 h8)
  obtain ⟨r, hr⟩ : ∃ r, r = commitK (openK rs) slot ids := ⟨_, rfl⟩
  rw [← hr] at cm hRS2 hLL2 HCI HSH HNE HGD HFR HRD ⊢
  have HRS := hid hRS2
  have HLL := hid hLL2
  clear hr hRS hLL hRS2 hLL2
  obtain ⟨⟨fr, c⟩, m'⟩ := r
  simp only
  go_enter Try.func15, Try.ntmps15
  go_wp2_with fail
  refine cm.out.mono ?_
  rintro e w2 ⟨rfl, hK2, q2⟩
  have O2 : Only B W w2 := q2.mono (fun y hy => .inl (by rw [List.mem_singleton.1 hy]; exact b1))
  have z2 := q2.size
  have hss2 : ∀ i ∈ ss ++ newBs W w2, (i ∈ B ∨ W.heap.size ≤ i) ∧ i < w2.heap.size := by
    intro i hi
    rcases List.mem_append.1 hi with hi | hi
    · exact ⟨.inl (b4 i hi), by have := b5 i (b4 i hi); omega⟩
    · have := mem_newBs.1 hi
      exact ⟨.inr (by omega), by omega⟩
  by_cases hc : c = 0
  · have HI := HCI
    cases fr with
    | true =>
      subst hc
      have hids8 : ids.length ≤ 8 := HGD.out rfl
      have HM := hid (show m' = openK (rs ++ [rec2 slot ids]) by rw [openK_snoc, HRD.out hids8])
      have own0 := own_built w2 [.int .u8 2] 5 1 1 rfl (by unfold maxLen; omega)
      have so : Only [] w2 (w2.alloc (Obj.cells #[.int .u8 2] 5)) := (Only.refl [] w2).alloc _
      have hu2 := hu.only huB O2
      have hnl := numB_few slot hslot
      have pm := putNum_any _ [2] slot w2.heap.size _ own0 (by simp) hslot so.size
      obtain ⟨z, hz⟩ : ∃ z, z = ([2] ++ numB slot : List UInt8) := ⟨_, rfl⟩
      have hzl : z.length ≤ 11 := by rw [hz, List.length_append]; simp only [List.length_cons, List.length_nil]; omega
      rw [← hz] at pm
      have pn := fun w4 v4 (q : Only [] w2 w4) (o : Ob w2.heap.size w4 v4 z) => putNames_any w2 w4 v4 _ z ids w2.heap.size q (Nat.le_refl _) o (by omega) q.size hu2 (by omega)
      obtain ⟨y, hy⟩ : ∃ y, y = z ++ namesB ids := ⟨_, rfl⟩
      simp only [← hy] at pn
      have hyr : y = rec2 slot ids := by rw [hy, hz]; simp [rec2]
      have hyl : y.length ≤ 1000 ∧ 1 ≤ y.length := by
        have := namesB_len ids hu.2 (by omega)
        have h2 : 1 ≤ z.length := by rw [hz]; simp
        rw [hy, List.length_append]
        omega
      have HYR := hid hyr
      rw [← hyr] at HM
      replace pm := hid pm
      replace pn := hid pn
      clear hz hy hyr cm own0
      go_wp2_with fail
      refine pm.out.mono ?_
      rintro e w4 ⟨v4, rfl, own4, app4⟩
      have q4 : Only [] w2 w4 := so.app app4 (fun i hi => .inr (by simp [Value.ownBlock] at hi; omega))
      obtain ⟨xa, xc, rfl⟩ := own_form own4
      go_wp2_with fail
      refine (pn.out _ _ q4 own4).mono ?_
      rintro e w5 ⟨v5, rfl, own5, q5⟩
      have z5 := q5.size
      obtain ⟨ya, yc, rfl⟩ := own_form own5
      have hK5 := hK2.kept0 q5
      have kw := hid (kwrite_any w5 k x mb ls (ss ++ newBs W w2) m' (flatL rs) rs hK5 (fun i hi => by have := b5 i (b3 i hi); omega) (fun i hi => by have := (hss2 i hi).2; omega) _ y (Cs.of_own own5 (by omega)) (fun i hi hm => by have := (own5.lt i hi).1; have := b5 i (b3 i hm); omega) hyl.2 hyl.1 hf (by omega))
      have O5 : Only B W w5 := O2.trans q5 (fun y hy => hy) (by simp)
      clear pm pn own5 own4 app4 hK2 hK5
      go_wp2_with fail
      refine kw.out.mono ?_
      rintro e V ⟨rfl, ⟨ls', hKV, hl6, hl6'⟩, q6⟩
      have z6 := q6.size
      have hOV : Only B W V := O5.trans q6 (fun y hy => hy) (fun y hy => .inl (b3 y hy))
      have zV : W.heap.size ≤ V.heap.size := by omega
      have hKs := huB
      have hKBV : KB V k RS (B ++ newBs W V) := by
        have e2 : RS = rs ++ [y] := by rw [HRS.out, HYR.out]; simp
        rw [e2]
        refine KB.mk hKV HM.out ⟨hyl.2, hyl.1⟩ b6 b1 b2 (fun i hi => ⟨?_, hl6' i hi⟩) (fun i hi => ⟨(hss2 i hi).1, by have := (hss2 i hi).2; omega⟩) (fun i hi => by have := b5 i hi; omega)
        rcases hl6 i hi with h | h
        · exact .inl (b3 i h)
        · exact .inr (by omega)
      have hLLV : LL = outL m'.sh ids := by rw [HLL.out]; simp only [if_true]; rw [HSH.out]
      replace hKBV := hid hKBV
      replace hLLV := hid hLLV
      clear hl6 hl6' kw
      have hkm := hKV.c1
      have hgS := hid (fun (d : List UInt8) (hd : d.length = 32) => (show ∃ v s, (∀ U, Only [] V U → (Instr.lookup 75 (.map (some mb)) (.agg (bytes d).toArray) false).run Try.prog U = .ok v U) ∧ Bs V v s ∧ s = (getS m'.sh d).getD [] ∧ s.length ≤ 32 by
        cases hgs : getS m'.sh d with
        | none => exact ⟨.slice none 0 0, [], fun U hU => (hKV.shs.kept0 hU).look_none hd hgs false, Bs.empty (by unfold maxLen; omega), rfl, by simp⟩
        | some s =>
          obtain ⟨v, hY, hlk⟩ := hKV.shs.look_some HI.out.keys hd hgs
          exact ⟨v, s, fun U hU => hlk U hU false, hY.1, rfl, (HI.out.len _ (getS_some hgs)).2.2⟩))
      have huV := hu.only hKs hOV
      go_wp2_with fail
      go_loopw [10, 35] (fun out i wr => ∃ j : Nat, j ≤ ids.length ∧ i = .int .i64 j ∧ Hid (OwnBss V.heap.size wr out (outL m'.sh (ids.take j))) ∧ Only [] V wr) (fun _ i _ => ids.length - (intOf i).toNat)
      case atStart => exact ⟨0, Nat.zero_le _, rfl, hid ⟨[], World.ownsRow_nil _ _ _ _, .nil⟩, Only.refl _ _⟩
      case round =>
        obtain ⟨j, hj, rfl, hout, ho⟩ := hrel
        by_cases hlt : j < ids.length
        · obtain ⟨b, o, rfl, hr⟩ := (huV.kept0 ho).at j hlt
          have hl32 := huV.2 ids[j] (List.getElem_mem hlt)
          have hts : outL m'.sh (ids.take (j + 1)) = outL m'.sh (ids.take j) ++ [(getS m'.sh ids[j]).getD []] := by unfold outL; rw [List.take_succ_eq_append_getElem hlt, List.map_append]; rfl
          obtain ⟨d, hd⟩ : ∃ d, d = ids[j] := ⟨_, rfl⟩
          rw [← hd] at hr hl32 hts
          have hin : (Try.prog.info? 35).map (·.size) = some (bytes d).length := by rw [dig_info]; simp [bytes, hl32]
          obtain ⟨sv, s, hlk, hsv, hse, hsl⟩ := hgS.out d hl32
          rw [← hse] at hts
          have HTS := hid hts
          obtain ⟨vs, hvs, hels⟩ := hout.out
          have htl : (outL m'.sh (ids.take j)).length = j := by unfold outL; simp; omega
          rw [htl] at hvs
          obtain ⟨outa, outc, rfl⟩ := own_form hvs
          have hrow := hid (fun i (hi : (Value.slice outa j outc).ownBlock = some i) => hvs.lt i hi)
          clear hts hd hse htl
          have oz : Only [] wr (wr.alloc (Obj.cells Z32 35)) := (Only.refl [] wr).alloc _
          have hth := (Dv.fresh wr 35).there
          go_wp2_with (first
            | (refine wpList_load_mid (by rfl) 35 _ (by rfl) b (o + j * 32) (by rfl) _ _ hr hda rfl hin ?_)
            | (refine wpList_alloc_run (by rfl) 35 (by rfl) (alloc_dig _) ?_)
            | (refine wpList_store_dig (by rfl) _ _ (by rfl) wr.heap.size d (bytes d).toArray (by rfl) (by rfl) rfl hl32 hth ?_; intro w2 hD2 q2))
          simp only [Act.put, List.setIfInBounds_toArray, List.set_cons_zero, List.set_cons_succ]
          have q3 : Only [] wr w2 := oz.trans q2 (by simp) (fun y hy => .inr (by rw [List.mem_singleton.1 hy]; exact Nat.le_refl _))
          have qV : Only [] V w2.drew := (ho.trans0 q3).drew
          have od : Only [] wr w2.drew := q3.drew
          have hrd : w2.drew.rangeAt wr.heap.size 0 (bytes d) := hD2.range
          have hkd := qV.cell hkm (by simp)
          obtain ⟨sa, sc, rfl⟩ := bs_form hsv
          have cl := hid (clone_any _ s w2.drew (hsv.kept0 qV) (by omega))
          have hvs2 := own_only0 hvs od
          have hels2 := hels.imp (fun u x (h : wr.ownsRow V.heap.size 5 1 u x.length (bytes x) ∧ x.length ≤ 9223372036854775807) => (show w2.drew.ownsRow V.heap.size 5 1 u x.length (bytes x) ∧ x.length ≤ 9223372036854775807 from ⟨own_only0 h.1 od, h.2⟩))
          have hlkd := hid hlk
          have szV := ho.size
          have szw := q3.size
          replace hels2 := hid hels2
          clear hout hvs hels hr hth hD2 q2 hsv hlk
          go_region_held3 (fun U => U.cell? ⟨k, 1, none⟩ = some (.map (some mb)) ∧ U.rangeAt wr.heap.size 0 (bytes d) ∧ (Instr.lookup 75 (.map (some mb)) (.agg (bytes d).toArray) false).run Try.prog U = .ok (.slice sa s.length sc) U)
            (first
            | exact ⟨hkd, hrd, hlkd.out _ qV⟩
            | exact ⟨p3.cell hkd (by simp), fun j u hj => p3.cell (hrd j u hj) (by simp), hlkd.out _ (qV.trans0 p3)⟩
            | exact ⟨(p3.alloc _).cell hkd (by simp), fun j u hj => (p3.alloc _).cell (hrd j u hj) (by simp), hlkd.out _ (qV.trans0 (p3.alloc _))⟩
            | exact ⟨p4.cell hkm (by simp), fun j u hj => p5.cell (hrd j u hj) (fun hm => by have := (hrow.out _ (by simpa using hm)).2; omega), hlkd.out _ p4⟩)
            (first
            | (go_at_call 39; refine cl.out.mono ?_; rintro e w3 ⟨v3, rfl, hF3, p3⟩; obtain ⟨a3, c3, rfl⟩ := own_form hF3; have hvs3 := own_only0 hvs2 p3)
            | ((refine step_app (by rfl) _ _ 39 (by rfl) V.heap.size 27 1 24 el_bss (by rfl) (own_only0 hvs3 ((Only.refl [] w3).alloc _)) (by rfl) (Cs.fresh (cs := [_]) rfl) (one1 rfl) (by omega) (by omega) (by have := p3.size; simp only [World.size_alloc]; have := qV.size; omega) ?_); intro v4 w4 own4 app4; have p4 : Only [] V w4 := ((qV.trans0 p3).alloc _).app app4 (fun i hi => .inr (hrow.out i hi).1); have p5 : Only (Value.slice outa j outc).ownBlock.toList w2.drew w4 := ((p3.mono (by simp)).alloc _).app app4 (fun i hi => .inl (by simp [hi]))))
          have hels4 : All2 (fun u x => w4.ownsRow V.heap.size 5 1 u x.length (bytes x) ∧ x.length ≤ 9223372036854775807) (vs ++ [.slice a3 s.length c3]) (outL m'.sh (ids.take j) ++ [s]) := by
            have oa : Only [] w3 (w3.alloc (Obj.cells #[.slice a3 s.length c3] 27)) := (Only.refl [] w3).alloc _
            have hrw := own_only0 hvs3 oa
            refine All2.snoc (hels2.out.imp ?_) ⟨app4.other (own_only0 (own_lower hF3 qV.size) oa) (own_ne (own_only0 hF3 oa) hrw (by omega)), by omega⟩
            rintro u x ⟨h5, h6⟩
            have h7 := own_only0 (own_only0 h5 p3) oa
            exact ⟨app4.other h7 (own_ne h7 hrw (by omega)), h6⟩
          have hout4 : Hid (OwnBss V.heap.size w4 v4 (outL m'.sh (ids.take (j + 1)))) := by
            show OwnBss _ _ _ _
            rw [HTS.out]
            exact ⟨_, own_cast own4 (by unfold outL; simp; omega) rfl, hels4⟩
          clear hels4 hels2 own4 app4 hvs2 hvs3 hF3
          go_wp2
          go_roundw
          case rel => exact ⟨j + 1, by omega, by go_num, hout4, p4⟩
          case measure => simp [intOf]; omega
        · obtain rfl : j = ids.length := by omega
          rw [List.take_length] at hout
          have hpost := hid (show MCommitPost W k B 0 LL RS (.returned (.tuple #[_, .int .i64 ((0 : Nat) : Int)])) wr from ⟨_, V, rfl, hKBV.out.kept0 ho, by rw [hLLV.out]; exact hout.out, zV, ho.size, hOV.trans ho (fun y hy => hy) (by simp)⟩)
          clear hout
          go_wp2
          go_ret2
          exact hpost.out
    | false =>
      have hm' : m' = openK rs := HNE.out rfl
      have HMM := hid hm'
      obtain ⟨V, hV⟩ : ∃ V, V = w2 := ⟨_, rfl⟩
      have hKV : Kp V k x mb ls (ss ++ newBs W w2) m' (flatL rs) rs := by rw [hV]; exact hK2
      have hOV : Only B W V := by rw [hV]; exact O2
      have hKs := huB
      subst hc
      have hids8 : ids.length ≤ 8 := HGD.out rfl
      have zV : W.heap.size ≤ V.heap.size := by rw [hV]; exact z2
      have hKBV : KB V k RS (B ++ newBs W V) := by
        have e2 : RS = rs := by rw [HRS.out]; simp
        rw [e2, hV]
        refine KB.same (by rw [hm'] at hK2; exact hK2) b1 b2 b3 (fun i hi => ?_) (fun i hi => by have := b5 i hi; omega) b6
        rcases List.mem_append.1 hi with hi | hi
        · exact .inl (b4 i hi)
        · exact .inr hi
      have hLLV : LL = outL m'.sh ids := by rw [HLL.out]; simp only [if_true]; rw [HSH.out]
      replace hKBV := hid hKBV
      replace hLLV := hid hLLV
      rw [← hV]
      clear hV hm' cm hK2
      have hkm := hKV.c1
      have hgS := hid (fun (d : List UInt8) (hd : d.length = 32) => (show ∃ v s, (∀ U, Only [] V U → (Instr.lookup 75 (.map (some mb)) (.agg (bytes d).toArray) false).run Try.prog U = .ok v U) ∧ Bs V v s ∧ s = (getS m'.sh d).getD [] ∧ s.length ≤ 32 by
        cases hgs : getS m'.sh d with
        | none => exact ⟨.slice none 0 0, [], fun U hU => (hKV.shs.kept0 hU).look_none hd hgs false, Bs.empty (by unfold maxLen; omega), rfl, by simp⟩
        | some s =>
          obtain ⟨v, hY, hlk⟩ := hKV.shs.look_some HI.out.keys hd hgs
          exact ⟨v, s, fun U hU => hlk U hU false, hY.1, rfl, (HI.out.len _ (getS_some hgs)).2.2⟩))
      have huV := hu.only hKs hOV
      go_wp2_with fail
      go_loopw [10, 35] (fun out i wr => ∃ j : Nat, j ≤ ids.length ∧ i = .int .i64 j ∧ Hid (OwnBss V.heap.size wr out (outL m'.sh (ids.take j))) ∧ Only [] V wr) (fun _ i _ => ids.length - (intOf i).toNat)
      case atStart => exact ⟨0, Nat.zero_le _, rfl, hid ⟨[], World.ownsRow_nil _ _ _ _, .nil⟩, Only.refl _ _⟩
      case round =>
        obtain ⟨j, hj, rfl, hout, ho⟩ := hrel
        by_cases hlt : j < ids.length
        · obtain ⟨b, o, rfl, hr⟩ := (huV.kept0 ho).at j hlt
          have hl32 := huV.2 ids[j] (List.getElem_mem hlt)
          have hts : outL m'.sh (ids.take (j + 1)) = outL m'.sh (ids.take j) ++ [(getS m'.sh ids[j]).getD []] := by unfold outL; rw [List.take_succ_eq_append_getElem hlt, List.map_append]; rfl
          obtain ⟨d, hd⟩ : ∃ d, d = ids[j] := ⟨_, rfl⟩
          rw [← hd] at hr hl32 hts
          have hin : (Try.prog.info? 35).map (·.size) = some (bytes d).length := by rw [dig_info]; simp [bytes, hl32]
          obtain ⟨sv, s, hlk, hsv, hse, hsl⟩ := hgS.out d hl32
          rw [← hse] at hts
          have HTS := hid hts
          obtain ⟨vs, hvs, hels⟩ := hout.out
          have htl : (outL m'.sh (ids.take j)).length = j := by unfold outL; simp; omega
          rw [htl] at hvs
          obtain ⟨outa, outc, rfl⟩ := own_form hvs
          have hrow := hid (fun i (hi : (Value.slice outa j outc).ownBlock = some i) => hvs.lt i hi)
          clear hts hd hse htl
          have oz : Only [] wr (wr.alloc (Obj.cells Z32 35)) := (Only.refl [] wr).alloc _
          have hth := (Dv.fresh wr 35).there
          go_wp2_with (first
            | (refine wpList_load_mid (by rfl) 35 _ (by rfl) b (o + j * 32) (by rfl) _ _ hr hda rfl hin ?_)
            | (refine wpList_alloc_run (by rfl) 35 (by rfl) (alloc_dig _) ?_)
            | (refine wpList_store_dig (by rfl) _ _ (by rfl) wr.heap.size d (bytes d).toArray (by rfl) (by rfl) rfl hl32 hth ?_; intro w2 hD2 q2))
          simp only [Act.put, List.setIfInBounds_toArray, List.set_cons_zero, List.set_cons_succ]
          have q3 : Only [] wr w2 := oz.trans q2 (by simp) (fun y hy => .inr (by rw [List.mem_singleton.1 hy]; exact Nat.le_refl _))
          have qV : Only [] V w2.drew := (ho.trans0 q3).drew
          have od : Only [] wr w2.drew := q3.drew
          have hrd : w2.drew.rangeAt wr.heap.size 0 (bytes d) := hD2.range
          have hkd := qV.cell hkm (by simp)
          obtain ⟨sa, sc, rfl⟩ := bs_form hsv
          have cl := hid (clone_any _ s w2.drew (hsv.kept0 qV) (by omega))
          have hvs2 := own_only0 hvs od
          have hels2 := hels.imp (fun u x (h : wr.ownsRow V.heap.size 5 1 u x.length (bytes x) ∧ x.length ≤ 9223372036854775807) => (show w2.drew.ownsRow V.heap.size 5 1 u x.length (bytes x) ∧ x.length ≤ 9223372036854775807 from ⟨own_only0 h.1 od, h.2⟩))
          have hlkd := hid hlk
          have szV := ho.size
          have szw := q3.size
          replace hels2 := hid hels2
          clear hout hvs hels hr hth hD2 q2 hsv hlk
          go_region_held3 (fun U => U.cell? ⟨k, 1, none⟩ = some (.map (some mb)) ∧ U.rangeAt wr.heap.size 0 (bytes d) ∧ (Instr.lookup 75 (.map (some mb)) (.agg (bytes d).toArray) false).run Try.prog U = .ok (.slice sa s.length sc) U)
            (first
            | exact ⟨hkd, hrd, hlkd.out _ qV⟩
            | exact ⟨p3.cell hkd (by simp), fun j u hj => p3.cell (hrd j u hj) (by simp), hlkd.out _ (qV.trans0 p3)⟩
            | exact ⟨(p3.alloc _).cell hkd (by simp), fun j u hj => (p3.alloc _).cell (hrd j u hj) (by simp), hlkd.out _ (qV.trans0 (p3.alloc _))⟩
            | exact ⟨p4.cell hkm (by simp), fun j u hj => p5.cell (hrd j u hj) (fun hm => by have := (hrow.out _ (by simpa using hm)).2; omega), hlkd.out _ p4⟩)
            (first
            | (go_at_call 39; refine cl.out.mono ?_; rintro e w3 ⟨v3, rfl, hF3, p3⟩; obtain ⟨a3, c3, rfl⟩ := own_form hF3; have hvs3 := own_only0 hvs2 p3)
            | ((refine step_app (by rfl) _ _ 39 (by rfl) V.heap.size 27 1 24 el_bss (by rfl) (own_only0 hvs3 ((Only.refl [] w3).alloc _)) (by rfl) (Cs.fresh (cs := [_]) rfl) (one1 rfl) (by omega) (by omega) (by have := p3.size; simp only [World.size_alloc]; have := qV.size; omega) ?_); intro v4 w4 own4 app4; have p4 : Only [] V w4 := ((qV.trans0 p3).alloc _).app app4 (fun i hi => .inr (hrow.out i hi).1); have p5 : Only (Value.slice outa j outc).ownBlock.toList w2.drew w4 := ((p3.mono (by simp)).alloc _).app app4 (fun i hi => .inl (by simp [hi]))))
          have hels4 : All2 (fun u x => w4.ownsRow V.heap.size 5 1 u x.length (bytes x) ∧ x.length ≤ 9223372036854775807) (vs ++ [.slice a3 s.length c3]) (outL m'.sh (ids.take j) ++ [s]) := by
            have oa : Only [] w3 (w3.alloc (Obj.cells #[.slice a3 s.length c3] 27)) := (Only.refl [] w3).alloc _
            have hrw := own_only0 hvs3 oa
            refine All2.snoc (hels2.out.imp ?_) ⟨app4.other (own_only0 (own_lower hF3 qV.size) oa) (own_ne (own_only0 hF3 oa) hrw (by omega)), by omega⟩
            rintro u x ⟨h5, h6⟩
            have h7 := own_only0 (own_only0 h5 p3) oa
            exact ⟨app4.other h7 (own_ne h7 hrw (by omega)), h6⟩
          have hout4 : Hid (OwnBss V.heap.size w4 v4 (outL m'.sh (ids.take (j + 1)))) := by
            show OwnBss _ _ _ _
            rw [HTS.out]
            exact ⟨_, own_cast own4 (by unfold outL; simp; omega) rfl, hels4⟩
          clear hels4 hels2 own4 app4 hvs2 hvs3 hF3
          go_wp2
          go_roundw
          case rel => exact ⟨j + 1, by omega, by go_num, hout4, p4⟩
          case measure => simp [intOf]; omega
        · obtain rfl : j = ids.length := by omega
          rw [List.take_length] at hout
          have hpost := hid (show MCommitPost W k B 0 LL RS (.returned (.tuple #[_, .int .i64 ((0 : Nat) : Int)])) wr from ⟨_, V, rfl, hKBV.out.kept0 ho, by rw [hLLV.out]; exact hout.out, zV, ho.size, hOV.trans ho (fun y hy => hy) (by simp)⟩)
          clear hout
          go_wp2
          go_ret2
          exact hpost.out
  · have hfr : fr = false := by
      cases fr with
      | false => rfl
      | true => exact absurd (HFR.out rfl) hc
    have hm' : m' = openK rs := HNE.out hfr
    have hpost : MCommitPost W k B c LL RS (.returned (.tuple #[.slice none 0 0, .int .i64 (c : Int)])) w2 := by
      have e1 : LL = [] := by rw [HLL.out]; exact if_neg hc
      have e2 : RS = rs := by rw [HRS.out]; exact if_neg (by simp [hfr])
      rw [e1, e2]
      refine ⟨_, w2, rfl, KB.same (by rw [hm'] at hK2; exact hK2) b1 b2 b3 (fun i hi => ?_) (fun i hi => by have := b5 i hi; omega) b6, ⟨[], World.ownsRow_nil _ _ _ _, .nil⟩, z2, Nat.le_refl _, O2⟩
      rcases List.mem_append.1 hi with hi | hi
      · exact .inl (b4 i hi)
      · exact .inr hi
    replace hpost := hid hpost
    have hcb : ((c : Int) != 0) = true := by rw [bne_iff_ne]; omega
    clear hm' cm hK2 hc
    go_wp2
    go_ret2
    exact hpost.out
end Go.Proofs.Ytnlmeaijnfjakaa.Sh
/- The keyper: names, read: walked. -/
namespace Go.Proofs.Ytnlmeaijnfjakaa.Sh
set_option linter.unusedSimpArgs false
set_option linter.unusedVariables false
open Go Go.RowKit

/-- Names in new memory. -/
def OwnD (B : Nat) (w : World) (v : Value) (l : List (List UInt8)) : Prop := w.ownsRow B 35 32 v l.length (l.flatMap bytes) ∧ ∀ d ∈ l, d.length = 32
theorem OwnD.only {B : Nat} {w w' : World} {v : Value} {l : List (List UInt8)} (h : OwnD B w v l) {bs : List Nat} (ho : Only bs w w') (hn : ∀ k, v.ownBlock = some k → k ∉ bs) : OwnD B w' v l := ⟨own_only h.1 ho hn, h.2⟩
theorem OwnD.dgs {B : Nat} {w : World} {v : Value} {l : List (List UInt8)} (h : OwnD B w v l) (hl : l.length ≤ 1000000) : Dgs w v l := Dgs.of_own h.1 h.2 (by omega)

def ListPost (rb fb most : Nat) (l : List UInt8) (w : World) (e : Ending) (w' : World) : Prop :=
  Only [rb] w w' ∧ (∃ l', Rd w' rb fb l') ∧ ((listL most l).1 = 0 ∧ (∃ v', e = .returned v' ∧ OwnD w.heap.size w' v' (listL most l).2.1) ∧ Rd w' rb fb (listL most l).2.2 ∨ (listL most l).1 ≠ 0 ∧ e = .panicked (ownEnd rb (listL most l).1))
theorem digsL_cut : ∀ (k : Nat) (l : List UInt8), (digsL k l).2.1.length ≤ k
  | 0, _ => by simp [digsL]
  | k + 1, l => by
    unfold digsL
    split
    · have := digsL_cut k (digL l).2.2
      simp only [List.length_cons]
      omega
    · simp

theorem cells_names : ∀ ids : List (List UInt8), (ids.map vD).flatMap (fun v => v.cells.toList) = ids.flatMap bytes
  | [] => rfl
  | d :: ids => by
    rw [List.map_cons, List.flatMap_cons, List.flatMap_cons, cells_names ids]
    simp [vD, Value.cells]

set_option maxRecDepth 20000 in
theorem wpList_names {ops : Array Oper} {rest : List Oper} {o : Oper} {a : Act} {w : World} {Q : Exit → Act → World → Prop} (hg : o.guard = none) (len : Nat) (parts : Array (Nat × Operand)) (ho : o.op = .buildSlice 42 len parts)
    (ids : List (List UInt8)) (hd : ∀ d ∈ ids, d.length = 32) (hlen : len = ids.length) (h0 : 0 < len) (hs : len ≤ 100)
    (hp : (parts.map fun (i, x) => (i, a.eval x)).toList = ((ids.map vD).zipIdx 0).map fun x => (x.2, x.1))
    (h : wpList Try.prog ops Q rest (a.put o.dst (.slice (some ⟨w.heap.size, 0, none⟩) len len)) (w.alloc (.cells (ids.flatMap bytes).toArray 35))) : wpList Try.prog ops Q (o :: rest) a w := by
  obtain ⟨ie, h1, h2, h3, h4⟩ := info_parts (show (Try.prog.info? 35).map (fun i => (i.zero, i.size, i.bytes)) = some (some (.agg Z32), 32, 32) by kernel_rfl)
  have hz : (Value.agg Z32).cells.size = 32 := by simp [Value.cells, Z32, bytes]
  refine wpList_buildSlice hg 42 35 len parts ho (ids.flatMap bytes).toArray ie (.agg Z32) Try.underlying42 h1 h2 (by rw [h3]; omega) (by rw [h3]; omega) ?_ h
  rw [hp, h3]
  have := Go.Great.fill_whole (s := 32) (by omega) (ids.map vD) ((Array.range (len * 32)).map ((Value.agg Z32).cells[· % (Value.agg Z32).cells.size]!)) (fun v hv => by
    obtain ⟨d, hdm, rfl⟩ := List.mem_map.1 hv
    simp [vD, Value.cells, bytes, hd d hdm]) (by simp [hlen])
  rw [this]
  rw [cells_names]

theorem wpList_name1 {ops : Array Oper} {rest : List Oper} {dst : Option Tmp} {ty : TypeId} {pos : String} {after : Array Edge} {a : Act} {w : World} {Q : Exit → Act → World → Prop} (k : Tmp) (d : List UInt8) (hd : d.length = 32) (hv : a.eval (.tmp k) = vD d)
    (h : wpList Try.prog ops Q rest (a.put dst (.slice (some ⟨w.heap.size, 0, none⟩) 1 1)) (w.alloc (.cells ([d].flatMap bytes).toArray 35))) :
    wpList Try.prog ops Q ({ dst := dst, op := .buildSlice 42 1 #[(0, .tmp k)], type := ty, pos := pos, after := after, guard := none } :: rest) a w :=
  wpList_names (o := { dst := dst, op := .buildSlice 42 1 #[(0, .tmp k)], type := ty, pos := pos, after := after, guard := none }) rfl 1 #[(0, .tmp k)] rfl [d] (by simpa using hd) rfl (by omega) (by omega) (by simp [hv]) h

set_option maxRecDepth 20000 in
set_option maxHeartbeats 1600000 in
theorem list_any (rb fb most : Nat) (l : List UInt8) (w : World) (h : Rd w rb fb l) (hm : most ≤ 24) :
    Calls Try.prog 65 #[.pointer (some ⟨rb, 0, none⟩), .int .i64 most] w (ListPost rb fb most l w) := by
  have hrl := h.lt
  go_enter Try.func65, Try.ntmps65
  go_wp2_with fail
  refine (count_any rb fb most l w h (by omega)).mono ?_
  rintro e w1 ⟨ho1, hr1, hcase⟩
  rcases hcase with ⟨hz, rfl, hr⟩ | ⟨hz, rfl⟩
  · have hle := numL_most _ _ hz
    have hfb : fb < w.heap.size := by
      rcases h.fbl with rfl | h9
      · exact absurd hz (by simp [numL, numF])
      · exact h9
    have hll : listL most l = digsL (numL most l).2.1 (numL most l).2.2 := by unfold listL; rw [if_pos hz]
    obtain ⟨n, hn⟩ : ∃ n, n = (numL most l).2.1 := ⟨_, rfl⟩
    obtain ⟨l0, hl0⟩ : ∃ l0, l0 = (numL most l).2.2 := ⟨_, rfl⟩
    rw [← hl0] at hr hll
    rw [← hn] at hle hll ⊢
    have HLL := hid hll
    have s1 := ho1.size
    clear hn hz hl0 hll
    go_wp2_with fail
    go_loopw [5, 9] (fun ov i wr => ∃ (j : Nat) (lj : List UInt8) (ids : List (List UInt8)), j ≤ n ∧ i = .int .i64 j ∧ Rd wr rb fb lj ∧ OwnD w.heap.size wr ov ids ∧ Hid (ids.length = j) ∧ Hid (digsL n l0 = ((digsL (n - j) lj).1, ids ++ (digsL (n - j) lj).2.1, (digsL (n - j) lj).2.2)) ∧ Only [rb] w wr) (fun _ i _ => n - (intOf i).toNat)
    case atStart => exact ⟨0, l0, [], Nat.zero_le _, rfl, hr, ⟨World.ownsRow_nil _ _ _ _, by simp⟩, hid rfl, hid rfl, ho1⟩
    case round =>
      obtain ⟨j, lj, ids, hj, rfl, hrd, hown, hlen, heq, ho⟩ := hrel
      have hidl : ids.length ≤ 24 := by have := hlen.out; omega
      obtain ⟨oa, oc, rfl⟩ := own_form hown.1
      by_cases hlt : j < n
      · have hdg := dig_any rb fb lj wr hrd
        have hstep : n - j = (n - (j + 1)) + 1 := by omega
        go_wp2_with fail
        refine hdg.mono ?_
        rintro e w2 ⟨q2, hr2, hcase⟩
        have s2 := ho.size
        have s3 := q2.size
        rcases hcase with ⟨hz, rfl, hrd2⟩ | ⟨hz, rfl⟩
        · obtain ⟨d, hd⟩ : ∃ d, d = (digL lj).2.1 := ⟨_, rfl⟩
          obtain ⟨lk, hlk⟩ : ∃ lk, lk = (digL lj).2.2 := ⟨_, rfl⟩
          have hl32 : d.length = 32 := by
            rw [hd]
            unfold digL at hz ⊢
            split at hz
            · cases hz
            · rename_i h9
              rw [if_neg h9]
              simp; omega
          have heq2 : Hid (digsL n l0 = ((digsL (n - (j + 1)) lk).1, (ids ++ [d]) ++ (digsL (n - (j + 1)) lk).2.1, (digsL (n - (j + 1)) lk).2.2)) := by
            show _ = _
            rw [heq.out, hstep, digsL, if_pos hz, ← hd, ← hlk]
            simp
          rw [← hlk] at hrd2
          rw [← hd]
          have own2 := hown.only q2 (fun i hi hm => by have e1 := (hown.1.lt i hi).1; rw [List.mem_singleton] at hm; omega)
          clear hd hlk hz heq hstep hr2
          go_wp2_with (first
            | (refine wpList_name1 13 d hl32 (by rfl) ?_)
            | (at_builtin; refine wpList_app1 (by rfl) _ _ 42 (by rfl) w.heap.size 35 32 32 el_dig (by rfl) own2.1 ([d].flatMap bytes) (by rfl) (by simp [bytes, hl32]) (by simpa using bytes_one d) (by omega) (by omega) (by omega) ?_; intro v4 w4 own4 app4))
          have q4 : Only [rb] w w4 := (ho.trans q2 (ds := [rb]) (by simp) (by simp)).app app4 (fun i hi => .inr (own2.1.lt i hi).1)
          have own5 : OwnD w.heap.size w4 v4 (ids ++ [d]) := ⟨own_cast own4 (by simp) (by simp), fun x hx => by
            rcases List.mem_append.1 hx with hx | hx
            · exact own2.2 x hx
            · rw [List.mem_singleton.1 hx]; exact hl32⟩
          have hrd4 : Rd w4 rb fb lk := hrd2.kept ((Only.refl _ w2).app app4 (fun i hi => .inl (Option.mem_toList.2 hi))) (fun hm => by have e1 := (own2.1.lt rb (Option.mem_toList.1 hm)).1; omega) (.inr (fun hm => by have e1 := (own2.1.lt fb (Option.mem_toList.1 hm)).1; omega))
          have hlen2 : Hid ((ids ++ [d]).length = j + 1) := by
            show _ = _
            have := hlen.out
            simp; omega
          clear own4 own2 app4 hown hlen
          go_wp2
          go_roundw
          case rel => exact ⟨j + 1, lk, ids ++ [d], by omega, by go_num, hrd4, own5, hlen2, heq2, q4⟩
          case measure => simp [intOf]; omega
        · exact ⟨rfl, ho.trans q2 (by simp) (by simp), hr2, .inr ⟨by rw [HLL.out, heq.out, hstep, digsL, if_neg hz]; exact hz, by rw [HLL.out, heq.out, hstep, digsL, if_neg hz]⟩⟩
      · obtain rfl : j = n := by omega
        have hfin := hid (show ListPost rb fb most l w (.returned (.slice oa ids.length oc)) wr by
          have e2 := heq.out
          rw [Nat.sub_self] at e2
          simp only [digsL, List.append_nil] at e2
          refine ⟨ho, ⟨_, hrd⟩, .inl ⟨by rw [HLL.out, e2], ⟨_, rfl, by rw [HLL.out, e2]; exact hown⟩, by rw [HLL.out, e2]; exact hrd⟩⟩)
        clear hown hlen heq hrd
        go_wp2
        go_ret
        exact hfin.out
  · have hll : listL most l = ((numL most l).1, [], (numL most l).2.2) := by unfold listL; rw [if_neg hz]
    exact ⟨rfl, ho1, hr1, .inr ⟨by rw [hll]; exact hz, by rw [hll]⟩⟩
end Go.Proofs.Ytnlmeaijnfjakaa.Sh
/- What redo leaves to be done: the three closures: walked. -/
namespace Go.Proofs.Ytnlmeaijnfjakaa.Sh
set_option linter.unusedSimpArgs false
set_option linter.unusedVariables false
open Go Go.RowKit

section
variable (w : World) (k x mb : Nat) (ls ss : List Nat) (m : Km) (f : List UInt8) (rs : List (List UInt8))

set_option maxRecDepth 20000 in
set_option maxHeartbeats 1600000 in
theorem redo13_any (h : Kp w k x mb ls ss m f rs) (hi : KInv m) (kx ix : Nat) (v : Value) (ids : List (List UInt8)) (hk : w.cell? ⟨kx, 0, none⟩ = some (.pointer (some ⟨k, 0, none⟩))) (hv : w.cell? ⟨ix, 0, none⟩ = some v) (hd : Dgs w v ids) :
    Calls Try.prog 67 #[.pointer (some ⟨kx, 0, none⟩), .pointer (some ⟨ix, 0, none⟩)] w fun e w' => e = .returned (.tuple #[]) ∧ Kp w' k x mb ls ss (forgetK m ids).2 f rs ∧ Only [mb] w w' := by
  have hc := hid (forget_any w k x mb ls ss m f rs h hi v ids hd)
  go_enter Try.func67, Try.ntmps67
  go_wp2_with fail
  refine hc.out.mono ?_
  rintro e w1 ⟨rfl, h1, o1⟩
  go_wp2
  go_end0
  exact ⟨rfl, h1, o1⟩

set_option maxRecDepth 20000 in
set_option maxHeartbeats 1600000 in
theorem redo12_any (h : Kp w k x mb ls ss m f rs) (hl : ∀ i ∈ ls, i < w.heap.size) (hi : KInv m) (kx sx ix slot : Nat) (hslot : slot < 18446744073709551616) (v : Value) (ids : List (List UInt8)) (hk : w.cell? ⟨kx, 0, none⟩ = some (.pointer (some ⟨k, 0, none⟩))) (hs : w.cell? ⟨sx, 0, none⟩ = some (.int .u64 (slot : Int))) (hv : w.cell? ⟨ix, 0, none⟩ = some v) (hd : Dgs w v ids) :
    Calls Try.prog 66 #[.pointer (some ⟨kx, 0, none⟩), .pointer (some ⟨sx, 0, none⟩), .pointer (some ⟨ix, 0, none⟩)] w fun e w' => e = .returned (.tuple #[]) ∧ Kp w' k x mb ls (ss ++ newBs w w') (commitK m slot ids).2 f rs ∧ Only [k] w w' := by
  have hc := hid (commit_any w k x mb ls ss m f rs h hl hi slot hslot v ids hd)
  go_enter Try.func66, Try.ntmps66
  go_wp2_with fail
  refine hc.out.mono ?_
  rintro e w1 ⟨rfl, h1, o1⟩
  go_wp2
  go_end0
  exact ⟨rfl, h1, o1⟩

set_option maxRecDepth 20000 in
set_option maxHeartbeats 1600000 in
theorem redo11_any (h : Kp w k x mb ls ss m f rs) (hl : ∀ i ∈ ls, i < w.heap.size) (hi : KInv m) (kx dx sx : Nat) (d s : List UInt8) (v : Value) (hk : w.cell? ⟨kx, 0, none⟩ = some (.pointer (some ⟨k, 0, none⟩))) (hD : Dv w dx d) (hv : w.cell? ⟨sx, 0, none⟩ = some v) (hs : Bs w v s) (hsl : s.length ≤ 100000) :
    Calls Try.prog 63 #[.pointer (some ⟨kx, 0, none⟩), .pointer (some ⟨dx, 0, none⟩), .pointer (some ⟨sx, 0, none⟩)] w fun e w' => e = .returned (.tuple #[]) ∧ Kp w' k x mb ls (ss ++ newBs w w') (keepK m d s).2 f rs ∧ Only [mb] w w' := by
  have hc := hid (keep_any w k x mb ls ss m f rs h hl hi d hD.len v s hs hsl)
  go_enter Try.func63, Try.ntmps63
  go_wp2_with (refine wpList_load_dig (by rfl) _ (by rfl) dx d (by rfl) hD ?_)
  refine hc.out.mono ?_
  rintro e w1 ⟨rfl, h1, o1⟩
  go_wp2
  go_end0
  exact ⟨rfl, h1, o1⟩
end
end Go.Proofs.Ytnlmeaijnfjakaa.Sh
/- Redo's reading closure: walked. -/
namespace Go.Proofs.Ytnlmeaijnfjakaa.Sh
set_option linter.unusedSimpArgs false
set_option linter.unusedVariables false
open Go Go.RowKit

inductive Do where
  | no
  | keep (d s : List UInt8)
  | com (slot : Nat) (ids : List (List UInt8))
  | forg (ids : List (List UInt8))

/-- What a record's first byte and the rest are read as: the error, what is to be done, what is left. -/
def redoP (c : UInt8) (r : List UInt8) : Nat × Do × List UInt8 :=
  if c = 1 then
    (if (digL r).1 = 0 then
      (if (textL 32 (digL r).2.2).1 = 0 then (0, .keep (digL r).2.1 (textL 32 (digL r).2.2).2.1, (textL 32 (digL r).2.2).2.2) else ((textL 32 (digL r).2.2).1, .no, []))
     else ((digL r).1, .no, []))
  else if c = 2 then
    (if (numL 18446744073709551615 r).1 = 0 then
      (if (listL 8 (numL 18446744073709551615 r).2.2).1 = 0 then (0, .com (numL 18446744073709551615 r).2.1 (listL 8 (numL 18446744073709551615 r).2.2).2.1, (listL 8 (numL 18446744073709551615 r).2.2).2.2) else ((listL 8 (numL 18446744073709551615 r).2.2).1, .no, []))
     else ((numL 18446744073709551615 r).1, .no, []))
  else if c = 3 then
    (if (listL 24 r).1 = 0 then (0, .forg (listL 24 r).2.1, (listL 24 r).2.2) else ((listL 24 r).1, .no, []))
  else (0, .no, r)
def doK (m : Km) : Do → Km
  | .no => m
  | .keep d s => (keepK m d s).2
  | .com slot ids => (commitK m slot ids).2
  | .forg ids => (forgetK m ids).2
theorem redoB_P (m : Km) (c : UInt8) (r : List UInt8) : redoB m c r = if (redoP c r).1 = 0 ∧ (redoP c r).2.2 = [] then doK m (redoP c r).2.1 else m := by
  unfold redoB redoP
  split
  · by_cases h1 : (digL r).1 = 0
    · by_cases h2 : (textL 32 (digL r).2.2).1 = 0
      · simp [h1, h2, doK]
      · simp [h1, h2, doK]
    · simp [h1, doK]
  · split
    · by_cases h1 : (numL 18446744073709551615 r).1 = 0
      · by_cases h2 : (listL 8 (numL 18446744073709551615 r).2.2).1 = 0
        · simp [h1, h2, doK]
        · simp [h1, h2, doK]
      · simp [h1, doK]
    · split
      · by_cases h1 : (listL 24 r).1 = 0
        · simp [h1, doK]
        · simp [h1, doK]
      · simp [doK]

/-- What stands in the variable of what is to be done. B: what was made stands from here on. -/
def DoAt (w : World) (B kx dn : Nat) : Do → Prop
  | .no => w.cell? ⟨dn, 0, none⟩ = some .nilFunc
  | .keep d s => ∃ dx sx v, w.cell? ⟨dn, 0, none⟩ = some (.func (.func 63) #[] #[.pointer (some ⟨kx, 0, none⟩), .pointer (some ⟨dx, 0, none⟩), .pointer (some ⟨sx, 0, none⟩)]) ∧ B ≤ dx ∧ Dv w dx d ∧ B ≤ sx ∧ w.cell? ⟨sx, 0, none⟩ = some v ∧ w.ownsRow B 5 1 v s.length (bytes s)
  | .com slot ids => ∃ sx ix v, w.cell? ⟨dn, 0, none⟩ = some (.func (.func 66) #[] #[.pointer (some ⟨kx, 0, none⟩), .pointer (some ⟨sx, 0, none⟩), .pointer (some ⟨ix, 0, none⟩)]) ∧ B ≤ sx ∧ w.cell? ⟨sx, 0, none⟩ = some (.int .u64 (slot : Int)) ∧ B ≤ ix ∧ w.cell? ⟨ix, 0, none⟩ = some v ∧ OwnD B w v ids
  | .forg ids => ∃ ix v, w.cell? ⟨dn, 0, none⟩ = some (.func (.func 67) #[] #[.pointer (some ⟨kx, 0, none⟩), .pointer (some ⟨ix, 0, none⟩)]) ∧ B ≤ ix ∧ w.cell? ⟨ix, 0, none⟩ = some v ∧ OwnD B w v ids

def RedoPost (rb fb kx dn : Nat) (p : Nat × Do × List UInt8) (w : World) (e : Ending) (w' : World) : Prop :=
  Only [rb, dn] w w' ∧ (∃ l', Rd w' rb fb l') ∧ (p.1 = 0 ∧ e = .returned (.tuple #[]) ∧ Rd w' rb fb p.2.2 ∧ DoAt w' w.heap.size kx dn p.2.1 ∨ p.1 ≠ 0 ∧ e = .panicked (ownEnd rb p.1))

theorem store_func (P : Program) (w : World) (b : Nat) (u : Value) (hc : w.cell? ⟨b, 0, none⟩ = some u) (hz : w.frozen? ⟨b, 0, none⟩ = false) (f : Fn) (xs cs : Array Value) :
    (store ⟨b, 0, none⟩ (.func f xs cs)).run P w = .ok () (w.setCell ⟨b, 0, none⟩ (.func f xs cs)) := by
  rw [run_store P w _ _ _ rfl]
  simp [hc, hz]

section
variable (rb fb bb kx dn q o n cap : Nat) (c : UInt8) (l : List UInt8) (w : World)

set_option maxRecDepth 20000 in
set_option maxHeartbeats 3200000 in
theorem redo1_3 (h : Rd w rb fb l) (hb : w.cell? ⟨bb, 0, none⟩ = some (.slice (some ⟨q, o, none⟩) n cap)) (hn : 0 < n) (hq : w.cell? ⟨q, o, none⟩ = some (vU8 3)) (hd : w.cell? ⟨dn, 0, none⟩ = some .nilFunc) (hz : w.frozen? ⟨dn, 0, none⟩ = false) (h1 : dn ≠ rb) (h2 : dn ≠ fb) :
    Calls Try.prog 60 #[.pointer (some ⟨rb, 0, none⟩), .pointer (some ⟨bb, 0, none⟩), .pointer (some ⟨kx, 0, none⟩), .pointer (some ⟨dn, 0, none⟩)] w (RedoPost rb fb kx dn (redoP 3 l) w) := by
  obtain ⟨p, hp⟩ : ∃ p, p = redoP 3 l := ⟨_, rfl⟩
  have HP := hid (show p = (if (listL 24 l).1 = 0 then (0, .forg (listL 24 l).2.1, (listL 24 l).2.2) else ((listL 24 l).1, .no, [])) from hp)
  rw [← hp]
  clear hp
  have hmf : ∀ (fn : Fn) (first cap : Array Value) (w : World), (Instr.makeFunc fn first cap).run Try.prog w = .ok (.func fn first cap) w := fun _ _ _ _ => rfl
  have hla := hid (list_any rb fb 24 l w h (by omega))
  have hdl : dn < w.heap.size := World.block_lt_of_cell? w _ hd
  have hv3 : vU8 3 = .int .u8 3 := rfl
  rw [hv3] at hq
  clear hv3
  go_enter Try.func60, Try.ntmps60
  go_wp2_with fail
  refine hla.out.mono ?_
  rintro e w1 ⟨o1, hr1, hcase⟩
  have s1 := o1.size
  rcases hcase with ⟨hc, ⟨v, rfl, ho⟩, hrd⟩ | ⟨hc, rfl⟩
  · have HQ := hid (show p = (0, .forg (listL 24 l).2.1, (listL 24 l).2.2) by rw [HP.out, if_pos hc])
    obtain ⟨ids, hids⟩ : ∃ ids, ids = (listL 24 l).2.1 := ⟨_, rfl⟩
    obtain ⟨l', hl'⟩ : ∃ l', l' = (listL 24 l).2.2 := ⟨_, rfl⟩
    rw [← hids, ← hl'] at HQ
    rw [← hids] at ho
    rw [← hl'] at hrd
    have hd1 := o1.cell hd (by simpa using h1)
    have hz1 : w1.frozen? ⟨dn, 0, none⟩ = false := by rw [o1.frozen' hdl (by simpa using h1)]; exact hz
    obtain ⟨va, vc, rfl⟩ := own_form ho.1
    have hdl1 : dn < w1.heap.size := by omega
    have hne1 : dn ≠ w1.heap.size := by omega
    obtain ⟨w2, hw2⟩ : ∃ w2, w2 = w1.alloc (Obj.cells #[.slice va ids.length vc] 42) := ⟨_, rfl⟩
    have o2 : Only [] w1 w2 := by rw [hw2]; exact (Only.refl [] w1).alloc _
    have hd2 := o2.cell hd1 (by simp)
    have hz2 : w2.frozen? ⟨dn, 0, none⟩ = false := by rw [o2.frozen' hdl1 (by simp)]; exact hz1
    have hi2 : w2.cell? ⟨w1.heap.size, 0, none⟩ = some (.slice va ids.length vc) := by rw [hw2]; simp [go_sem]
    have s2 := o2.size
    clear hla hr1 hc hids hl' HP
    go_wp2
    rw [← hw2]
    clear hw2
    have hst := store_func Try.prog w2 dn .nilFunc hd2 hz2
    rw [hst]
    go_wp2
    go_end0
    have q3 := (Only.refl [dn] w2).setCell (p := ⟨dn, 0, none⟩) (.inl (by simp)) (.func (.func 67) #[] #[.pointer (some ⟨kx, 0, none⟩), .pointer (some ⟨w1.heap.size, 0, none⟩)])
    have hr3 := (hrd.kept0 o2).kept q3 (by simpa using Ne.symm h1) (.inr (by simpa using Ne.symm h2))
    refine ⟨(o1.trans o2 (ds := [rb]) (by simp) (by simp)).trans q3 (ds := [rb, dn]) (by simp) (by simp), ⟨_, hr3⟩, .inl ⟨by rw [HQ.out], rfl, by rw [HQ.out]; exact hr3, ?_⟩⟩
    rw [HQ.out]
    exact ⟨w1.heap.size, _, World.cell?_setCell_same _ _ _ hd2, by omega, q3.cell hi2 (by simpa using Ne.symm hne1), (ho.only o2 (by simp)).only q3 (fun i hi hm => by have e1 := (ho.1.lt i hi).1; rw [List.mem_singleton] at hm; omega)⟩
  · have HQ := hid (show p = ((listL 24 l).1, .no, []) by rw [HP.out, if_neg hc])
    exact ⟨rfl, o1.mono (fun x hx => .inl (by simp at hx; simp [hx])), hr1, .inr ⟨by rw [HQ.out]; exact hc, by rw [HQ.out]⟩⟩
end
end Go.Proofs.Ytnlmeaijnfjakaa.Sh
