/- Texts of this proof, merged: KpI, KpJ, KpK, KpL, KpM, KpN, KpO. -/
import Derived.Test.YtnlmeaijnfjakaaZ1
import Derived.Test.YtnlmeaijnfjakaaJouF
import Derived.Test.YtnlmeaijnfjakaaPlFlat
import Derived.Test.YtnlmeaijnfjakaaStepApp
import Derived.Deep.QuietTactic
import Derived.BigQuiet
import Derived.Great.BuildSlice
/- The keyper: commit: walked. -/
namespace Go.Proofs.Ytnlmeaijnfjakaa.Sh
set_option linter.unusedSimpArgs false
set_option linter.unusedVariables false
open Go Go.RowKit

theorem only_drewN (w : World) (n : Nat) (bs : List Nat) : Only bs w (w.drewN n) := by
  induction n with
  | zero => exact Only.refl _ _
  | succ n ih => exact ih.drew

def CommitPost (w : World) (k x mb : Nat) (ls ss : List Nat) (f : List UInt8) (rs : List (List UInt8)) (r : (Bool × Nat) × Km) (e : Ending) (w' : World) : Prop :=
  e = .returned (.tuple #[.bool r.1.1, .int .i64 (r.1.2 : Int)]) ∧ Kp w' k x mb ls (ss ++ newBs w w') r.2 f rs ∧ Only [k] w w'

theorem Dgs.of_own {w : World} {B : Nat} {v : Value} {l : List (List UInt8)} (h : w.ownsRow B 35 32 v l.length (l.flatMap bytes)) (hl : ∀ d ∈ l, d.length = 32) (hn : l.length ≤ 9223372036854775807) : Dgs w v l := ⟨Cs.of_own h hn, hl⟩

/-- The order went on. -/
theorem Kp.setOrder {w : World} {k x mb : Nat} {ls ss : List Nat} {m : Km} {f : List UInt8} {rs : List (List UInt8)} (h : Kp w k x mb ls ss m f rs) (slot : Nat) {v : Value} {B : Nat} {ids : List (List UInt8)} (hv : w.ownsRow B 35 32 v ids.length (ids.flatMap bytes)) (hd : ∀ d ∈ ids, d.length = 32) (hn : ids.length ≤ 1000) (hb : ∀ i, v.ownBlock = some i → i ∈ ss) :
    Kp (((w.setCell ⟨k, 3, none⟩ (.int .u64 (slot : Int))).setCell ⟨k, 2, none⟩ v).setCell ⟨k, 4, none⟩ (.bool true)) k x mb ls ss { m with slot := slot, ids := ids, told := true } f rs := by
  obtain ⟨ov, o1, o2, o3⟩ := h.c2
  have ho : Only [k] w (((w.setCell ⟨k, 3, none⟩ (.int .u64 (slot : Int))).setCell ⟨k, 2, none⟩ v).setCell ⟨k, 4, none⟩ (.bool true)) := (((Only.refl [k] w).setCell (.inl (by simp)) _).setCell (.inl (by simp)) _).setCell (.inl (by simp)) _
  have hvk : ∀ i, v.ownBlock = some i → i ∉ [k] := fun i hi hm => h.nk.2.1 (by rw [← List.mem_singleton.1 hm]; exact hb i hi)
  have hv2 := own_only hv ho hvk
  have s1 := fun (p : Addr) (c : Value) (hp : w.cell? p = some c ∧ w.frozen? p = false) (h3 : p ≠ ⟨k, 3, none⟩) => set_cell (v := .int .u64 (slot : Int)) p h.c3 hp h3
  have a0 := h.c0
  have a2 := s1 _ _ o1 (by simp)
  have a4 := s1 _ _ h.c4 (by simp)
  have a3 : (w.setCell ⟨k, 3, none⟩ (.int .u64 (slot : Int))).cell? ⟨k, 3, none⟩ = some (.int .u64 (slot : Int)) ∧ (w.setCell ⟨k, 3, none⟩ (.int .u64 (slot : Int))).frozen? ⟨k, 3, none⟩ = false := ⟨World.cell?_setCell_same w _ _ h.c3.1, by simpa [go_sem] using h.c3.2⟩
  have b2 : ((w.setCell ⟨k, 3, none⟩ (.int .u64 (slot : Int))).setCell ⟨k, 2, none⟩ v).cell? ⟨k, 2, none⟩ = some v ∧ ((w.setCell ⟨k, 3, none⟩ (.int .u64 (slot : Int))).setCell ⟨k, 2, none⟩ v).frozen? ⟨k, 2, none⟩ = false := ⟨World.cell?_setCell_same _ _ _ a2.1, by simpa [go_sem] using a2.2⟩
  have b3 := set_cell (v := v) _ a2 a3 (by simp)
  have b4 := set_cell (v := v) _ a2 a4 (by simp)
  refine ⟨?_, ?_, ?_, ⟨v, set_cell _ b4 b2 (by simp), Dgs.of_own hv2 hd (show ids.length ≤ 9223372036854775807 by omega), fun i hi => ⟨hb i hi, own_ty hv2 i hi⟩⟩, set_cell _ b4 b3 (by simp), ⟨World.cell?_setCell_same _ _ _ b4.1, by simpa [go_sem] using b4.2⟩, h.log.only ho (fun i hi => by rw [List.mem_singleton.1 hi]; exact h.nk.1), h.shs.only ho (by simpa using h.nk.2.2.2.2) (fun i hi => .inl (by rw [List.mem_singleton.1 hi]; exact h.nk.2.1)), h.nk, h.ns⟩
  · exact ((h.ty.setCell _ _).setCell _ _).setCell _ _
  · rw [World.cell?_setCell_other _ _ _ _ (by simp), World.cell?_setCell_other _ _ _ _ (by simp), World.cell?_setCell_other _ _ _ _ (by simp)]; exact h.c0
  · rw [World.cell?_setCell_other _ _ _ _ (by simp), World.cell?_setCell_other _ _ _ _ (by simp), World.cell?_setCell_other _ _ _ _ (by simp)]; exact h.c1

set_option maxRecDepth 20000 in
set_option maxHeartbeats 6400000 in
theorem commit_any (w : World) (k x mb : Nat) (ls ss : List Nat) (m : Km) (f : List UInt8) (rs : List (List UInt8)) (h : Kp w k x mb ls ss m f rs) (hl : ∀ i ∈ ls, i < w.heap.size) (hi : KInv m) (slot : Nat) (hslot : slot < 18446744073709551616) (v : Value) (ids : List (List UInt8)) (hv : Dgs w v ids) :
    Calls Try.prog 36 #[.pointer (some ⟨k, 0, none⟩), .int .u64 (slot : Int), v] w (CommitPost w k x mb ls ss f rs (commitK m slot ids)) := by
  obtain ⟨a, cap, rfl, h1, h2, h3⟩ := hv.form
  have hu := Try.underlying35
  have hsame : Hid (∀ W, Only [] w W → ∀ b c, CommitPost w k x mb ls ss f rs ((b, c), m) (.returned (.tuple #[.bool b, .int .i64 (c : Int)])) W) := by
    intro W hW b c
    exact ⟨rfl, (h.kept0 hW).grow h hl, hW.mono (by simp)⟩
  have HI := hid hi
  clear hi
  go_enter Try.func36, Try.ntmps36
  go_wp2_with fail
  go_loopw [12] (fun i wr => ∃ j : Nat, j ≤ ids.length ∧ j ≤ 8 ∧ i = .int .i64 j ∧ Hid ((ids.take j).Nodup) ∧ Only [] w wr) (fun i _ => ids.length - (intOf i).toNat)
  case atStart => exact ⟨0, Nat.zero_le _, by omega, rfl, hid (by simp), Only.refl _ _⟩
  case round =>
    obtain ⟨j, hj, hj8, rfl, hnd, ho⟩ := hrel
    by_cases hlt : j < ids.length
    · obtain ⟨b, o, rfl, hr⟩ := (hv.kept0 ho).at j hlt
      have hl32 := hv.2 ids[j] (List.getElem_mem hlt)
      have hts : ids.take (j + 1) = ids.take j ++ [ids[j]] := List.take_succ_eq_append_getElem hlt
      have hpre := (hv.kept0 ho).pre j hj
      obtain ⟨d, hd⟩ : ∃ d, d = ids[j] := ⟨_, rfl⟩
      rw [← hd] at hr hl32 hts
      have hdm : d ∈ ids := by rw [hd]; exact List.getElem_mem hlt
      have hin : (Try.prog.info? 35).map (·.size) = some (bytes d).length := by rw [dig_info]; simp [bytes, hl32]
      have HTS := hid hts
      clear hts hd
      have oz : Only [] wr (wr.alloc (Obj.cells Z32 35)) := (Only.refl [] wr).alloc _
      have hth := (Dv.fresh wr 35).there
      by_cases h8 : j = 8
      · have hpost := hid (show commitK m slot ids = ((false, 1), m) by unfold commitK; rw [if_pos (.inl (by omega))])
        have hb8 : decide (8 ≤ (j : Int)) = true := by simp; omega
        clear hnd hpre HTS
        subst h8
        go_wp2_with (first
          | (refine wpList_load_mid (by rfl) 35 _ (by rfl) b (o + 8 * 32) (by rfl) _ _ hr hu rfl hin ?_)
          | (refine wpList_alloc_run (by rfl) 35 (by rfl) (alloc_dig _) ?_)
          | (refine wpList_store_dig (by rfl) _ _ (by rfl) wr.heap.size d (bytes d).toArray (by rfl) (by rfl) rfl hl32 hth ?_; intro w2 hD2 q2))
        simp only [Act.put, List.setIfInBounds_toArray, List.set_cons_zero, List.set_cons_succ]
        have q3 : Only [] wr w2 := oz.trans q2 (by simp) (fun y hy => .inr (by rw [List.mem_singleton.1 hy]; exact Nat.le_refl _))
        clear hr hth hD2 q2 hdm
        go_quiet (fail)
        go_wp2
        go_ret2
        rw [hpost.out]
        exact hsame.out _ ((ho.trans0 q3).trans0 (only_drewN _ _ _)) false 1
      · have hj8' : j < 8 := by omega
        go_wp2_with (first
          | (refine wpList_load_mid (by rfl) 35 _ (by rfl) b (o + j * 32) (by rfl) _ _ hr hu rfl hin ?_)
          | (refine wpList_alloc_run (by rfl) 35 (by rfl) (alloc_dig _) ?_)
          | (refine wpList_store_dig (by rfl) _ _ (by rfl) wr.heap.size d (bytes d).toArray (by rfl) (by rfl) rfl hl32 hth ?_; intro w2 hD2 q2))
        simp only [Act.put, List.setIfInBounds_toArray, List.set_cons_zero, List.set_cons_succ]
        have q3 : Only [] wr w2 := oz.trans q2 (by simp) (fun y hy => .inr (by rw [List.mem_singleton.1 hy]; exact Nat.le_refl _))
        have od : Only [] wr w2.drew := q3.drew
        have hrd : w2.drew.rangeAt wr.heap.size 0 (bytes d) := hD2.range
        have hco := contains_any w2.drew _ _ d (hpre.kept0 od) hl32
        have hb8 : decide (8 ≤ (j : Int)) = false := by simp; omega
        have j0 : (0 : Int) ≤ (j : Int) := by omega
        have jl : (j : Int) ≤ (ids.length : Int) := by omega
        have jc : (j : Int) ≤ (cap : Int) := by omega
        clear hr hth hD2 q2
        by_cases hm : d ∈ ids.take j
        · rw [decide_eq_true hm] at hco
          have hpost := hid (show commitK m slot ids = ((false, 1), m) by
            have hdup : ¬ ids.Nodup := fun hn => by
              have h5 : (ids.take (j + 1)).Nodup := (List.take_sublist (j + 1) ids).nodup hn
              rw [HTS.out] at h5
              exact absurd rfl ((List.nodup_append.1 h5).2.2 d hm d (by simp))
            unfold commitK
            rw [if_pos (.inr hdup)])
          replace hco := hid hco
          clear hm hnd HTS hpre hdm
          go_region_held3 (fun W => W.rangeAt wr.heap.size 0 (bytes d)) (first | exact hrd | exact fun j u hj => p3.cell (hrd j u hj) (by simp))
            (first
            | (go_at_call 71; refine hco.out.mono ?_; rintro e w3 ⟨rfl, p3⟩))
          go_wp2
          go_ret2
          rw [hpost.out]
          exact hsame.out _ ((ho.trans0 od).trans0 p3) false 1
        · rw [decide_eq_false hm] at hco
          have hn2 : Hid ((ids.take (j + 1)).Nodup) := by
            show List.Nodup _
            rw [HTS.out]
            exact List.nodup_append.2 ⟨hnd.out, by simp, fun y hy z hz e => hm (by rw [List.mem_singleton.1 hz] at e; rw [← e]; exact hy)⟩
          replace hco := hid hco
          clear hm hnd HTS hpre hdm
          go_region_held3 (fun W => W.rangeAt wr.heap.size 0 (bytes d)) (first | exact hrd | exact fun j u hj => p3.cell (hrd j u hj) (by simp))
            (first
            | (go_at_call 71; refine hco.out.mono ?_; rintro e w3 ⟨rfl, p3⟩))
          go_wp2
          go_roundw
          case rel => exact ⟨j + 1, by omega, by omega, by go_num, hn2, (ho.trans0 od).trans0 p3⟩
          case measure => simp [intOf]; omega
    · obtain rfl : j = ids.length := by omega
      rw [List.take_length] at hnd
      have hgood : ¬ (8 < ids.length ∨ ¬ ids.Nodup) := by
        rintro (h9 | h9)
        · omega
        · exact h9 hnd.out
      have hK := h.kept0 ho
      obtain ⟨ov, ⟨v1, v2⟩, v3, v4⟩ := hK.c2
      obtain ⟨t1, t2⟩ := hK.c3
      obtain ⟨u1, u2⟩ := hK.c4
      obtain ⟨va, vc, rfl, _⟩ := v3.form
      have hEq := dequal_any wr _ _ ids m.ids (hv.kept0 ho) v3
      obtain ⟨ml, hml⟩ : ∃ ml, ml = m.ids.length := ⟨_, rfl⟩
      rw [← hml] at v1 hEq v4
      obtain ⟨ms, hms⟩ : ∃ ms, ms = m.slot := ⟨_, rfl⟩
      rw [← hms] at t1
      have hms64 : ms < 18446744073709551616 := by rw [hms]; exact HI.out.slot
      have hun : commitK m slot ids = if m.told = true ∧ slot < ms then ((false, 13), m) else if m.told = true ∧ slot = ms then (if ids = m.ids then ((false, 0), m) else ((false, 16), m)) else ((true, 0), { m with slot := slot, ids := ids, told := true }) := by
        unfold commitK
        rw [if_neg hgood, hms]
      have HK := hid hK
      have HUN := hid hun
      clear hun hgood hnd hK hml hms v3
      cases ht : m.told with
      | true =>
        rw [ht] at u1
        have htt := hid ht
        clear ht
        by_cases hlt2 : slot < ms
        · have hres := hid (show commitK m slot ids = ((false, 13), m) by rw [HUN.out, if_pos ⟨htt.out, hlt2⟩])
          clear hEq
          go_wp2
          go_ret2
          rw [hres.out]
          exact hsame.out _ ho false 13
        · have hltb : decide (slot < ms) = false := by simpa using hlt2
          by_cases heq : slot = ms
          · have hsl : ((slot : Int) == (ms : Int)) = true := by rw [beq_iff_eq, heq]
            by_cases hii : ids = m.ids
            · have hres := hid (show commitK m slot ids = ((false, 0), m) by rw [HUN.out, if_neg (fun h9 => hlt2 h9.2), if_pos ⟨htt.out, heq⟩, if_pos hii])
              rw [decide_eq_true hii] at hEq
              replace hEq := hid hEq
              clear hii heq hlt2
              go_wp2_with fail
              refine hEq.out.mono ?_
              rintro e w2 ⟨rfl, q2⟩
              replace u1 := q2.cell u1 (by simp)
              replace t1 := q2.cell t1 (by simp)
              go_wp2
              go_ret2
              rw [hres.out]
              exact hsame.out _ (ho.trans0 q2) false 0
            · have hres := hid (show commitK m slot ids = ((false, 16), m) by rw [HUN.out, if_neg (fun h9 => hlt2 h9.2), if_pos ⟨htt.out, heq⟩, if_neg hii])
              rw [decide_eq_false hii] at hEq
              replace hEq := hid hEq
              clear hii heq hlt2
              go_wp2_with fail
              refine hEq.out.mono ?_
              rintro e w2 ⟨rfl, q2⟩
              go_wp2
              go_ret2
              rw [hres.out]
              exact hsame.out _ (ho.trans0 q2) false 16
          · have hsl : ((slot : Int) == (ms : Int)) = false := by rw [beq_eq_false_iff_ne]; omega
            have hres := hid (show commitK m slot ids = ((true, 0), { m with slot := slot, ids := ids, told := true }) by rw [HUN.out, if_neg (fun h9 => hlt2 h9.2), if_neg (fun h9 => heq h9.2)])
            have hcl := hid (dclone_any wr _ ids (hv.kept0 ho) (by omega))
            clear hEq heq hlt2
            go_wp2_with fail
            refine hcl.out.mono ?_
            rintro e w2 ⟨v2, rfl, own2, q2⟩
            obtain ⟨xa, xc, rfl⟩ := own_form own2
            have hK2 := (HK.out.kept0 q2)
            have hK3 := hK2.grow (w' := w2) h hl
            have hin2 : ∀ i, (Value.slice xa ids.length xc).ownBlock = some i → i ∈ ss ++ newBs w w2 := fun i hi => List.mem_append_right _ (mem_newBs.2 ⟨by have := (own2.lt i hi).1; have := ho.size; omega, (own2.lt i hi).2⟩)
            have hfin := hid (hK3.setOrder slot own2 hv.2 (by omega) hin2)
            replace v1 := q2.cell v1 (by simp)
            replace v2 := frozen_kept q2 (HK.out.c2.choose_spec.1.1) (by simp) HK.out.c2.choose_spec.1.2
            replace t2 := frozen_kept q2 t1 (by simp) t2
            replace t1 := q2.cell t1 (by simp)
            replace u2 := frozen_kept q2 u1 (by simp) u2
            replace u1 := q2.cell u1 (by simp)
            have hOf : ∀ a b c : Value, Only [k] w2 (((w2.setCell ⟨k, 3, none⟩ a).setCell ⟨k, 2, none⟩ b).setCell ⟨k, 4, none⟩ c) := fun a b c => (((Only.refl [k] w2).setCell (.inl (by simp)) a).setCell (.inl (by simp)) b).setCell (.inl (by simp)) c
            replace hOf := hid hOf
            clear hcl hK2 hK3 hin2 own2
            go_wp2
            go_ret2
            rw [hres.out]
            exact ⟨rfl, by
              have hz : newBs w (((w2.setCell ⟨k, 3, none⟩ (.int .u64 (slot : Int))).setCell ⟨k, 2, none⟩ (.slice xa ids.length xc)).setCell ⟨k, 4, none⟩ (.bool true)) = newBs w w2 := by unfold newBs; simp [World.setCell]
              rw [hz]
              exact hfin.out, (ho.trans0 q2).trans (hOf.out _ _ _) (by simp) (by simp)⟩
      | false =>
        rw [ht] at u1
        have hres := hid (show commitK m slot ids = ((true, 0), { m with slot := slot, ids := ids, told := true }) by rw [HUN.out, if_neg (fun h9 => by rw [ht] at h9; cases h9.1), if_neg (fun h9 => by rw [ht] at h9; cases h9.1)])
        have hcl := hid (dclone_any wr _ ids (hv.kept0 ho) (by omega))
        clear hEq ht
        go_wp2_with fail
        refine hcl.out.mono ?_
        rintro e w2 ⟨v2, rfl, own2, q2⟩
        obtain ⟨xa, xc, rfl⟩ := own_form own2
        have hK2 := (HK.out.kept0 q2)
        have hK3 := hK2.grow (w' := w2) h hl
        have hin2 : ∀ i, (Value.slice xa ids.length xc).ownBlock = some i → i ∈ ss ++ newBs w w2 := fun i hi => List.mem_append_right _ (mem_newBs.2 ⟨by have := (own2.lt i hi).1; have := ho.size; omega, (own2.lt i hi).2⟩)
        have hfin := hid (hK3.setOrder slot own2 hv.2 (by omega) hin2)
        replace v1 := q2.cell v1 (by simp)
        replace v2 := frozen_kept q2 (HK.out.c2.choose_spec.1.1) (by simp) HK.out.c2.choose_spec.1.2
        replace t2 := frozen_kept q2 t1 (by simp) t2
        replace t1 := q2.cell t1 (by simp)
        replace u2 := frozen_kept q2 u1 (by simp) u2
        replace u1 := q2.cell u1 (by simp)
        have hOf : ∀ a b c : Value, Only [k] w2 (((w2.setCell ⟨k, 3, none⟩ a).setCell ⟨k, 2, none⟩ b).setCell ⟨k, 4, none⟩ c) := fun a b c => (((Only.refl [k] w2).setCell (.inl (by simp)) a).setCell (.inl (by simp)) b).setCell (.inl (by simp)) c
        replace hOf := hid hOf
        clear hcl hK2 hK3 hin2 own2
        go_wp2
        go_ret2
        rw [hres.out]
        exact ⟨rfl, by
          have hz : newBs w (((w2.setCell ⟨k, 3, none⟩ (.int .u64 (slot : Int))).setCell ⟨k, 2, none⟩ (.slice xa ids.length xc)).setCell ⟨k, 4, none⟩ (.bool true)) = newBs w w2 := by unfold newBs; simp [World.setCell]
          rw [hz]
          exact hfin.out, (ho.trans0 q2).trans (hOf.out _ _ _) (by simp) (by simp)⟩
end Go.Proofs.Ytnlmeaijnfjakaa.Sh
/- The keyper: names laid; a record written: walked. -/
namespace Go.Proofs.Ytnlmeaijnfjakaa.Sh
set_option linter.unusedSimpArgs false
set_option linter.unusedVariables false
open Go Go.RowKit

theorem numB_few (n : Nat) (h : n < 18446744073709551616) : (numB n).length ≤ 10 := numB_length 10 n (by omega) (by omega)

set_option maxRecDepth 20000 in
set_option maxHeartbeats 3200000 in
theorem putNames_any (w0 w : World) (v u : Value) (xs : List UInt8) (ids : List (List UInt8)) (B : Nat) (h0 : Only [] w0 w) (hB0 : w0.heap.size ≤ B) (hown : Ob B w v xs) (hx : xs.length ≤ 100) (hB : B ≤ w.heap.size) (hids : Dgs w0 u ids) (hn : ids.length ≤ 100) :
    Calls Try.prog 37 #[v, u] w fun e w' => ∃ v', e = .returned v' ∧ Ob B w' v' (xs ++ namesB ids) ∧ Only [] w0 w' := by
  obtain ⟨a, c, rfl⟩ := own_form hown
  obtain ⟨ua, uc, rfl, h1, h2, h3⟩ := hids.form
  have hu := Try.underlying35
  have hnb := numB_few ids.length (by omega)
  have pn := hid (putNum_any _ xs ids.length B w hown (by omega) (by omega) hB)
  have hwn : IntKind.u64.wrap (ids.length : Int) = (ids.length : Int) := by rw [IntKind.wrap_u64]; omega
  go_enter Try.func37, Try.ntmps37
  go_wp2_with fail
  refine pn.out.mono ?_
  rintro e w1 ⟨v1, rfl, own1, app1⟩
  have o1 : Only [] w0 w1 := h0.app app1 (fun i hi => .inr (by have := (hown.lt i hi).1; omega))
  have z1 : B ≤ w1.heap.size := Nat.le_trans hB app1.grown.size
  obtain ⟨xa, xc, rfl⟩ := own_form own1
  obtain ⟨y, hy⟩ : ∃ y, y = xs ++ numB ids.length := ⟨_, rfl⟩
  have hyl : y.length ≤ 110 := by rw [hy, List.length_append]; omega
  rw [← hy] at own1 ⊢
  have HY := hid hy
  clear pn hwn hy app1 hown
  go_wp2_with fail
  go_loopw [0, 14] (fun bv i wr => ∃ (j : Nat) (z : List UInt8), j ≤ ids.length ∧ i = .int .i64 j ∧ Hid (z = y ++ (ids.take j).flatten) ∧ z.length ≤ 110 + 32 * j ∧ Ob B wr bv z ∧ Only [] w0 wr ∧ B ≤ wr.heap.size) (fun _ i _ => ids.length - (intOf i).toNat)
  case atStart => exact ⟨0, y, Nat.zero_le _, rfl, hid (by simp), by omega, own1, o1, z1⟩
  case round =>
    obtain ⟨j, z, hj, rfl, hz, hzl, hown, ho, hsz⟩ := hrel
    obtain ⟨za, zc, rfl⟩ := own_form hown
    by_cases hlt : j < ids.length
    · obtain ⟨b, o, rfl, hr⟩ := (hids.kept0 ho).at j hlt
      have hl32 := hids.2 ids[j] (List.getElem_mem hlt)
      have hts : (ids.take (j + 1)).flatten = (ids.take j).flatten ++ ids[j] := by rw [List.take_succ_eq_append_getElem hlt, List.flatten_append]; simp only [List.flatten_cons, List.flatten_nil, List.append_nil]
      obtain ⟨d, hd⟩ : ∃ d, d = ids[j] := ⟨_, rfl⟩
      rw [← hd] at hr hl32 hts
      have hin : (Try.prog.info? 35).map (·.size) = some (bytes d).length := by rw [dig_info]; simp [bytes, hl32]
      have HTS := hid hts
      clear hts hd
      have oz : Only [] wr (wr.alloc (Obj.cells Z32 35)) := (Only.refl [] wr).alloc _
      have hth := (Dv.fresh wr 35).there
      go_wp2_with (first
        | (refine wpList_load_mid (by rfl) 35 _ (by rfl) b (o + j * 32) (by rfl) _ _ hr hu rfl hin ?_)
        | (refine wpList_alloc_run (by rfl) 35 (by rfl) (alloc_dig _) ?_)
        | (refine wpList_store_dig (by rfl) _ _ (by rfl) wr.heap.size d (bytes d).toArray (by rfl) (by rfl) rfl hl32 hth ?_; intro w2 hD2 q2)
        | (refine wpList_load_dig (by rfl) _ (by rfl) wr.heap.size d (by rfl) hD2 ?_))
      try simp only [Act.put, List.setIfInBounds_toArray, List.set_cons_zero, List.set_cons_succ]
      have q3 : Only [] wr w2 := oz.trans q2 (by simp) (fun y hy => .inr (by rw [List.mem_singleton.1 hy]; exact Nat.le_refl _))
      have s3 := q3.size
      have own2 := own_only0 hown q3
      refine (putDig_any _ z d B w2 own2 (by omega) hl32 (by omega)).mono ?_
      rintro e w3 ⟨v3, rfl, own3, app3⟩
      have o3 : Only [] w0 w3 := (ho.trans0 q3).app app3 (fun i hi => .inr (by have := (own2.lt i hi).1; omega))
      have z3 : B ≤ w3.heap.size := Nat.le_trans (Nat.le_trans hsz s3) app3.grown.size
      have hz3 : Hid (z ++ d = y ++ (ids.take (j + 1)).flatten) := by
        show _ = _
        rw [HTS.out, hz.out, List.append_assoc]
      have hzl3 : (z ++ d).length ≤ 110 + 32 * (j + 1) := by rw [List.length_append]; omega
      obtain ⟨Z, hZ⟩ : ∃ Z, Z = z ++ d := ⟨_, rfl⟩
      rw [← hZ] at own3 hz3 hzl3
      clear hZ own2 hown hr hth hD2 q2 hz
      go_wp2
      go_roundw
      case rel => exact ⟨j + 1, Z, by omega, by go_num, hz3, hzl3, own3, o3, z3⟩
      case measure => simp [intOf]; omega
    · obtain rfl : j = ids.length := by omega
      rw [List.take_length] at hz
      have hfin := hid (show Ob B wr (.slice za z.length zc) (xs ++ namesB ids) by
        have : z = xs ++ namesB ids := by rw [hz.out, HY.out]; simp [namesB]
        rw [← this]
        exact hown)
      clear hz hown
      go_wp2
      go_ret
      exact ⟨_, rfl, hfin.out, ho⟩

set_option maxRecDepth 20000 in
set_option maxHeartbeats 1600000 in
theorem kwrite_any (w : World) (k x mb : Nat) (ls ss : List Nat) (m : Km) (f : List UInt8) (rs : List (List UInt8)) (h : Kp w k x mb ls ss m f rs) (hl : ∀ i ∈ ls, i < w.heap.size) (hs : ∀ i ∈ ss, i < w.heap.size) (bv : Value) (b : List UInt8) (hb : Bs w bv b) (hbl : ∀ i, bv.ownBlock = some i → i ∉ ls) (hl1 : 1 ≤ b.length) (hl2 : b.length ≤ 1000) (hf : f.length ≤ 300000) (hrs : rs.length ≤ 1000000) :
    Calls Try.prog 33 #[.pointer (some ⟨k, 0, none⟩), bv] w fun e w' => e = .returned (.tuple #[]) ∧ (∃ ls', Kp w' k x mb ls' ss m (f ++ frameL b) (rs ++ [b]) ∧ (∀ i ∈ ls', i ∈ ls ∨ w.heap.size ≤ i) ∧ ∀ i ∈ ls', i < w'.heap.size) ∧ Only ls w w' := by
  obtain ⟨ba, bc, rfl⟩ := bs_form hb
  have c0 := h.c0
  have hnk := h.nk
  have ap := hid (lappend_good w x f [] b rs ls h.log _ hb (fun i hi => .inr (hbl i hi)) hl1 hl2 (by simpa using Nat.le_trans hf (by omega)) hrs)
  have hfl : (frameL b).length ≤ 1006 := by rw [frameL_length]; omega
  have sy := hid (fun W bs (hL : Lg W x f ([] ++ frameL b) (rs ++ [b]) bs) => lsync_any W x f ([] ++ frameL b) (rs ++ [b]) bs hL (by simp; omega))
  have H := hid h
  have hxl : x ∈ ls := h.log.2.1
  clear h
  go_enter Try.func33, Try.ntmps33
  go_wp2_with fail
  refine ap.out.mono ?_
  rintro e w1 ⟨rfl, hL1, o1⟩
  replace c0 := o1.cell c0 hnk.1
  go_wp2_with fail
  refine (sy.out _ _ hL1).mono ?_
  rintro e w2 ⟨rfl, hL2, o2⟩
  have O2 : Only ls w w2 := o1.trans o2 (fun y hy => hy) (fun y hy => .inl (by rw [List.mem_singleton.1 hy]; exact hxl))
  have s1 := o1.size
  have s2 := o2.size
  go_wp2
  go_end0
  refine ⟨rfl, ⟨ls ++ newBs w w1 ++ newBs w1 w2, ?_, ?_, ?_⟩, O2⟩
  · have h := H.out
    have hlt := h.lt
    obtain ⟨ov, v1, v2, v3⟩ := h.c2
    rw [List.nil_append] at hL2
    have hnew : ∀ i, i < w.heap.size → i ∉ ls → i ∉ ls ++ newBs w w1 ++ newBs w1 w2 := by
      intro i hi hn hm
      rcases List.mem_append.1 hm with hm | hm
      · rcases List.mem_append.1 hm with hm | hm
        · exact hn hm
        · have := mem_newBs.1 hm; omega
      · have := mem_newBs.1 hm; omega
    refine ⟨h.ty.only O2 hnk.1, O2.cell h.c0 hnk.1, O2.cell h.c1 hnk.1, ⟨ov, cell_kept O2 hnk.1 v1, v2.kept O2 (fun b hb => h.ns b (v3 b hb).1), fun i hi => ⟨(v3 i hi).1, (v3 i hi).2.only O2 (h.ns i (v3 i hi).1)⟩⟩, cell_kept O2 hnk.1 h.c3, cell_kept O2 hnk.1 h.c4, hL2,
      h.shs.only O2 hnk.2.2.1 (fun i hi => .inl (fun hm => h.ns i hm hi)), ⟨hnew k hlt.1 hnk.1, hnk.2.1, hnew mb hlt.2 hnk.2.2.1, hnk.2.2.2.1, hnk.2.2.2.2⟩, fun i hi => hnew i (hs i hi) (h.ns i hi)⟩
  · intro i hi
    rcases List.mem_append.1 hi with hi | hi
    · rcases List.mem_append.1 hi with hi | hi
      · exact .inl hi
      · exact .inr (mem_newBs.1 hi).1
    · have := mem_newBs.1 hi
      exact .inr (by omega)
  · intro i hi
    rcases List.mem_append.1 hi with hi | hi
    · rcases List.mem_append.1 hi with hi | hi
      · have := hl i hi; omega
      · have := mem_newBs.1 hi; omega
    · exact (mem_newBs.1 hi).2
end Go.Proofs.Ytnlmeaijnfjakaa.Sh
/- The keyper, whole: a share kept: walked. -/
namespace Go.Proofs.Ytnlmeaijnfjakaa.Sh
set_option linter.unusedSimpArgs false
set_option linter.unusedVariables false
open Go Go.RowKit

/-- A keyper at k that is what its records tell; all that it has lies in blocks B. -/
def KB (W : World) (k : Nat) (rs : List (List UInt8)) (B : List Nat) : Prop :=
  ∃ x mb ls ss, Kp W k x mb ls ss (openK rs) (flatL rs) rs ∧ (k ∈ B ∧ mb ∈ B ∧ (∀ i ∈ ls, i ∈ B) ∧ ∀ i ∈ ss, i ∈ B) ∧ (∀ i ∈ B, i < W.heap.size) ∧ ∀ r ∈ rs, 1 ≤ r.length ∧ r.length ≤ 1000
theorem KB.only {W W' : World} {k : Nat} {rs : List (List UInt8)} {B ds : List Nat} (h : KB W k rs B) (ho : Only ds W W') (hd : ∀ i ∈ ds, i ∉ B) : KB W' k rs B := by
  obtain ⟨x, mb, ls, ss, hK, ⟨h1, h2, h3, h4⟩, h5, h6⟩ := h
  have hs := ho.size
  exact ⟨x, mb, ls, ss, hK.only ho (fun i hi => ⟨fun e => hd i hi (by rw [e]; exact h1), fun e => hd i hi (by rw [e]; exact h2), fun hm => hd i hi (h3 i hm), fun hm => hd i hi (h4 i hm)⟩), ⟨h1, h2, h3, h4⟩, fun i hi => by have := h5 i hi; omega, h6⟩
theorem KB.kept0 {W W' : World} {k : Nat} {rs : List (List UInt8)} {B : List Nat} (h : KB W k rs B) (ho : Only [] W W') : KB W' k rs B := h.only ho (by simp)
theorem KB.lt {W : World} {k : Nat} {rs : List (List UInt8)} {B : List Nat} (h : KB W k rs B) : ∀ i ∈ B, i < W.heap.size := by
  obtain ⟨_, _, _, _, _, _, h5, _⟩ := h
  exact h5
theorem KB.more {W W' : World} {k : Nat} {rs : List (List UInt8)} {B : List Nat} (h : KB W' k rs B) : KB W' k rs (B ++ newBs W W') := by
  obtain ⟨x, mb, ls, ss, hK, ⟨h1, h2, h3, h4⟩, h5, h6⟩ := h
  refine ⟨x, mb, ls, ss, hK, ⟨List.mem_append_left _ h1, List.mem_append_left _ h2, fun i hi => List.mem_append_left _ (h3 i hi), fun i hi => List.mem_append_left _ (h4 i hi)⟩, fun i hi => ?_, h6⟩
  rcases List.mem_append.1 hi with hi | hi
  · exact h5 i hi
  · exact (mem_newBs.1 hi).2
theorem Bs.map {w w' : World} {bs : List Nat} {mb : Nat} {sh : List (List UInt8 × List UInt8)} (hs : Shs w bs mb sh) {v : Value} {l : List UInt8} (h : Bs w v l) (ho : Only [mb] w w') : Bs w' v l := by
  obtain ⟨hl, a, cap, rfl, h1, h2, h4, h3⟩ := h
  refine ⟨hl, a, cap, rfl, h1, h2, h4, h3.imp (fun h => h) (fun ⟨b, o, e, h⟩ => ⟨b, o, e, fun j u hu => ho.cell (h j u hu) ?_⟩)⟩
  have := hs.cell (h j u hu)
  simpa using this

def keepR (rs : List (List UInt8)) (d s : List UInt8) : List (List UInt8) := if (keepK (openK rs) d s).1 = 0 then rs ++ [rec1 d s] else rs
theorem keepK_ne {m : Km} {d s : List UInt8} (h : (keepK m d s).1 ≠ 0) : (keepK m d s).2 = m := by
  unfold keepK at h ⊢
  split at h
  · rename_i hc; rw [if_pos hc]
  · rename_i hc
    rw [if_neg hc]
    cases hg : getS m.sh d with
    | some t => simp only; split <;> rfl
    | none =>
      rw [hg] at h
      simp only at h ⊢
      split at h
      · rename_i hf; rw [if_pos hf]
      · simp at h
theorem keepK_len {m : Km} {d s : List UInt8} (h : (keepK m d s).1 = 0) : 1 ≤ s.length ∧ s.length ≤ 32 := by
  unfold keepK at h
  split at h
  · simp at h
  · omega

theorem flatL_snoc (rs : List (List UInt8)) (b : List UInt8) : flatL (rs ++ [b]) = flatL rs ++ frameL b := by simp [flatL]

theorem KB.mk {W w6 : World} {k x mb : Nat} {ls ss : List Nat} {m : Km} {rs : List (List UInt8)} {b : List UInt8} {B : List Nat} (hK : Kp w6 k x mb ls ss m (flatL rs ++ frameL b) (rs ++ [b])) (hm : m = openK (rs ++ [b])) (hb : 1 ≤ b.length ∧ b.length ≤ 1000) (hr : ∀ r ∈ rs, 1 ≤ r.length ∧ r.length ≤ 1000)
    (h1 : k ∈ B) (h2 : mb ∈ B) (h3 : ∀ i ∈ ls, (i ∈ B ∨ W.heap.size ≤ i) ∧ i < w6.heap.size) (h4 : ∀ i ∈ ss, (i ∈ B ∨ W.heap.size ≤ i) ∧ i < w6.heap.size) (h5 : ∀ i ∈ B, i < w6.heap.size) : KB w6 k (rs ++ [b]) (B ++ newBs W w6) := by
  have hin : ∀ i, (i ∈ B ∨ W.heap.size ≤ i) ∧ i < w6.heap.size → i ∈ B ++ newBs W w6 := by
    rintro i ⟨h | h, hl⟩
    · exact List.mem_append_left _ h
    · exact List.mem_append_right _ (mem_newBs.2 ⟨h, hl⟩)
  subst hm
  refine ⟨x, mb, ls, ss, by rw [flatL_snoc]; exact hK, ⟨List.mem_append_left _ h1, List.mem_append_left _ h2, fun i hi => hin i (h3 i hi), fun i hi => hin i (h4 i hi)⟩, fun i hi => ?_, fun r hr' => ?_⟩
  · rcases List.mem_append.1 hi with hi | hi
    · exact h5 i hi
    · exact (mem_newBs.1 hi).2
  · rcases List.mem_append.1 hr' with h | h
    · exact hr r h
    · rw [List.mem_singleton.1 h]; exact hb

def MKeepPost (W : World) (k : Nat) (B : List Nat) (c : Nat) (rs : List (List UInt8)) (e : Ending) (w' : World) : Prop :=
  e = .returned (.int .i64 (c : Int)) ∧ KB w' k rs (B ++ newBs W w') ∧ Only B W w'

set_option maxRecDepth 20000 in
set_option maxHeartbeats 3200000 in
theorem mkeep_any (W : World) (k : Nat) (rs : List (List UInt8)) (B : List Nat) (h : KB W k rs B) (d : List UInt8) (hd : d.length = 32) (sv : Value) (s : List UInt8) (hs : Bs W sv s) (hsl : s.length ≤ 1000) (hf : (flatL rs).length ≤ 300000) (hrs : rs.length ≤ 100000) :
    Calls Try.prog 14 #[.pointer (some ⟨k, 0, none⟩), vD d, sv] W (MKeepPost W k B (keepK (openK rs) d s).1 (keepR rs d s)) := by
  obtain ⟨sa, sc, rfl⟩ := bs_form hs
  obtain ⟨x, mb, ls, ss, hK, ⟨b1, b2, b3, b4⟩, b5, b6⟩ := h
  have hlt : ∀ i ∈ ls, i < W.heap.size := fun i hi => b5 i (b3 i hi)
  have hst : ∀ i ∈ ss, i < W.heap.size := fun i hi => b5 i (b4 i hi)
  have hD := Dv.boxed W d hd 35
  obtain ⟨w1, hw1⟩ : ∃ w1, w1 = W.alloc (Obj.cells (bytes d).toArray 35) := ⟨_, rfl⟩
  have o1 : Only [] W w1 := by rw [hw1]; exact (Only.refl [] W).alloc _
  have hD0 := hD
  rw [← hw1] at hD
  obtain ⟨g, hg⟩ : ∃ g, g = W.heap.size := ⟨_, rfl⟩
  rw [← hg] at hD
  have hgl : g < w1.heap.size := by rw [hg, hw1]; simp
  have hgm : g ≠ mb := by have := hK.lt.2; omega
  have HG := hid hg
  have z1 := o1.size
  have hK1 := hK.kept0 o1
  have kp := hid (keep_any w1 k x mb ls ss _ _ _ hK1 (fun i hi => by have := hlt i hi; omega) (open_inv rs) d hd _ s (hs.kept0 o1) (by omega))
  obtain ⟨r, hr⟩ : ∃ r, r = keepK (openK rs) d s := ⟨_, rfl⟩
  have HR := hid hr
  rw [← hr] at kp ⊢
  have HD := hid hd
  clear hr hd
  obtain ⟨c, m'⟩ := r
  rw [show vD d = .agg (bytes d).toArray from rfl]
  simp only
  go_enter Try.func14, Try.ntmps14
  go_wp2_with (refine wpList_load_dig (by rfl) _ (by rfl) W.heap.size d (by rfl) hD0 ?_)
  rw [← hw1, ← hg]
  clear hw1 hD0 hg
  refine kp.out.mono ?_
  rintro e w2 ⟨rfl, hK2, q2⟩
  have hD2 := hD.kept q2 (by simpa using hgm)
  have hs2 := (hs.kept0 o1).map hK1.shs q2
  have O2 : Only B W w2 := o1.trans q2 (by simp) (fun y hy => .inl (by rw [List.mem_singleton.1 hy]; exact b2))
  have z2 := q2.size
  by_cases h0 : c = 0
  · have hlen := keepK_len (m := openK rs) (d := d) (s := s) (by rw [← HR.out]; exact h0)
    have hm' : m' = openK (rs ++ [rec1 d s]) := by
      rw [openK_snoc, redo_rec1 _ _ _ HD.out hlen.2, ← HR.out]
    have hrr : keepR rs d s = rs ++ [rec1 d s] := by unfold keepR; rw [if_pos (by rw [← HR.out]; exact h0)]
    have HM := hid hm'
    have HRR := hid hrr
    have own0 := own_built w2 [.int .u8 1] 5 1 1 rfl (by unfold maxLen; omega)
    have so : Only [] w2 (w2.alloc (Obj.cells #[.int .u8 1] 5)) := (Only.refl [] w2).alloc _
    have hD3 := hD2.kept0 so
    have pd := fun W4 (hW : Only [] w2 W4) (hO : Ob w2.heap.size W4 (.slice (some ⟨w2.heap.size, 0, none⟩) 1 1) [1]) => putDig_any _ [1] d w2.heap.size W4 hO (by simp) HD.out hW.size
    obtain ⟨z, hz⟩ : ∃ z, z = ([1] ++ d : List UInt8) := ⟨_, rfl⟩
    have hd33 : z.length = 33 := by have := HD.out; rw [hz]; simp; omega
    simp only [← hz] at pd
    replace pd := hid pd
    have HD33 := hid hd33
    clear hm' hrr kp hd33
    subst h0
    go_wp2_with (refine wpList_load_dig (by rfl) _ (by rfl) g d (by rfl) hD3 ?_)
    refine (pd.out _ so own0).mono ?_
    rintro e w4 ⟨v4, rfl, own4, app4⟩
    have q4 : Only [] w2 w4 := so.app app4 (fun i hi => .inr (by simp [Value.ownBlock] at hi; omega))
    obtain ⟨xa, xc, rfl⟩ := own_form own4
    have z4 := q4.size
    have hz33 : z.length ≤ 33 := by have := HD33.out; omega
    have pt := hid (putText_any _ _ z s w2.heap.size w4 own4 (by omega) (by omega) z4 (hs2.kept0 q4) (fun i hi => (hs2.old i hi).imp (fun h => h) (fun h he => by have := (own4.lt i he).1; omega)))
    obtain ⟨y, hy⟩ : ∃ y, y = z ++ textB s := ⟨_, rfl⟩
    rw [← hy] at pt
    have hyr : y = rec1 d s := by rw [hy, hz]; rfl
    have hyl : y.length ≤ 1000 ∧ 1 ≤ y.length := by
      have := numB_few s.length (by omega)
      have h33 := HD33.out
      rw [hy, List.length_append]
      simp only [textB, List.length_append]
      omega
    rw [← hyr] at HM HRR
    clear hy hyr pd hD3 own0 hz
    go_wp2_with fail
    refine pt.out.mono ?_
    rintro e w5 ⟨v5, rfl, own5, app5⟩
    have q5 : Only [] w2 w5 := q4.app app5 (fun i hi => .inr (own4.lt i hi).1)
    have z5 := q5.size
    obtain ⟨ya, yc, rfl⟩ := own_form own5
    have hK5 := hK2.kept0 q5
    have hss5 : ∀ i ∈ ss ++ newBs w1 w2, (i ∈ B ∨ W.heap.size ≤ i) ∧ i < w5.heap.size := by
      intro i hi
      rcases List.mem_append.1 hi with hi | hi
      · exact ⟨.inl (b4 i hi), by have := hst i hi; omega⟩
      · have := mem_newBs.1 hi
        exact ⟨.inr (by omega), by omega⟩
    have kw := hid (kwrite_any w5 k x mb ls (ss ++ newBs w1 w2) m' (flatL rs) rs hK5 (fun i hi => by have := hlt i hi; omega) (fun i hi => (hss5 i hi).2) _ y (Cs.of_own own5 (by omega)) (fun i hi hm => by have := (own5.lt i hi).1; have := hlt i hm; omega) hyl.2 hyl.1 hf (by omega))
    have O5 : Only B W w5 := O2.trans q5 (fun y hy => hy) (by simp)
    clear pt own5 app5 own4 app4 hK2 hK5
    go_wp2_with fail
    refine kw.out.mono ?_
    rintro e w6 ⟨rfl, ⟨ls', hK6, hl6, hl6'⟩, q6⟩
    have z6 := q6.size
    have O6 : Only B W w6 := O5.trans q6 (fun y hy => hy) (fun y hy => .inl (b3 y hy))
    have hpost : MKeepPost W k B 0 (keepR rs d s) (.returned (.int .i64 ((0 : Nat) : Int))) w6 := by
      rw [HRR.out]
      refine ⟨rfl, KB.mk hK6 HM.out ⟨hyl.2, hyl.1⟩ b6 b1 b2 (fun i hi => ⟨?_, hl6' i hi⟩) (fun i hi => ⟨(hss5 i hi).1, by have := (hss5 i hi).2; omega⟩) (fun i hi => by have := b5 i hi; omega), O6⟩
      rcases hl6 i hi with h | h
      · exact .inl (b3 i h)
      · exact .inr (by omega)
    replace hpost := hid hpost
    clear hK6 hl6 hl6' kw
    go_wp2
    go_ret
    exact hpost.out
  · have hm' : m' = openK rs := by
      have := keepK_ne (m := openK rs) (d := d) (s := s) (by rw [← HR.out]; exact h0)
      rw [← HR.out] at this
      exact this
    have hrr : keepR rs d s = rs := by unfold keepR; rw [if_neg (by rw [← HR.out]; exact h0)]
    have hpost : MKeepPost W k B c (keepR rs d s) (.returned (.int .i64 (c : Int))) w2 := by
      rw [hrr]
      refine ⟨rfl, ⟨x, mb, ls, ss ++ newBs w1 w2, by rw [hm'] at hK2; exact hK2, ⟨List.mem_append_left _ b1, List.mem_append_left _ b2, fun i hi => List.mem_append_left _ (b3 i hi), fun i hi => ?_⟩, fun i hi => ?_, b6⟩, O2⟩
      · rcases List.mem_append.1 hi with hi | hi
        · exact List.mem_append_left _ (b4 i hi)
        · have := mem_newBs.1 hi
          exact List.mem_append_right _ (mem_newBs.2 ⟨by omega, by omega⟩)
      · rcases List.mem_append.1 hi with hi | hi
        · have := b5 i hi; omega
        · exact (mem_newBs.1 hi).2
    replace hpost := hid hpost
    have hcb : ((c : Int) == 0) = false := by rw [beq_eq_false_iff_ne]; omega
    clear hm' hrr kp hK2 h0
    go_wp2
    go_ret
    exact hpost.out
end Go.Proofs.Ytnlmeaijnfjakaa.Sh
/- The keyper, whole: shares forgotten: walked. -/
namespace Go.Proofs.Ytnlmeaijnfjakaa.Sh
set_option linter.unusedSimpArgs false
set_option linter.unusedVariables false
open Go Go.RowKit

theorem flatten_len : ∀ (ids : List (List UInt8)), (∀ d ∈ ids, d.length = 32) → ids.flatten.length = 32 * ids.length
  | [], _ => rfl
  | d :: ids, h => by
    rw [List.flatten_cons, List.length_append, flatten_len ids (fun x hx => h x (by simp [hx])), h d (by simp), List.length_cons]
    omega
theorem namesB_len (ids : List (List UInt8)) (h : ∀ d ∈ ids, d.length = 32) (hn : ids.length < 18446744073709551616) : (namesB ids).length ≤ 10 + 32 * ids.length := by
  have := numB_few ids.length hn
  unfold namesB
  rw [List.length_append, flatten_len ids h]
  omega
theorem forgetK_zero {m : Km} {ids : List (List UInt8)} (h : (forgetK m ids).1 = 0) : (forgetK m ids).2 = m := by
  have hs := forgetS_sub ids m.sh
  have he : forgetS m.sh ids = m.sh := hs.eq_of_length_le (by unfold forgetK at h; simp only at h; omega)
  unfold forgetK
  rw [he]
/-- A keyper of which nothing but the map of its shares was looked at. -/
theorem KB.same {W w2 : World} {k x mb : Nat} {ls ss : List Nat} {rs : List (List UInt8)} {B : List Nat} (hK : Kp w2 k x mb ls ss (openK rs) (flatL rs) rs) (h1 : k ∈ B) (h2 : mb ∈ B) (h3 : ∀ i ∈ ls, i ∈ B) (h4 : ∀ i ∈ ss, i ∈ B ∨ i ∈ newBs W w2) (h5 : ∀ i ∈ B, i < w2.heap.size) (h6 : ∀ r ∈ rs, 1 ≤ r.length ∧ r.length ≤ 1000) : KB w2 k rs (B ++ newBs W w2) := by
  refine ⟨x, mb, ls, ss, hK, ⟨List.mem_append_left _ h1, List.mem_append_left _ h2, fun i hi => List.mem_append_left _ (h3 i hi), fun i hi => List.mem_append.2 (h4 i hi)⟩, fun i hi => ?_, h6⟩
  rcases List.mem_append.1 hi with hi | hi
  · exact h5 i hi
  · exact (mem_newBs.1 hi).2

def mforgetE (rs ids : List (List UInt8)) : (Nat × Nat) × List (List UInt8) :=
  if 24 < ids.length then ((0, 1), rs) else (((forgetK (openK rs) ids).1, 0), if (forgetK (openK rs) ids).1 = 0 then rs else rs ++ [rec3 ids])
def MForgetPost (W : World) (k : Nat) (B : List Nat) (r : (Nat × Nat) × List (List UInt8)) (e : Ending) (w' : World) : Prop :=
  e = .returned (.tuple #[.int .i64 (r.1.1 : Int), .int .i64 (r.1.2 : Int)]) ∧ KB w' k r.2 (B ++ newBs W w') ∧ Only B W w'

set_option maxRecDepth 20000 in
set_option maxHeartbeats 1600000 in
theorem mforget_any (W : World) (k : Nat) (rs : List (List UInt8)) (B : List Nat) (h : KB W k rs B) (u : Value) (ids : List (List UInt8)) (hu : Dgs W u ids) (hf : (flatL rs).length ≤ 300000) (hrs : rs.length ≤ 100000) :
    Calls Try.prog 17 #[.pointer (some ⟨k, 0, none⟩), u] W (MForgetPost W k B (mforgetE rs ids)) := by
  obtain ⟨ua, uc, rfl, u1, u2, u3⟩ := hu.form
  by_cases h24 : 24 < ids.length
  · have hpost := hid (show MForgetPost W k B (mforgetE rs ids) (.returned (.tuple #[.int .i64 0, .int .i64 1])) W by
      unfold mforgetE
      rw [if_pos h24]
      exact ⟨rfl, h.more, Only.refl _ _⟩)
    clear h
    go_enter Try.func17, Try.ntmps17
    go_wp2
    go_ret2
    exact hpost.out
  · have hn24 : ids.length ≤ 24 := by omega
    obtain ⟨x, mb, ls, ss, hK, ⟨b1, b2, b3, b4⟩, b5, b6⟩ := h
    have fg := hid (forget_any W k x mb ls ss _ _ _ hK (open_inv rs) _ ids hu)
    have hres : mforgetE rs ids = (((forgetK (openK rs) ids).1, 0), if (forgetK (openK rs) ids).1 = 0 then rs else rs ++ [rec3 ids]) := by unfold mforgetE; rw [if_neg h24]
    rw [hres]
    clear hres h24
    obtain ⟨r, hr⟩ : ∃ r, r = forgetK (openK rs) ids := ⟨_, rfl⟩
    have HR := hid hr
    rw [← hr] at fg ⊢
    clear hr
    obtain ⟨n, m'⟩ := r
    simp only
    obtain ⟨RS, hRS⟩ : ∃ RS, RS = if n = 0 then rs else rs ++ [rec3 ids] := ⟨_, rfl⟩
    have HRS := hid hRS
    rw [← hRS]
    clear hRS
    have hnl : n ≤ 32 := by
      have h1 : n = (forgetK (openK rs) ids).1 := by rw [← HR.out]
      have h2 := (open_inv rs).few
      rw [h1]
      unfold forgetK
      simp only
      omega
    go_enter Try.func17, Try.ntmps17
    go_wp2_with fail
    refine fg.out.mono ?_
    rintro e w2 ⟨rfl, hK2, q2⟩
    have O2 : Only B W w2 := q2.mono (fun y hy => .inl (by rw [List.mem_singleton.1 hy]; exact b2))
    have z2 := q2.size
    by_cases h0 : n = 0
    · have hm' : m' = openK rs := by
        have := forgetK_zero (m := openK rs) (ids := ids) (by rw [← HR.out]; exact h0)
        rw [← HR.out] at this
        exact this
      have hpost : MForgetPost W k B ((n, 0), RS) (.returned (.tuple #[.int .i64 (n : Int), .int .i64 0])) w2 := by
        rw [HRS.out, if_pos h0]
        exact ⟨rfl, KB.same (by rw [hm'] at hK2; exact hK2) b1 b2 b3 (fun i hi => .inl (b4 i hi)) (fun i hi => by have := b5 i hi; omega) b6, O2⟩
      replace hpost := hid hpost
      clear hm' fg hK2
      subst h0
      go_wp2
      go_ret2
      exact hpost.out
    · have hn0 : 0 < n := by omega
      have HM := hid (show m' = openK (rs ++ [rec3 ids]) by rw [openK_snoc, redo_rec3 _ _ hu.2 hn24, ← HR.out])
      have own0 := own_built w2 [.int .u8 3] 5 1 1 rfl (by unfold maxLen; omega)
      have so : Only [] w2 (w2.alloc (Obj.cells #[.int .u8 3] 5)) := (Only.refl [] w2).alloc _
      have hu2 := hu.map hK.shs q2
      have pn := putNames_any w2 _ _ _ [3] ids w2.heap.size so (Nat.le_refl _) own0 (by simp) so.size hu2 (by omega)
      obtain ⟨y, hy⟩ : ∃ y, y = [3] ++ namesB ids := ⟨_, rfl⟩
      rw [← hy] at pn
      have hyr : y = rec3 ids := by rw [hy]; rfl
      have hyl : y.length ≤ 1000 ∧ 1 ≤ y.length := by
        have := namesB_len ids hu.2 (by omega)
        rw [hy, List.length_append]
        simp only [List.length_cons, List.length_nil]
        omega
      rw [← hyr] at HM
      have HYR := hid hyr
      replace pn := hid pn
      clear hy hyr fg own0
      go_wp2_with fail
      refine pn.out.mono ?_
      rintro e w5 ⟨v5, rfl, own5, q5⟩
      have z5 := q5.size
      obtain ⟨ya, yc, rfl⟩ := own_form own5
      have hK5 := hK2.kept0 q5
      have kw := hid (kwrite_any w5 k x mb ls ss m' (flatL rs) rs hK5 (fun i hi => by have := b5 i (b3 i hi); omega) (fun i hi => by have := b5 i (b4 i hi); omega) _ y (Cs.of_own own5 (by omega)) (fun i hi hm => by have := (own5.lt i hi).1; have := b5 i (b3 i hm); omega) hyl.2 hyl.1 hf (by omega))
      have O5 : Only B W w5 := O2.trans q5 (fun y hy => hy) (by simp)
      clear pn own5 hK2 hK5
      go_wp2_with fail
      refine kw.out.mono ?_
      rintro e w6 ⟨rfl, ⟨ls', hK6, hl6, hl6'⟩, q6⟩
      have z6 := q6.size
      have O6 : Only B W w6 := O5.trans q6 (fun y hy => hy) (fun y hy => .inl (b3 y hy))
      have hpost : MForgetPost W k B ((n, 0), RS) (.returned (.tuple #[.int .i64 (n : Int), .int .i64 0])) w6 := by
        rw [HRS.out, if_neg h0, ← HYR.out]
        refine ⟨rfl, KB.mk hK6 HM.out ⟨hyl.2, hyl.1⟩ b6 b1 b2 (fun i hi => ⟨?_, hl6' i hi⟩) (fun i hi => ⟨.inl (b4 i hi), by have := b5 i (b4 i hi); omega⟩) (fun i hi => by have := b5 i hi; omega), O6⟩
        rcases hl6 i hi with h | h
        · exact .inl (b3 i h)
        · exact .inr (by omega)
      replace hpost := hid hpost
      clear hK6 hl6 hl6' kw
      go_wp2
      go_ret2
      exact hpost.out
end Go.Proofs.Ytnlmeaijnfjakaa.Sh
/- The keyper, whole: an order committed, shares told: walked. -/
namespace Go.Proofs.Ytnlmeaijnfjakaa.Sh
set_option linter.unusedSimpArgs false
set_option linter.unusedVariables false
open Go Go.RowKit

/-- The shares of names. -/
def outL (sh : List (List UInt8 × List UInt8)) (ids : List (List UInt8)) : List (List UInt8) := ids.map (fun d => (getS sh d).getD [])
/-- Names that no block of the keyper holds. -/
theorem Dgs.only {w w' : World} {B : List Nat} {v : Value} {l : List (List UInt8)} (h : Dgs w v l) (hv : ∀ i, v.ownBlock = some i → l = [] ∨ i ∉ B) (ho : Only B w w') : Dgs w' v l := by
  by_cases hl : l = []
  · subst hl
    obtain ⟨⟨hl0, a, cap, rfl, h1, h2, h3, h4⟩, h5⟩ := h
    exact ⟨⟨hl0, a, cap, rfl, h1, h2, h3, .inl rfl⟩, h5⟩
  · exact h.kept ho (fun b hb => (hv b hb).resolve_left hl)

def mcommitR (rs : List (List UInt8)) (slot : Nat) (ids : List (List UInt8)) : List (List UInt8) := if (commitK (openK rs) slot ids).1.1 = true then rs ++ [rec2 slot ids] else rs
def mcommitL (rs : List (List UInt8)) (slot : Nat) (ids : List (List UInt8)) : List (List UInt8) := if (commitK (openK rs) slot ids).1.2 = 0 then outL (openK rs).sh ids else []
def MCommitPost (W : World) (k : Nat) (B : List Nat) (c : Nat) (L rs : List (List UInt8)) (e : Ending) (w' : World) : Prop :=
  ∃ ov V, e = .returned (.tuple #[ov, .int .i64 (c : Int)]) ∧ KB w' k rs (B ++ newBs W V) ∧ OwnBss V.heap.size w' ov L ∧ W.heap.size ≤ V.heap.size ∧ V.heap.size ≤ w'.heap.size ∧ Only B W w'
theorem commitK_ne {m : Km} {slot : Nat} {ids : List (List UInt8)} (h : (commitK m slot ids).1.1 = false) : (commitK m slot ids).2 = m := by
  unfold commitK at h ⊢
  split
  · rfl
  · rename_i h1
    rw [if_neg h1] at h
    split
    · rfl
    · rename_i h2
      rw [if_neg h2] at h
      split
      · split <;> rfl
      · rename_i h3
        rw [if_neg h3] at h
        cases h
theorem commitK_sh (m : Km) (slot : Nat) (ids : List (List UInt8)) : (commitK m slot ids).2.sh = m.sh := by
  unfold commitK
  split
  · rfl
  · split
    · rfl
    · split
      · split <;> rfl
      · rfl
theorem commitK_good {m : Km} {slot : Nat} {ids : List (List UInt8)} (h : (commitK m slot ids).1.2 = 0) : ids.length ≤ 8 := by
  unfold commitK at h
  split at h
  · cases h
  · rename_i h1
    omega
theorem commitK_fresh {m : Km} {slot : Nat} {ids : List (List UInt8)} (h : (commitK m slot ids).1.1 = true) : (commitK m slot ids).1.2 = 0 := by
  unfold commitK at h ⊢
  split at h
  · cases h
  · rename_i h1
    rw [if_neg h1]
    split at h
    · cases h
    · rename_i h2
      rw [if_neg h2]
      split at h
      · split at h <;> cases h
      · rename_i h3
        rw [if_neg h3]

set_option maxRecDepth 20000 in
set_option maxHeartbeats 3200000 in
theorem mcommit_any (W : World) (k : Nat) (rs : List (List UInt8)) (B : List Nat) (h : KB W k rs B) (slot : Nat) (hslot : slot < 18446744073709551616) (u : Value) (ids : List (List UInt8)) (hu : Dgs W u ids) (huB : ∀ i, u.ownBlock = some i → ids = [] ∨ i ∉ B) (hf : (flatL rs).length ≤ 300000) (hrs : rs.length ≤ 100000) :
    Calls Try.prog 15 #[.pointer (some ⟨k, 0, none⟩), .int .u64 (slot : Int), u] W (MCommitPost W k B (commitK (openK rs) slot ids).1.2 (mcommitL rs slot ids) (mcommitR rs slot ids)) := by
  obtain ⟨ua, uc, rfl, u1, u2, u3⟩ := hu.form
  have hda := Try.underlying35
  obtain ⟨x, mb, ls, ss, hK, ⟨b1, b2, b3, b4⟩, b5, b6⟩ := h
  have cm := hid (commit_any W k x mb ls ss _ _ _ hK (fun i hi => b5 i (b3 i hi)) (open_inv rs) slot hslot _ ids hu)
  have HCI := hid (commit_inv (open_inv rs) slot ids hslot hu.2)
  have HSH := hid (commitK_sh (openK rs) slot ids)
  have HNE := hid (fun h9 => commitK_ne (m := openK rs) (slot := slot) (ids := ids) h9)
  have HGD := hid (fun h9 => commitK_good (m := openK rs) (slot := slot) (ids := ids) h9)
  have HFR := hid (fun h9 => commitK_fresh (m := openK rs) (slot := slot) (ids := ids) h9)
  obtain ⟨RS, hRS⟩ : ∃ RS, RS = mcommitR rs slot ids := ⟨_, rfl⟩
  obtain ⟨LL, hLL⟩ : ∃ LL, LL = mcommitL rs slot ids := ⟨_, rfl⟩
  have hRS2 := hRS
  have hLL2 := hLL
  unfold mcommitR at hRS2
  unfold mcommitL at hLL2
  rw [← hRS, ← hLL]
  have HRD := hid (fun h8 => redo_rec2 (openK rs) slot ids hslot hu.2 h8)
  obtain ⟨r, hr⟩ : ∃ r, r = commitK (openK rs) slot ids := ⟨_, rfl⟩
  rw [← hr] at cm hRS2 hLL2 HCI HSH HNE HGD HFR HRD ⊢
  have HRS := hid hRS2
  have HLL := hid hLL2
  clear hr hRS hLL hRS2 hLL2
  obtain ⟨⟨fr, c⟩, m'⟩ := r
  simp only
  go_enter Try.func15, Try.ntmps15
  go_wp2_with fail
  refine cm.out.mono ?_
  rintro e w2 ⟨rfl, hK2, q2⟩
  have O2 : Only B W w2 := q2.mono (fun y hy => .inl (by rw [List.mem_singleton.1 hy]; exact b1))
  have z2 := q2.size
  have hss2 : ∀ i ∈ ss ++ newBs W w2, (i ∈ B ∨ W.heap.size ≤ i) ∧ i < w2.heap.size := by
    intro i hi
    rcases List.mem_append.1 hi with hi | hi
    · exact ⟨.inl (b4 i hi), by have := b5 i (b4 i hi); omega⟩
    · have := mem_newBs.1 hi
      exact ⟨.inr (by omega), by omega⟩
  by_cases hc : c = 0
  · have HI := HCI
    cases fr with
    | true =>
      subst hc
      have hids8 : ids.length ≤ 8 := HGD.out rfl
      have HM := hid (show m' = openK (rs ++ [rec2 slot ids]) by rw [openK_snoc, HRD.out hids8])
      have own0 := own_built w2 [.int .u8 2] 5 1 1 rfl (by unfold maxLen; omega)
      have so : Only [] w2 (w2.alloc (Obj.cells #[.int .u8 2] 5)) := (Only.refl [] w2).alloc _
      have hu2 := hu.only huB O2
      have hnl := numB_few slot hslot
      have pm := putNum_any _ [2] slot w2.heap.size _ own0 (by simp) hslot so.size
      obtain ⟨z, hz⟩ : ∃ z, z = ([2] ++ numB slot : List UInt8) := ⟨_, rfl⟩
      have hzl : z.length ≤ 11 := by rw [hz, List.length_append]; simp only [List.length_cons, List.length_nil]; omega
      rw [← hz] at pm
      have pn := fun w4 v4 (q : Only [] w2 w4) (o : Ob w2.heap.size w4 v4 z) => putNames_any w2 w4 v4 _ z ids w2.heap.size q (Nat.le_refl _) o (by omega) q.size hu2 (by omega)
      obtain ⟨y, hy⟩ : ∃ y, y = z ++ namesB ids := ⟨_, rfl⟩
      simp only [← hy] at pn
      have hyr : y = rec2 slot ids := by rw [hy, hz]; simp [rec2]
      have hyl : y.length ≤ 1000 ∧ 1 ≤ y.length := by
        have := namesB_len ids hu.2 (by omega)
        have h2 : 1 ≤ z.length := by rw [hz]; simp
        rw [hy, List.length_append]
        omega
      have HYR := hid hyr
      rw [← hyr] at HM
      replace pm := hid pm
      replace pn := hid pn
      clear hz hy hyr cm own0
      go_wp2_with fail
      refine pm.out.mono ?_
      rintro e w4 ⟨v4, rfl, own4, app4⟩
      have q4 : Only [] w2 w4 := so.app app4 (fun i hi => .inr (by simp [Value.ownBlock] at hi; omega))
      obtain ⟨xa, xc, rfl⟩ := own_form own4
      go_wp2_with fail
      refine (pn.out _ _ q4 own4).mono ?_
      rintro e w5 ⟨v5, rfl, own5, q5⟩
      have z5 := q5.size
      obtain ⟨ya, yc, rfl⟩ := own_form own5
      have hK5 := hK2.kept0 q5
      have kw := hid (kwrite_any w5 k x mb ls (ss ++ newBs W w2) m' (flatL rs) rs hK5 (fun i hi => by have := b5 i (b3 i hi); omega) (fun i hi => by have := (hss2 i hi).2; omega) _ y (Cs.of_own own5 (by omega)) (fun i hi hm => by have := (own5.lt i hi).1; have := b5 i (b3 i hm); omega) hyl.2 hyl.1 hf (by omega))
      have O5 : Only B W w5 := O2.trans q5 (fun y hy => hy) (by simp)
      clear pm pn own5 own4 app4 hK2 hK5
      go_wp2_with fail
      refine kw.out.mono ?_
      rintro e V ⟨rfl, ⟨ls', hKV, hl6, hl6'⟩, q6⟩
      have z6 := q6.size
      have hOV : Only B W V := O5.trans q6 (fun y hy => hy) (fun y hy => .inl (b3 y hy))
      have zV : W.heap.size ≤ V.heap.size := by omega
      have hKs := huB
      have hKBV : KB V k RS (B ++ newBs W V) := by
        have e2 : RS = rs ++ [y] := by rw [HRS.out, HYR.out]; simp
        rw [e2]
        refine KB.mk hKV HM.out ⟨hyl.2, hyl.1⟩ b6 b1 b2 (fun i hi => ⟨?_, hl6' i hi⟩) (fun i hi => ⟨(hss2 i hi).1, by have := (hss2 i hi).2; omega⟩) (fun i hi => by have := b5 i hi; omega)
        rcases hl6 i hi with h | h
        · exact .inl (b3 i h)
        · exact .inr (by omega)
      have hLLV : LL = outL m'.sh ids := by rw [HLL.out]; simp only [if_true]; rw [HSH.out]
      replace hKBV := hid hKBV
      replace hLLV := hid hLLV
      clear hl6 hl6' kw
      have hkm := hKV.c1
      have hgS := hid (fun (d : List UInt8) (hd : d.length = 32) => (show ∃ v s, (∀ U, Only [] V U → (Instr.lookup 75 (.map (some mb)) (.agg (bytes d).toArray) false).run Try.prog U = .ok v U) ∧ Bs V v s ∧ s = (getS m'.sh d).getD [] ∧ s.length ≤ 32 by
        cases hgs : getS m'.sh d with
        | none => exact ⟨.slice none 0 0, [], fun U hU => (hKV.shs.kept0 hU).look_none hd hgs false, Bs.empty (by unfold maxLen; omega), rfl, by simp⟩
        | some s =>
          obtain ⟨v, hY, hlk⟩ := hKV.shs.look_some HI.out.keys hd hgs
          exact ⟨v, s, fun U hU => hlk U hU false, hY.1, rfl, (HI.out.len _ (getS_some hgs)).2.2⟩))
      have huV := hu.only hKs hOV
      go_wp2_with fail
      go_loopw [10, 35] (fun out i wr => ∃ j : Nat, j ≤ ids.length ∧ i = .int .i64 j ∧ Hid (OwnBss V.heap.size wr out (outL m'.sh (ids.take j))) ∧ Only [] V wr) (fun _ i _ => ids.length - (intOf i).toNat)
      case atStart => exact ⟨0, Nat.zero_le _, rfl, hid ⟨[], World.ownsRow_nil _ _ _ _, .nil⟩, Only.refl _ _⟩
      case round =>
        obtain ⟨j, hj, rfl, hout, ho⟩ := hrel
        by_cases hlt : j < ids.length
        · obtain ⟨b, o, rfl, hr⟩ := (huV.kept0 ho).at j hlt
          have hl32 := huV.2 ids[j] (List.getElem_mem hlt)
          have hts : outL m'.sh (ids.take (j + 1)) = outL m'.sh (ids.take j) ++ [(getS m'.sh ids[j]).getD []] := by unfold outL; rw [List.take_succ_eq_append_getElem hlt, List.map_append]; rfl
          obtain ⟨d, hd⟩ : ∃ d, d = ids[j] := ⟨_, rfl⟩
          rw [← hd] at hr hl32 hts
          have hin : (Try.prog.info? 35).map (·.size) = some (bytes d).length := by rw [dig_info]; simp [bytes, hl32]
          obtain ⟨sv, s, hlk, hsv, hse, hsl⟩ := hgS.out d hl32
          rw [← hse] at hts
          have HTS := hid hts
          obtain ⟨vs, hvs, hels⟩ := hout.out
          have htl : (outL m'.sh (ids.take j)).length = j := by unfold outL; simp; omega
          rw [htl] at hvs
          obtain ⟨outa, outc, rfl⟩ := own_form hvs
          have hrow := hid (fun i (hi : (Value.slice outa j outc).ownBlock = some i) => hvs.lt i hi)
          clear hts hd hse htl
          have oz : Only [] wr (wr.alloc (Obj.cells Z32 35)) := (Only.refl [] wr).alloc _
          have hth := (Dv.fresh wr 35).there
          go_wp2_with (first
            | (refine wpList_load_mid (by rfl) 35 _ (by rfl) b (o + j * 32) (by rfl) _ _ hr hda rfl hin ?_)
            | (refine wpList_alloc_run (by rfl) 35 (by rfl) (alloc_dig _) ?_)
            | (refine wpList_store_dig (by rfl) _ _ (by rfl) wr.heap.size d (bytes d).toArray (by rfl) (by rfl) rfl hl32 hth ?_; intro w2 hD2 q2))
          simp only [Act.put, List.setIfInBounds_toArray, List.set_cons_zero, List.set_cons_succ]
          have q3 : Only [] wr w2 := oz.trans q2 (by simp) (fun y hy => .inr (by rw [List.mem_singleton.1 hy]; exact Nat.le_refl _))
          have qV : Only [] V w2.drew := (ho.trans0 q3).drew
          have od : Only [] wr w2.drew := q3.drew
          have hrd : w2.drew.rangeAt wr.heap.size 0 (bytes d) := hD2.range
          have hkd := qV.cell hkm (by simp)
          obtain ⟨sa, sc, rfl⟩ := bs_form hsv
          have cl := hid (clone_any _ s w2.drew (hsv.kept0 qV) (by omega))
          have hvs2 := own_only0 hvs od
          have hels2 := hels.imp (fun u x (h : wr.ownsRow V.heap.size 5 1 u x.length (bytes x) ∧ x.length ≤ 9223372036854775807) => (show w2.drew.ownsRow V.heap.size 5 1 u x.length (bytes x) ∧ x.length ≤ 9223372036854775807 from ⟨own_only0 h.1 od, h.2⟩))
          have hlkd := hid hlk
          have szV := ho.size
          have szw := q3.size
          replace hels2 := hid hels2
          clear hout hvs hels hr hth hD2 q2 hsv hlk
          go_region_held3 (fun U => U.cell? ⟨k, 1, none⟩ = some (.map (some mb)) ∧ U.rangeAt wr.heap.size 0 (bytes d) ∧ (Instr.lookup 75 (.map (some mb)) (.agg (bytes d).toArray) false).run Try.prog U = .ok (.slice sa s.length sc) U)
            (first
            | exact ⟨hkd, hrd, hlkd.out _ qV⟩
            | exact ⟨p3.cell hkd (by simp), fun j u hj => p3.cell (hrd j u hj) (by simp), hlkd.out _ (qV.trans0 p3)⟩
            | exact ⟨(p3.alloc _).cell hkd (by simp), fun j u hj => (p3.alloc _).cell (hrd j u hj) (by simp), hlkd.out _ (qV.trans0 (p3.alloc _))⟩
            | exact ⟨p4.cell hkm (by simp), fun j u hj => p5.cell (hrd j u hj) (fun hm => by have := (hrow.out _ (by simpa using hm)).2; omega), hlkd.out _ p4⟩)
            (first
            | (go_at_call 39; refine cl.out.mono ?_; rintro e w3 ⟨v3, rfl, hF3, p3⟩; obtain ⟨a3, c3, rfl⟩ := own_form hF3; have hvs3 := own_only0 hvs2 p3)
            | ((refine step_app (by rfl) _ _ 39 (by rfl) V.heap.size 27 1 24 el_bss (by rfl) (own_only0 hvs3 ((Only.refl [] w3).alloc _)) (by rfl) (Cs.fresh (cs := [_]) rfl) (one1 rfl) (by omega) (by omega) (by have := p3.size; simp only [World.size_alloc]; have := qV.size; omega) ?_); intro v4 w4 own4 app4; have p4 : Only [] V w4 := ((qV.trans0 p3).alloc _).app app4 (fun i hi => .inr (hrow.out i hi).1); have p5 : Only (Value.slice outa j outc).ownBlock.toList w2.drew w4 := ((p3.mono (by simp)).alloc _).app app4 (fun i hi => .inl (by simp [hi]))))
          have hels4 : All2 (fun u x => w4.ownsRow V.heap.size 5 1 u x.length (bytes x) ∧ x.length ≤ 9223372036854775807) (vs ++ [.slice a3 s.length c3]) (outL m'.sh (ids.take j) ++ [s]) := by
            have oa : Only [] w3 (w3.alloc (Obj.cells #[.slice a3 s.length c3] 27)) := (Only.refl [] w3).alloc _
            have hrw := own_only0 hvs3 oa
            refine All2.snoc (hels2.out.imp ?_) ⟨app4.other (own_only0 (own_lower hF3 qV.size) oa) (own_ne (own_only0 hF3 oa) hrw (by omega)), by omega⟩
            rintro u x ⟨h5, h6⟩
            have h7 := own_only0 (own_only0 h5 p3) oa
            exact ⟨app4.other h7 (own_ne h7 hrw (by omega)), h6⟩
          have hout4 : Hid (OwnBss V.heap.size w4 v4 (outL m'.sh (ids.take (j + 1)))) := by
            show OwnBss _ _ _ _
            rw [HTS.out]
            exact ⟨_, own_cast own4 (by unfold outL; simp; omega) rfl, hels4⟩
          clear hels4 hels2 own4 app4 hvs2 hvs3 hF3
          go_wp2
          go_roundw
          case rel => exact ⟨j + 1, by omega, by go_num, hout4, p4⟩
          case measure => simp [intOf]; omega
        · obtain rfl : j = ids.length := by omega
          rw [List.take_length] at hout
          have hpost := hid (show MCommitPost W k B 0 LL RS (.returned (.tuple #[_, .int .i64 ((0 : Nat) : Int)])) wr from ⟨_, V, rfl, hKBV.out.kept0 ho, by rw [hLLV.out]; exact hout.out, zV, ho.size, hOV.trans ho (fun y hy => hy) (by simp)⟩)
          clear hout
          go_wp2
          go_ret2
          exact hpost.out
    | false =>
      have hm' : m' = openK rs := HNE.out rfl
      have HMM := hid hm'
      obtain ⟨V, hV⟩ : ∃ V, V = w2 := ⟨_, rfl⟩
      have hKV : Kp V k x mb ls (ss ++ newBs W w2) m' (flatL rs) rs := by rw [hV]; exact hK2
      have hOV : Only B W V := by rw [hV]; exact O2
      have hKs := huB
      subst hc
      have hids8 : ids.length ≤ 8 := HGD.out rfl
      have zV : W.heap.size ≤ V.heap.size := by rw [hV]; exact z2
      have hKBV : KB V k RS (B ++ newBs W V) := by
        have e2 : RS = rs := by rw [HRS.out]; simp
        rw [e2, hV]
        refine KB.same (by rw [hm'] at hK2; exact hK2) b1 b2 b3 (fun i hi => ?_) (fun i hi => by have := b5 i hi; omega) b6
        rcases List.mem_append.1 hi with hi | hi
        · exact .inl (b4 i hi)
        · exact .inr hi
      have hLLV : LL = outL m'.sh ids := by rw [HLL.out]; simp only [if_true]; rw [HSH.out]
      replace hKBV := hid hKBV
      replace hLLV := hid hLLV
      rw [← hV]
      clear hV hm' cm hK2
      have hkm := hKV.c1
      have hgS := hid (fun (d : List UInt8) (hd : d.length = 32) => (show ∃ v s, (∀ U, Only [] V U → (Instr.lookup 75 (.map (some mb)) (.agg (bytes d).toArray) false).run Try.prog U = .ok v U) ∧ Bs V v s ∧ s = (getS m'.sh d).getD [] ∧ s.length ≤ 32 by
        cases hgs : getS m'.sh d with
        | none => exact ⟨.slice none 0 0, [], fun U hU => (hKV.shs.kept0 hU).look_none hd hgs false, Bs.empty (by unfold maxLen; omega), rfl, by simp⟩
        | some s =>
          obtain ⟨v, hY, hlk⟩ := hKV.shs.look_some HI.out.keys hd hgs
          exact ⟨v, s, fun U hU => hlk U hU false, hY.1, rfl, (HI.out.len _ (getS_some hgs)).2.2⟩))
      have huV := hu.only hKs hOV
      go_wp2_with fail
      go_loopw [10, 35] (fun out i wr => ∃ j : Nat, j ≤ ids.length ∧ i = .int .i64 j ∧ Hid (OwnBss V.heap.size wr out (outL m'.sh (ids.take j))) ∧ Only [] V wr) (fun _ i _ => ids.length - (intOf i).toNat)
      case atStart => exact ⟨0, Nat.zero_le _, rfl, hid ⟨[], World.ownsRow_nil _ _ _ _, .nil⟩, Only.refl _ _⟩
      case round =>
        obtain ⟨j, hj, rfl, hout, ho⟩ := hrel
        by_cases hlt : j < ids.length
        · obtain ⟨b, o, rfl, hr⟩ := (huV.kept0 ho).at j hlt
          have hl32 := huV.2 ids[j] (List.getElem_mem hlt)
          have hts : outL m'.sh (ids.take (j + 1)) = outL m'.sh (ids.take j) ++ [(getS m'.sh ids[j]).getD []] := by unfold outL; rw [List.take_succ_eq_append_getElem hlt, List.map_append]; rfl
          obtain ⟨d, hd⟩ : ∃ d, d = ids[j] := ⟨_, rfl⟩
          rw [← hd] at hr hl32 hts
          have hin : (Try.prog.info? 35).map (·.size) = some (bytes d).length := by rw [dig_info]; simp [bytes, hl32]
          obtain ⟨sv, s, hlk, hsv, hse, hsl⟩ := hgS.out d hl32
          rw [← hse] at hts
          have HTS := hid hts
          obtain ⟨vs, hvs, hels⟩ := hout.out
          have htl : (outL m'.sh (ids.take j)).length = j := by unfold outL; simp; omega
          rw [htl] at hvs
          obtain ⟨outa, outc, rfl⟩ := own_form hvs
          have hrow := hid (fun i (hi : (Value.slice outa j outc).ownBlock = some i) => hvs.lt i hi)
          clear hts hd hse htl
          have oz : Only [] wr (wr.alloc (Obj.cells Z32 35)) := (Only.refl [] wr).alloc _
          have hth := (Dv.fresh wr 35).there
          go_wp2_with (first
            | (refine wpList_load_mid (by rfl) 35 _ (by rfl) b (o + j * 32) (by rfl) _ _ hr hda rfl hin ?_)
            | (refine wpList_alloc_run (by rfl) 35 (by rfl) (alloc_dig _) ?_)
            | (refine wpList_store_dig (by rfl) _ _ (by rfl) wr.heap.size d (bytes d).toArray (by rfl) (by rfl) rfl hl32 hth ?_; intro w2 hD2 q2))
          simp only [Act.put, List.setIfInBounds_toArray, List.set_cons_zero, List.set_cons_succ]
          have q3 : Only [] wr w2 := oz.trans q2 (by simp) (fun y hy => .inr (by rw [List.mem_singleton.1 hy]; exact Nat.le_refl _))
          have qV : Only [] V w2.drew := (ho.trans0 q3).drew
          have od : Only [] wr w2.drew := q3.drew
          have hrd : w2.drew.rangeAt wr.heap.size 0 (bytes d) := hD2.range
          have hkd := qV.cell hkm (by simp)
          obtain ⟨sa, sc, rfl⟩ := bs_form hsv
          have cl := hid (clone_any _ s w2.drew (hsv.kept0 qV) (by omega))
          have hvs2 := own_only0 hvs od
          have hels2 := hels.imp (fun u x (h : wr.ownsRow V.heap.size 5 1 u x.length (bytes x) ∧ x.length ≤ 9223372036854775807) => (show w2.drew.ownsRow V.heap.size 5 1 u x.length (bytes x) ∧ x.length ≤ 9223372036854775807 from ⟨own_only0 h.1 od, h.2⟩))
          have hlkd := hid hlk
          have szV := ho.size
          have szw := q3.size
          replace hels2 := hid hels2
          clear hout hvs hels hr hth hD2 q2 hsv hlk
          go_region_held3 (fun U => U.cell? ⟨k, 1, none⟩ = some (.map (some mb)) ∧ U.rangeAt wr.heap.size 0 (bytes d) ∧ (Instr.lookup 75 (.map (some mb)) (.agg (bytes d).toArray) false).run Try.prog U = .ok (.slice sa s.length sc) U)
            (first
            | exact ⟨hkd, hrd, hlkd.out _ qV⟩
            | exact ⟨p3.cell hkd (by simp), fun j u hj => p3.cell (hrd j u hj) (by simp), hlkd.out _ (qV.trans0 p3)⟩
            | exact ⟨(p3.alloc _).cell hkd (by simp), fun j u hj => (p3.alloc _).cell (hrd j u hj) (by simp), hlkd.out _ (qV.trans0 (p3.alloc _))⟩
            | exact ⟨p4.cell hkm (by simp), fun j u hj => p5.cell (hrd j u hj) (fun hm => by have := (hrow.out _ (by simpa using hm)).2; omega), hlkd.out _ p4⟩)
            (first
            | (go_at_call 39; refine cl.out.mono ?_; rintro e w3 ⟨v3, rfl, hF3, p3⟩; obtain ⟨a3, c3, rfl⟩ := own_form hF3; have hvs3 := own_only0 hvs2 p3)
            | ((refine step_app (by rfl) _ _ 39 (by rfl) V.heap.size 27 1 24 el_bss (by rfl) (own_only0 hvs3 ((Only.refl [] w3).alloc _)) (by rfl) (Cs.fresh (cs := [_]) rfl) (one1 rfl) (by omega) (by omega) (by have := p3.size; simp only [World.size_alloc]; have := qV.size; omega) ?_); intro v4 w4 own4 app4; have p4 : Only [] V w4 := ((qV.trans0 p3).alloc _).app app4 (fun i hi => .inr (hrow.out i hi).1); have p5 : Only (Value.slice outa j outc).ownBlock.toList w2.drew w4 := ((p3.mono (by simp)).alloc _).app app4 (fun i hi => .inl (by simp [hi]))))
          have hels4 : All2 (fun u x => w4.ownsRow V.heap.size 5 1 u x.length (bytes x) ∧ x.length ≤ 9223372036854775807) (vs ++ [.slice a3 s.length c3]) (outL m'.sh (ids.take j) ++ [s]) := by
            have oa : Only [] w3 (w3.alloc (Obj.cells #[.slice a3 s.length c3] 27)) := (Only.refl [] w3).alloc _
            have hrw := own_only0 hvs3 oa
            refine All2.snoc (hels2.out.imp ?_) ⟨app4.other (own_only0 (own_lower hF3 qV.size) oa) (own_ne (own_only0 hF3 oa) hrw (by omega)), by omega⟩
            rintro u x ⟨h5, h6⟩
            have h7 := own_only0 (own_only0 h5 p3) oa
            exact ⟨app4.other h7 (own_ne h7 hrw (by omega)), h6⟩
          have hout4 : Hid (OwnBss V.heap.size w4 v4 (outL m'.sh (ids.take (j + 1)))) := by
            show OwnBss _ _ _ _
            rw [HTS.out]
            exact ⟨_, own_cast own4 (by unfold outL; simp; omega) rfl, hels4⟩
          clear hels4 hels2 own4 app4 hvs2 hvs3 hF3
          go_wp2
          go_roundw
          case rel => exact ⟨j + 1, by omega, by go_num, hout4, p4⟩
          case measure => simp [intOf]; omega
        · obtain rfl : j = ids.length := by omega
          rw [List.take_length] at hout
          have hpost := hid (show MCommitPost W k B 0 LL RS (.returned (.tuple #[_, .int .i64 ((0 : Nat) : Int)])) wr from ⟨_, V, rfl, hKBV.out.kept0 ho, by rw [hLLV.out]; exact hout.out, zV, ho.size, hOV.trans ho (fun y hy => hy) (by simp)⟩)
          clear hout
          go_wp2
          go_ret2
          exact hpost.out
  · have hfr : fr = false := by
      cases fr with
      | false => rfl
      | true => exact absurd (HFR.out rfl) hc
    have hm' : m' = openK rs := HNE.out hfr
    have hpost : MCommitPost W k B c LL RS (.returned (.tuple #[.slice none 0 0, .int .i64 (c : Int)])) w2 := by
      have e1 : LL = [] := by rw [HLL.out]; exact if_neg hc
      have e2 : RS = rs := by rw [HRS.out]; exact if_neg (by simp [hfr])
      rw [e1, e2]
      refine ⟨_, w2, rfl, KB.same (by rw [hm'] at hK2; exact hK2) b1 b2 b3 (fun i hi => ?_) (fun i hi => by have := b5 i hi; omega) b6, ⟨[], World.ownsRow_nil _ _ _ _, .nil⟩, z2, Nat.le_refl _, O2⟩
      rcases List.mem_append.1 hi with hi | hi
      · exact .inl (b4 i hi)
      · exact .inr hi
    replace hpost := hid hpost
    have hcb : ((c : Int) != 0) = true := by rw [bne_iff_ne]; omega
    clear hm' cm hK2 hc
    go_wp2
    go_ret2
    exact hpost.out
end Go.Proofs.Ytnlmeaijnfjakaa.Sh
/- The keyper: names, read: walked. -/
namespace Go.Proofs.Ytnlmeaijnfjakaa.Sh
set_option linter.unusedSimpArgs false
set_option linter.unusedVariables false
open Go Go.RowKit

/-- Names in new memory. -/
def OwnD (B : Nat) (w : World) (v : Value) (l : List (List UInt8)) : Prop := w.ownsRow B 35 32 v l.length (l.flatMap bytes) ∧ ∀ d ∈ l, d.length = 32
theorem OwnD.only {B : Nat} {w w' : World} {v : Value} {l : List (List UInt8)} (h : OwnD B w v l) {bs : List Nat} (ho : Only bs w w') (hn : ∀ k, v.ownBlock = some k → k ∉ bs) : OwnD B w' v l := ⟨own_only h.1 ho hn, h.2⟩
theorem OwnD.dgs {B : Nat} {w : World} {v : Value} {l : List (List UInt8)} (h : OwnD B w v l) (hl : l.length ≤ 1000000) : Dgs w v l := Dgs.of_own h.1 h.2 (by omega)

def ListPost (rb fb most : Nat) (l : List UInt8) (w : World) (e : Ending) (w' : World) : Prop :=
  Only [rb] w w' ∧ (∃ l', Rd w' rb fb l') ∧ ((listL most l).1 = 0 ∧ (∃ v', e = .returned v' ∧ OwnD w.heap.size w' v' (listL most l).2.1) ∧ Rd w' rb fb (listL most l).2.2 ∨ (listL most l).1 ≠ 0 ∧ e = .panicked (ownEnd rb (listL most l).1))
theorem digsL_cut : ∀ (k : Nat) (l : List UInt8), (digsL k l).2.1.length ≤ k
  | 0, _ => by simp [digsL]
  | k + 1, l => by
    unfold digsL
    split
    · have := digsL_cut k (digL l).2.2
      simp only [List.length_cons]
      omega
    · simp

theorem cells_names : ∀ ids : List (List UInt8), (ids.map vD).flatMap (fun v => v.cells.toList) = ids.flatMap bytes
  | [] => rfl
  | d :: ids => by
    rw [List.map_cons, List.flatMap_cons, List.flatMap_cons, cells_names ids]
    simp [vD, Value.cells]

set_option maxRecDepth 20000 in
theorem wpList_names {ops : Array Oper} {rest : List Oper} {o : Oper} {a : Act} {w : World} {Q : Exit → Act → World → Prop} (hg : o.guard = none) (len : Nat) (parts : Array (Nat × Operand)) (ho : o.op = .buildSlice 42 len parts)
    (ids : List (List UInt8)) (hd : ∀ d ∈ ids, d.length = 32) (hlen : len = ids.length) (h0 : 0 < len) (hs : len ≤ 100)
    (hp : (parts.map fun (i, x) => (i, a.eval x)).toList = ((ids.map vD).zipIdx 0).map fun x => (x.2, x.1))
    (h : wpList Try.prog ops Q rest (a.put o.dst (.slice (some ⟨w.heap.size, 0, none⟩) len len)) (w.alloc (.cells (ids.flatMap bytes).toArray 35))) : wpList Try.prog ops Q (o :: rest) a w := by
  obtain ⟨ie, h1, h2, h3, h4⟩ := info_parts (show (Try.prog.info? 35).map (fun i => (i.zero, i.size, i.bytes)) = some (some (.agg Z32), 32, 32) by kernel_rfl)
  have hz : (Value.agg Z32).cells.size = 32 := by simp [Value.cells, Z32, bytes]
  refine wpList_buildSlice hg 42 35 len parts ho (ids.flatMap bytes).toArray ie (.agg Z32) Try.underlying42 h1 h2 (by rw [h3]; omega) (by rw [h3]; omega) ?_ h
  rw [hp, h3]
  have := Go.Great.fill_whole (s := 32) (by omega) (ids.map vD) ((Array.range (len * 32)).map ((Value.agg Z32).cells[· % (Value.agg Z32).cells.size]!)) (fun v hv => by
    obtain ⟨d, hdm, rfl⟩ := List.mem_map.1 hv
    simp [vD, Value.cells, bytes, hd d hdm]) (by simp [hlen])
  rw [this]
  rw [cells_names]

theorem wpList_name1 {ops : Array Oper} {rest : List Oper} {dst : Option Tmp} {ty : TypeId} {pos : String} {after : Array Edge} {a : Act} {w : World} {Q : Exit → Act → World → Prop} (k : Tmp) (d : List UInt8) (hd : d.length = 32) (hv : a.eval (.tmp k) = vD d)
    (h : wpList Try.prog ops Q rest (a.put dst (.slice (some ⟨w.heap.size, 0, none⟩) 1 1)) (w.alloc (.cells ([d].flatMap bytes).toArray 35))) :
    wpList Try.prog ops Q ({ dst := dst, op := .buildSlice 42 1 #[(0, .tmp k)], type := ty, pos := pos, after := after, guard := none } :: rest) a w :=
  wpList_names (o := { dst := dst, op := .buildSlice 42 1 #[(0, .tmp k)], type := ty, pos := pos, after := after, guard := none }) rfl 1 #[(0, .tmp k)] rfl [d] (by simpa using hd) rfl (by omega) (by omega) (by simp [hv]) h

set_option maxRecDepth 20000 in
set_option maxHeartbeats 1600000 in
theorem list_any (rb fb most : Nat) (l : List UInt8) (w : World) (h : Rd w rb fb l) (hm : most ≤ 24) :
    Calls Try.prog 65 #[.pointer (some ⟨rb, 0, none⟩), .int .i64 most] w (ListPost rb fb most l w) := by
  have hrl := h.lt
  go_enter Try.func65, Try.ntmps65
  go_wp2_with fail
  refine (count_any rb fb most l w h (by omega)).mono ?_
  rintro e w1 ⟨ho1, hr1, hcase⟩
  rcases hcase with ⟨hz, rfl, hr⟩ | ⟨hz, rfl⟩
  · have hle := numL_most _ _ hz
    have hfb : fb < w.heap.size := by
      rcases h.fbl with rfl | h9
      · exact absurd hz (by simp [numL, numF])
      · exact h9
    have hll : listL most l = digsL (numL most l).2.1 (numL most l).2.2 := by unfold listL; rw [if_pos hz]
    obtain ⟨n, hn⟩ : ∃ n, n = (numL most l).2.1 := ⟨_, rfl⟩
    obtain ⟨l0, hl0⟩ : ∃ l0, l0 = (numL most l).2.2 := ⟨_, rfl⟩
    rw [← hl0] at hr hll
    rw [← hn] at hle hll ⊢
    have HLL := hid hll
    have s1 := ho1.size
    clear hn hz hl0 hll
    go_wp2_with fail
    go_loopw [5, 9] (fun ov i wr => ∃ (j : Nat) (lj : List UInt8) (ids : List (List UInt8)), j ≤ n ∧ i = .int .i64 j ∧ Rd wr rb fb lj ∧ OwnD w.heap.size wr ov ids ∧ Hid (ids.length = j) ∧ Hid (digsL n l0 = ((digsL (n - j) lj).1, ids ++ (digsL (n - j) lj).2.1, (digsL (n - j) lj).2.2)) ∧ Only [rb] w wr) (fun _ i _ => n - (intOf i).toNat)
    case atStart => exact ⟨0, l0, [], Nat.zero_le _, rfl, hr, ⟨World.ownsRow_nil _ _ _ _, by simp⟩, hid rfl, hid rfl, ho1⟩
    case round =>
      obtain ⟨j, lj, ids, hj, rfl, hrd, hown, hlen, heq, ho⟩ := hrel
      have hidl : ids.length ≤ 24 := by have := hlen.out; omega
      obtain ⟨oa, oc, rfl⟩ := own_form hown.1
      by_cases hlt : j < n
      · have hdg := dig_any rb fb lj wr hrd
        have hstep : n - j = (n - (j + 1)) + 1 := by omega
        go_wp2_with fail
        refine hdg.mono ?_
        rintro e w2 ⟨q2, hr2, hcase⟩
        have s2 := ho.size
        have s3 := q2.size
        rcases hcase with ⟨hz, rfl, hrd2⟩ | ⟨hz, rfl⟩
        · obtain ⟨d, hd⟩ : ∃ d, d = (digL lj).2.1 := ⟨_, rfl⟩
          obtain ⟨lk, hlk⟩ : ∃ lk, lk = (digL lj).2.2 := ⟨_, rfl⟩
          have hl32 : d.length = 32 := by
            rw [hd]
            unfold digL at hz ⊢
            split at hz
            · cases hz
            · rename_i h9
              rw [if_neg h9]
              simp; omega
          have heq2 : Hid (digsL n l0 = ((digsL (n - (j + 1)) lk).1, (ids ++ [d]) ++ (digsL (n - (j + 1)) lk).2.1, (digsL (n - (j + 1)) lk).2.2)) := by
            show _ = _
            rw [heq.out, hstep, digsL, if_pos hz, ← hd, ← hlk]
            simp
          rw [← hlk] at hrd2
          rw [← hd]
          have own2 := hown.only q2 (fun i hi hm => by have e1 := (hown.1.lt i hi).1; rw [List.mem_singleton] at hm; omega)
          clear hd hlk hz heq hstep hr2
          go_wp2_with (first
            | (refine wpList_name1 13 d hl32 (by rfl) ?_)
            | (at_builtin; refine wpList_app1 (by rfl) _ _ 42 (by rfl) w.heap.size 35 32 32 el_dig (by rfl) own2.1 ([d].flatMap bytes) (by rfl) (by simp [bytes, hl32]) (by simpa using bytes_one d) (by omega) (by omega) (by omega) ?_; intro v4 w4 own4 app4))
          have q4 : Only [rb] w w4 := (ho.trans q2 (ds := [rb]) (by simp) (by simp)).app app4 (fun i hi => .inr (own2.1.lt i hi).1)
          have own5 : OwnD w.heap.size w4 v4 (ids ++ [d]) := ⟨own_cast own4 (by simp) (by simp), fun x hx => by
            rcases List.mem_append.1 hx with hx | hx
            · exact own2.2 x hx
            · rw [List.mem_singleton.1 hx]; exact hl32⟩
          have hrd4 : Rd w4 rb fb lk := hrd2.kept ((Only.refl _ w2).app app4 (fun i hi => .inl (Option.mem_toList.2 hi))) (fun hm => by have e1 := (own2.1.lt rb (Option.mem_toList.1 hm)).1; omega) (.inr (fun hm => by have e1 := (own2.1.lt fb (Option.mem_toList.1 hm)).1; omega))
          have hlen2 : Hid ((ids ++ [d]).length = j + 1) := by
            show _ = _
            have := hlen.out
            simp; omega
          clear own4 own2 app4 hown hlen
          go_wp2
          go_roundw
          case rel => exact ⟨j + 1, lk, ids ++ [d], by omega, by go_num, hrd4, own5, hlen2, heq2, q4⟩
          case measure => simp [intOf]; omega
        · exact ⟨rfl, ho.trans q2 (by simp) (by simp), hr2, .inr ⟨by rw [HLL.out, heq.out, hstep, digsL, if_neg hz]; exact hz, by rw [HLL.out, heq.out, hstep, digsL, if_neg hz]⟩⟩
      · obtain rfl : j = n := by omega
        have hfin := hid (show ListPost rb fb most l w (.returned (.slice oa ids.length oc)) wr by
          have e2 := heq.out
          rw [Nat.sub_self] at e2
          simp only [digsL, List.append_nil] at e2
          refine ⟨ho, ⟨_, hrd⟩, .inl ⟨by rw [HLL.out, e2], ⟨_, rfl, by rw [HLL.out, e2]; exact hown⟩, by rw [HLL.out, e2]; exact hrd⟩⟩)
        clear hown hlen heq hrd
        go_wp2
        go_ret
        exact hfin.out
  · have hll : listL most l = ((numL most l).1, [], (numL most l).2.2) := by unfold listL; rw [if_neg hz]
    exact ⟨rfl, ho1, hr1, .inr ⟨by rw [hll]; exact hz, by rw [hll]⟩⟩
end Go.Proofs.Ytnlmeaijnfjakaa.Sh
/- What redo leaves to be done: the three closures: walked. -/
namespace Go.Proofs.Ytnlmeaijnfjakaa.Sh
set_option linter.unusedSimpArgs false
set_option linter.unusedVariables false
open Go Go.RowKit

section
variable (w : World) (k x mb : Nat) (ls ss : List Nat) (m : Km) (f : List UInt8) (rs : List (List UInt8))

set_option maxRecDepth 20000 in
set_option maxHeartbeats 1600000 in
theorem redo13_any (h : Kp w k x mb ls ss m f rs) (hi : KInv m) (kx ix : Nat) (v : Value) (ids : List (List UInt8)) (hk : w.cell? ⟨kx, 0, none⟩ = some (.pointer (some ⟨k, 0, none⟩))) (hv : w.cell? ⟨ix, 0, none⟩ = some v) (hd : Dgs w v ids) :
    Calls Try.prog 67 #[.pointer (some ⟨kx, 0, none⟩), .pointer (some ⟨ix, 0, none⟩)] w fun e w' => e = .returned (.tuple #[]) ∧ Kp w' k x mb ls ss (forgetK m ids).2 f rs ∧ Only [mb] w w' := by
  have hc := hid (forget_any w k x mb ls ss m f rs h hi v ids hd)
  go_enter Try.func67, Try.ntmps67
  go_wp2_with fail
  refine hc.out.mono ?_
  rintro e w1 ⟨rfl, h1, o1⟩
  go_wp2
  go_end0
  exact ⟨rfl, h1, o1⟩

set_option maxRecDepth 20000 in
set_option maxHeartbeats 1600000 in
theorem redo12_any (h : Kp w k x mb ls ss m f rs) (hl : ∀ i ∈ ls, i < w.heap.size) (hi : KInv m) (kx sx ix slot : Nat) (hslot : slot < 18446744073709551616) (v : Value) (ids : List (List UInt8)) (hk : w.cell? ⟨kx, 0, none⟩ = some (.pointer (some ⟨k, 0, none⟩))) (hs : w.cell? ⟨sx, 0, none⟩ = some (.int .u64 (slot : Int))) (hv : w.cell? ⟨ix, 0, none⟩ = some v) (hd : Dgs w v ids) :
    Calls Try.prog 66 #[.pointer (some ⟨kx, 0, none⟩), .pointer (some ⟨sx, 0, none⟩), .pointer (some ⟨ix, 0, none⟩)] w fun e w' => e = .returned (.tuple #[]) ∧ Kp w' k x mb ls (ss ++ newBs w w') (commitK m slot ids).2 f rs ∧ Only [k] w w' := by
  have hc := hid (commit_any w k x mb ls ss m f rs h hl hi slot hslot v ids hd)
  go_enter Try.func66, Try.ntmps66
  go_wp2_with fail
  refine hc.out.mono ?_
  rintro e w1 ⟨rfl, h1, o1⟩
  go_wp2
  go_end0
  exact ⟨rfl, h1, o1⟩

set_option maxRecDepth 20000 in
set_option maxHeartbeats 1600000 in
theorem redo11_any (h : Kp w k x mb ls ss m f rs) (hl : ∀ i ∈ ls, i < w.heap.size) (hi : KInv m) (kx dx sx : Nat) (d s : List UInt8) (v : Value) (hk : w.cell? ⟨kx, 0, none⟩ = some (.pointer (some ⟨k, 0, none⟩))) (hD : Dv w dx d) (hv : w.cell? ⟨sx, 0, none⟩ = some v) (hs : Bs w v s) (hsl : s.length ≤ 100000) :
    Calls Try.prog 63 #[.pointer (some ⟨kx, 0, none⟩), .pointer (some ⟨dx, 0, none⟩), .pointer (some ⟨sx, 0, none⟩)] w fun e w' => e = .returned (.tuple #[]) ∧ Kp w' k x mb ls (ss ++ newBs w w') (keepK m d s).2 f rs ∧ Only [mb] w w' := by
  have hc := hid (keep_any w k x mb ls ss m f rs h hl hi d hD.len v s hs hsl)
  go_enter Try.func63, Try.ntmps63
  go_wp2_with (refine wpList_load_dig (by rfl) _ (by rfl) dx d (by rfl) hD ?_)
  refine hc.out.mono ?_
  rintro e w1 ⟨rfl, h1, o1⟩
  go_wp2
  go_end0
  exact ⟨rfl, h1, o1⟩
end
end Go.Proofs.Ytnlmeaijnfjakaa.Sh
