/- The codec's reader: a digest: walked. -/
import Derived.Test.YtnlmeaijnfjakaaDigA
import Derived.Test.YtnlmeaijnfjakaaCodecK
namespace Go.Proofs.Ytnlmeaijnfjakaa.Sh
set_option linter.unusedSimpArgs false
set_option linter.unusedVariables false
open Go Go.RowKit

theorem step_copy_dig {ops : Array Oper} {o : Oper} {a : Act} {w : World} {K : Act → World → Prop} {Q : Exit → Act → World → Prop} {E : Prop} (hgd : o.guard = none) (d s : Operand)
    (ho : o.op = .call { callee := .builtin .copy, args := #[d, s], argTypes := #[27, 27] }) (g : Nat) {d0 l : List UInt8} {v : Value}
    (hd : a.eval d = .slice (some ⟨g, 0, none⟩) 32 32) (hs : a.eval s = v) (hD : Dv w g d0) (hB : Bs w v l) (hl : l.length = 32)
    (h : ∀ w', Dv w' g l → Only [g] w w' → K (a.put o.dst (.int .i64 32)) w') :
    if Region.wanted o (yielded ops a.tmps) = true then Oper.wp Try.prog o a w K Q else E := by
  have hw : Region.wanted o (yielded ops a.tmps) = true := by simp [Region.wanted, hgd]
  rw [if_pos hw]
  obtain ⟨b, ob, cap, rfl, _, _, _, hat⟩ := hB.form (by omega)
  have hrun := run_copy_cells (P := Try.prog) w 27 27 o.type 5 g 0 32 32 ⟨b, ob, none⟩ l.length cap (bytes l) Try.underlying27 (by kernel_rfl) (by simp [bytes, hl]) (fun j u hu => by rw [Addr.add_mid]; exact hat j u hu)
    (fun j hj => by have := (hD.there j (by simpa [bytes, hl] using hj)).1; simpa using this) (fun j hj => by have := (hD.there j (by simpa [bytes, hl] using hj)).2; simpa using this) (bytes_one l)
  have hgl : (goInt (bytes l).length) = Value.int .i64 32 := by simp [goInt, bytes, hl]
  rw [hgl] at hrun
  unfold Oper.wp
  simp [execOp, ho, resolve, invoke, builtin, hd, hs, hrun, Result.andThen]
  exact h _ (Dv.store hD.there l hl) (only_setCells [g] w g (.inl (by simp)) _ _ _ (Only.refl _ _))

theorem Rd.fbl {w : World} {rb fb : Nat} {l : List UInt8} (h : Rd w rb fb l) : l = [] ∨ fb < w.heap.size := by
  by_cases hl : 0 < l.length
  · obtain ⟨v, _, hB, hne⟩ := h.left
    obtain ⟨b, o, c, rfl, _, _, _, hat⟩ := hB.form hl
    have hb := World.block_lt_of_cell? w _ (hat 0 (vU8 l[0]) (bytes_get hl))
    simp only at hb
    rcases hne b rfl with h9 | rfl
    · exact .inl h9
    · exact .inr hb
  · exact .inl (List.eq_nil_of_length_eq_zero (by omega))

set_option maxRecDepth 20000 in
set_option maxHeartbeats 400000 in
theorem dig_ok (rb fb : Nat) (l : List UInt8) (w : World) (h : Rd w rb fb l) (hl : 32 ≤ l.length) :
    Calls Try.prog 61 #[.pointer (some ⟨rb, 0, none⟩)] w fun e w' => e = .returned (vD (l.take 32)) ∧ Rd w' rb fb (l.drop 32) ∧ Only [rb] w w' := by
  go_enter Try.func61, Try.ntmps61
  go_wp2_with (first
    | (refine wpList_alloc_run (by rfl) 35 (by rfl) (alloc_dig _) ?_))
  have hp2 : Only [] w ((w.alloc (Obj.cells Z32 35)).alloc (Obj.cells Z32 35)) := ((Only.refl [] w).alloc _).alloc _
  have hD0 := Dv.fresh (w.alloc (Obj.cells Z32 35)) 35
  have hR0 := (Dv.fresh w 35).kept ((Only.refl [] (w.alloc (.cells Z32 35))).alloc (.cells Z32 35)) (by simp)
  rw [World.size_alloc] at hD0 ⊢
  obtain ⟨w2, hw2⟩ : ∃ w2, w2 = (w.alloc (Obj.cells Z32 35)).alloc (Obj.cells Z32 35) := ⟨_, rfl⟩
  rw [← hw2] at hp2 hD0 hR0 ⊢
  obtain ⟨g, hg⟩ : ∃ g, g = w.heap.size + 1 := ⟨_, rfl⟩
  obtain ⟨r, hr⟩ : ∃ r, r = w.heap.size := ⟨_, rfl⟩
  rw [← hg] at hD0 ⊢
  rw [← hr] at hR0 ⊢
  have hrg : r < g := by omega
  have HG := hid hg
  have HR := hid hr
  clear hw2 hg hr
  have hrd2 := h.kept0 hp2
  have hrb := h.lt
  have hgrb : g ≠ rb := by have := HG.out; omega
  have hrrb : r ≠ rb := by have := HR.out; omega
  have hml : (l.take 32).length = 32 := by simp; omega
  go_region_held3 (fun _ => True) (exact trivial) (first
    | (go_at_call 87; refine (take_ok rb fb 32 l _ ?_ hl).mono ?_; (first | exact hrd2 | exact hrd2.kept0 (Only.refl [] w2).drew | exact hrd2.kept0 (Only.refl [] w2).drew.drew); rintro e w3 ⟨v3, rfl, hB3, hr3, hp3⟩; have hp23 : Only [rb] w2 w3 := (by first | exact hp3 | exact (Only.refl [] w2).drew.trans hp3 (by simp) (by simp)); have hD3 := hD0.kept hp23 (by simpa using hgrb))
    | (refine step_copy_dig (by rfl) _ _ (by rfl) g (by rfl) (by rfl) (by first | exact hD3 | exact hD3.kept (Only.refl [] w3).drew (by simp)) (by first | exact hB3 | exact hB3.kept0 (Only.refl [] w3).drew) hml ?_; intro w4 hD4 hp4))
  have hp34 : Only [g] w3 w4 := by first | exact hp4 | exact (Only.refl [] w3).drew.trans hp4 (by simp) (by simp)
  have hfbg : l.drop 32 = [] ∨ fb ≠ g := by
    rcases h.fbl with h9 | h9
    · exact .inl (by rw [h9]; simp)
    · exact .inr (by have := HG.out; omega)
  have hr4 := hr3.kept hp34 (by simpa using Ne.symm hgrb) (by simpa using hfbg)
  have hR4 := (hR0.kept hp23 (by simpa using hrrb)).kept hp34 (by simp; omega)
  have hp24 : Only [rb, g] w2 w4 := hp23.trans hp34 (by simp) (by simp)
  have ho4 : Only [rb] w w4 := hp2.trans hp24 (by simp) (by simp; have := HG.out; omega)
  go_wp2_with (first
    | (refine wpList_load_dig (by rfl) _ (by rfl) g (l.take 32) (by rfl) hD4 ?_)
    | (refine wpList_store_dig (by rfl) _ _ (by rfl) r (l.take 32) (bytes (l.take 32)).toArray (by rfl) (by rfl) rfl hml hR4.there ?_; intro w5 hD5 hp5))
  refine bodyPost_ret (results_dig rfl _ _ rfl hD5) rfl ?_
  have hfbr : l.drop 32 = [] ∨ fb ≠ r := by
    rcases h.fbl with h9 | h9
    · exact .inl (by rw [h9]; simp)
    · exact .inr (by have := HR.out; omega)
  exact ⟨rfl, hr4.kept hp5 (by simpa using Ne.symm hrrb) (by simpa using hfbr), ho4.trans hp5 (by simp) (by simp; have := HR.out; omega)⟩
end Go.Proofs.Ytnlmeaijnfjakaa.Sh
