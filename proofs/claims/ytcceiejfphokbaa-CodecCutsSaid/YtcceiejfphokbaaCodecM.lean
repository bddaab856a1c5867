/- CodecReads' function that reads: walked. -/
import Derived.Test.YtcceiejfphokbaaPlCodec
namespace Go.Proofs.Ytcceiejfphokbaa.Sh
open Go Go.RowKit

/-- Where the steps' function stands: what is left of the codec's reader is l, the document's reader is at p, without an error. -/
structure RS (w0 wS w : World) (lb db kb vb wb rb fb : Nat) (v : Value) (b l : List UInt8) (p d : Nat) : Prop where
  c : Caught w0 w lb db kb vb wb rb v d
  r : Rd w rb fb l
  f : Rf w wb fb b p 0
  o : Only [db, kb, wb, rb] wS w
  far : fb ∉ [lb, db, kb, vb, wb, rb]

section
variable {w0 wS w w' : World} {lb db kb vb wb rb fb : Nat} {v : Value} {b l : List UInt8} {p d : Nat}

theorem RS.new (h : RS w0 wS w lb db kb vb wb rb fb v b l p d) (ho : Only [] w w') : RS w0 wS w' lb db kb vb wb rb fb v b l p d :=
  ⟨h.c.kept ho (by simp) (by simp), h.r.kept0 ho, h.f.kept0 ho, h.o.trans ho (by simp) (by simp), h.far⟩
theorem RS.setDone (h : RS w0 wS w lb db kb vb wb rb fb v b l p d) (k : Nat) : RS w0 wS (w.setCell ⟨db, 0, none⟩ (.int .i64 (k : Int))) lb db kb vb wb rb fb v b l p k := by
  have hne := h.c.ne
  have hfar := h.far
  simp only [List.mem_cons, not_or, List.not_mem_nil, not_false_iff, and_true] at hfar
  have ho : Only [db] w (w.setCell ⟨db, 0, none⟩ (.int .i64 (k : Int))) := (Only.refl [db] w).setCell (.inl (by simp)) _
  exact ⟨h.c.setDone k, h.r.kept ho (by simp; omega) (.inr (by simp; omega)), h.f.kept ho (by simp; omega) (.inr (by simp; omega)), h.o.trans ho (by simp) (by simp), h.far⟩
theorem RS.setOk (h : RS w0 wS w lb db kb vb wb rb fb v b l p d) : RS w0 wS (w.setCell ⟨kb, 0, none⟩ (.bool true)) lb db kb vb wb rb fb v b l p d := by
  have hne := h.c.ne
  have hfar := h.far
  simp only [List.mem_cons, not_or, List.not_mem_nil, not_false_iff, and_true] at hfar
  have ho : Only [kb] w (w.setCell ⟨kb, 0, none⟩ (.bool true)) := (Only.refl [kb] w).setCell (.inl (by simp)) _
  obtain ⟨o1, l1, d1, dz, k1, kz, v1, n1, a1⟩ := h.c
  have l2 : db < w.heap.size := World.block_lt_of_cell? w _ d1
  refine ⟨⟨o1.setCell (.inr n1.2.2.1) _, ho.cell l1 (by simp; omega), ho.cell d1 (by simp; omega), ?_, World.cell?_setCell_same w _ _ k1, by simpa [go_sem] using kz, ho.cell v1 (by simp; omega), n1, a1⟩, h.r.kept ho (by simp; omega) (.inr (by simp; omega)), h.f.kept ho (by simp; omega) (.inr (by simp; omega)), h.o.trans ho (by simp) (by simp), h.far⟩
  rw [ho.frozen' l2 (by simp; omega)]
  exact dz
theorem RS.rd (h : RS w0 wS w lb db kb vb wb rb fb v b l p d) {l' : List UInt8} (ho : Only [rb] w w') (hr : Rd w' rb fb l') : RS w0 wS w' lb db kb vb wb rb fb v b l' p d := by
  have hne := h.c.ne
  have hfar := h.far
  have hnew := h.c.new
  simp only [List.mem_cons, not_or, List.not_mem_nil, not_false_iff, and_true] at hfar
  exact ⟨h.c.kept ho (by simp; omega) (by simp; omega), hr, h.f.kept ho (by simp; omega) (.inr (by simp; omega)), h.o.trans ho (by simp) (by simp), h.far⟩
theorem RS.rf (h : RS w0 wS w lb db kb vb wb rb fb v b l p d) {q : Nat} (ho : Only [wb] w w') (hf : Rf w' wb fb b q 0) : RS w0 wS w' lb db kb vb wb rb fb v b l q d := by
  have hne := h.c.ne
  have hfar := h.far
  have hnew := h.c.new
  simp only [List.mem_cons, not_or, List.not_mem_nil, not_false_iff, and_true] at hfar
  exact ⟨h.c.kept ho (by simp; omega) (by simp; omega), h.r.kept ho (by simp; omega) (.inr (by simp; omega)), hf, h.o.trans ho (by simp) (by simp), h.far⟩
end

/-- How it ends: all steps went, or one has ended the reading. -/
def ReadsPost (w0 wS : World) (lb db kb vb wb rb fb : Nat) (v : Value) (b : List UInt8) (steps : List Stp) (e : Ending) (w' : World) : Prop :=
  ∃ l p d, RS w0 wS w' lb db kb vb wb rb fb v b l p d ∧
    (e = .returned (.tuple #[]) ∧ d = steps.length ∧ stepsL steps b = (steps.length, 0, l) ∧ b.drop p = l ∨
     d < steps.length ∧ (stepsL steps b).1 = d ∧ (stepsL steps b).2.1 ≠ 0 ∧ (∃ s, steps[d]? = some s ∧ (stepL s (b.drop p)).1 = (stepsL steps b).2.1) ∧ e = .panicked (ownEnd rb (stepsL steps b).2.1))

theorem stepsL_go (steps : List Stp) (k p : Nat) (b : List UInt8) (hk : k < steps.length) (h : (stepsL (steps.take k) b) = (k, 0, b.drop p)) (hz : (stepL steps[k] (b.drop p)).1 = 0) :
    stepsL (steps.take (k + 1)) b = (k + 1, 0, (stepL steps[k] (b.drop p)).2) := by
  rw [List.take_succ_eq_append_getElem hk]
  have gen : ∀ (a : List Stp) (s : Stp) (x y : List UInt8), stepsL a x = (a.length, 0, y) → (stepL s y).1 = 0 → stepsL (a ++ [s]) x = (a.length + 1, 0, (stepL s y).2) := by
    intro a
    induction a with
    | nil =>
      intro s x y h1 h2
      simp only [stepsL, List.length_nil, Prod.mk.injEq, true_and] at h1
      subst h1
      simp [stepsL, h2]
    | cons c a ih =>
      intro s x y h1 h2
      simp only [List.cons_append, stepsL] at h1 ⊢
      by_cases hc : (stepL c x).1 = 0
      · rw [if_pos hc] at h1 ⊢
        simp only [List.length_cons, Prod.mk.injEq, Nat.add_right_cancel_iff] at h1
        rw [ih s _ y (by rw [← h1.1]; exact Prod.ext rfl h1.2) h2]
        rfl
      · rw [if_neg hc] at h1
        simp at h1
  have hl : (steps.take k).length = k := by simp; omega
  have := gen (steps.take k) steps[k] b (b.drop p) (by rw [hl]; exact h) hz
  rw [hl] at this
  exact this

theorem stepsL_err (steps : List Stp) (k p : Nat) (b : List UInt8) (hk : k < steps.length) (h : (stepsL (steps.take k) b) = (k, 0, b.drop p)) (hz : (stepL steps[k] (b.drop p)).1 ≠ 0) :
    stepsL steps b = (k, (stepL steps[k] (b.drop p)).1, b.drop p) := by
  have gen : ∀ (a r : List Stp) (s : Stp) (x y : List UInt8), stepsL a x = (a.length, 0, y) → (stepL s y).1 ≠ 0 → stepsL (a ++ s :: r) x = (a.length, (stepL s y).1, y) := by
    intro a
    induction a with
    | nil =>
      intro r s x y h1 h2
      simp only [stepsL, List.length_nil, Prod.mk.injEq, true_and] at h1
      subst h1
      simp [stepsL, h2]
    | cons c a ih =>
      intro r s x y h1 h2
      simp only [List.cons_append, stepsL] at h1 ⊢
      by_cases hc : (stepL c x).1 = 0
      · rw [if_pos hc] at h1 ⊢
        simp only [List.length_cons, Prod.mk.injEq, Nat.add_right_cancel_iff] at h1
        rw [ih r s _ y (by rw [← h1.1]; exact Prod.ext rfl h1.2) h2]
        rfl
      · rw [if_neg hc] at h1
        simp at h1
  have hl : (steps.take k).length = k := by simp; omega
  have := gen (steps.take k) (steps.drop (k + 1)) steps[k] b (b.drop p) (by rw [hl]; exact h) hz
  rw [hl, ← List.drop_eq_getElem_cons hk, List.take_append_drop] at this
  exact this

theorem textL_len (m : Nat) (l : List UInt8) (h : (textL m l).1 = 0) : (textL m l).2.1.length ≤ l.length := by
  have hi := textL_inv m l h
  have := congrArg List.length hi
  simp [textB] at this
  omega
theorem digL_len (l : List UInt8) (h : (digL l).1 = 0) : (digL l).2.1.length = 32 ∧ (digL l) = (0, l.take 32, l.drop 32) ∧ 32 ≤ l.length := by
  unfold digL at h ⊢
  split at h
  · cases h
  · rename_i h1
    rw [if_neg h1]
    refine ⟨by simp; omega, rfl, by omega⟩
theorem digest_32 (v : Value) (s : List UInt8) (w : World) (hB : Bs w v s) (hl : s.length = 32) :
    Calls Try.prog 38 #[v] w fun e w' => e = .returned (.agg (bytes s).toArray) ∧ Only [] w w' :=
  (digest_any v s w hB (by omega)).mono fun e w' ⟨h1, h2⟩ => ⟨by rw [h1, vD, show padL s = s by unfold padL; rw [List.take_of_length_le (by omega), show 32 - s.length = 0 by omega]; simp], h2⟩

theorem same_eq (v u : Value) (l : List UInt8) (w : World) (hv : Bs w v l) (hu : Bs w u l) :
    Calls Try.prog 25 #[v, u] w fun e w' => e = .returned (.bool true) ∧ Only [] w w' :=
  (same_any v u l l w hv hu).mono fun e w' ⟨h1, h2⟩ => ⟨by rw [h1, decide_eq_true rfl], h2⟩

set_option maxRecDepth 20000 in
set_option maxHeartbeats 6400000 in
theorem reads_by (w0 wS : World) (lb db kb vb wb rb fb : Nat) (v : Value) (steps : List Stp) (b : List UInt8) (hS : Steps w0 v steps) (hok : ∀ s ∈ steps, s.ok) (hbl : b.length ≤ 1000000) (d0 : Nat) (h0 : RS w0 wS wS lb db kb vb wb rb fb v b b 0 d0) :
    Calls Try.prog 31 #[.pointer (some ⟨rb, 0, none⟩), .pointer (some ⟨lb, 0, none⟩), .pointer (some ⟨db, 0, none⟩), .pointer (some ⟨kb, 0, none⟩), .pointer (some ⟨vb, 0, none⟩)] wS (ReadsPost w0 wS lb db kb vb wb rb fb v b steps) := by
  obtain ⟨a, cap, rfl, h1, h2, h3⟩ := hS.form
  have hlist := h0.c.list
  go_enter Try.func31, Try.ntmps31
  go_wp2_with fail
  go_loopw [14] (fun i wr => ∃ (k p d : Nat), k ≤ steps.length ∧ i = .int .i64 k ∧ Hid (stepsL (steps.take k) b = (k, 0, b.drop p)) ∧ RS w0 wS wr lb db kb vb wb rb fb (.slice a steps.length cap) b (b.drop p) p d) (fun i _ => steps.length - (intOf i).toNat)
  case atStart => exact ⟨0, 0, d0, Nat.zero_le _, rfl, hid rfl, h0⟩
  case round =>
    obtain ⟨k, p, d, hk, rfl, hst, hR⟩ := hrel
    have hlist' := hR.c.list
    by_cases hlt : k < steps.length
    · obtain ⟨sb, so, sx, rfl, c1, c2, c3, hB⟩ := (hS.kept0 hR.c.only).at k hlt
      have hd := hR.c.done
      have hdz := hR.c.doneZ
      have hdl : db < wr.heap.size := World.block_lt_of_cell? wr _ hd
      have hdl' : db ≠ wr.heap.size := by omega
      obtain ⟨s, hs⟩ : ∃ s, s = steps[k] := ⟨_, rfl⟩
      have hsok := hok s (by rw [hs]; exact List.getElem_mem hlt)
      have hgo := hid (fun hz => stepsL_go steps k p b hlt hst.out hz)
      have herr := hid (fun hz => stepsL_err steps k p b hlt hst.out hz)
      have hat := hid (show steps[k]? = some s by rw [hs]; exact List.getElem?_eq_getElem hlt)
      rw [← hs] at c1 c2 hB hgo herr
      obtain ⟨_, xa, xc, rfl, _, _, _, _⟩ := id hB
      obtain ⟨w1, hw1⟩ : ∃ w1, w1 = ((wr.setCell ⟨db, 0, none⟩ (.int .i64 (k : Int))).alloc (Obj.cells #[Value.int .i64 s.kind, Value.int .u64 s.n, Value.slice xa s.s.length xc] 57)) := ⟨_, rfl⟩
      have hR1 : RS w0 wS w1 lb db kb vb wb rb fb (.slice (some ⟨sb, so, none⟩) steps.length cap) b (b.drop p) p k := by
        rw [hw1]
        exact (hR.setDone k).new ((Only.refl [] _).alloc _)
      have hsc : w1.cell? ⟨wr.heap.size, 1, none⟩ = some (.int .u64 s.n) := by rw [hw1]; simp [go_sem]
      have hsn := hsok.2.2
      obtain ⟨y, hy⟩ : ∃ y, y = wr.heap.size := ⟨_, rfl⟩
      have hyl : y < w1.heap.size := by rw [hy]; exact World.block_lt_of_cell? w1 _ hsc
      have hyn : (y ≠ rb ∧ y ≠ wb) := by
        have := hR.r.lt
        have := hR.f.lt
        omega
      have hend : ∀ (w' : World) (l' : List UInt8), RS w0 wS w' lb db kb vb wb rb fb (.slice (some ⟨sb, so, none⟩) steps.length cap) b l' p k → ∀ c, (stepL s (b.drop p)).1 = c → c ≠ 0 → ReadsPost w0 wS lb db kb vb wb rb fb (.slice (some ⟨sb, so, none⟩) steps.length cap) b steps (.panicked (ownEnd rb c)) w' := by
        intro w' l' hR' c hc hne
        have he := herr.out (by rw [hc]; exact hne)
        exact ⟨l', p, k, hR', .inr ⟨hlt, by rw [he], by rw [he, hc]; exact hne, ⟨s, hat.out, by rw [he]⟩, by rw [he, hc]⟩⟩
      have hend := hid hend
      have hgo' : ∀ (w' : World) (q : Nat), (stepL s (b.drop p)).1 = 0 → (stepL s (b.drop p)).2 = b.drop q → RS w0 wS w' lb db kb vb wb rb fb (.slice (some ⟨sb, so, none⟩) steps.length cap) b (b.drop q) q k → ∃ (k' p' d' : Nat), k' ≤ steps.length ∧ Value.int .i64 ((k : Int) + 1) = .int .i64 k' ∧ Hid (stepsL (steps.take k') b = (k', 0, b.drop p')) ∧ RS w0 wS w' lb db kb vb wb rb fb (.slice (some ⟨sb, so, none⟩) steps.length cap) b (b.drop p') p' d' := by
        intro w' q h5 h6 h7
        exact ⟨k + 1, q, k, by omega, by go_num, hid (by rw [hgo.out h5, h6]), h7⟩
      have hgo' := hid hgo'
      clear hs hgo herr hat hst hlist hok h0
      by_cases k1 : s.kind = 1
      · have hk1 : (s.kind == 1) = true := by simp [k1]
        have hsL := hid (show stepL s (b.drop p) = ((numL s.n (b.drop p)).1, (numL s.n (b.drop p)).2.2) by unfold stepL; rw [if_pos k1])
        rw [k1] at hw1
        go_wp2_with fail
        rw [← hw1]
        rw [← hy] at hsc ⊢
        clear hw1 c1 c2 c3 hy
        refine (number_any rb fb s.n _ w1 hR1.r hsn).mono ?_
        rintro e w2 ⟨hp2, ⟨l2, hr2⟩, hcase⟩
        rcases hcase with ⟨hz, rfl, hr2⟩ | ⟨hz, rfl⟩
        · have hR2 := hR1.rd hp2 hr2
          have hvar := hR2.c.var
          have hokv := hR2.c.okV
          have hokz := hR2.c.okZ
          have hsc2 := hp2.cell hsc (by simp; omega)
          go_wp2_with fail
          refine (refNum_any wb fb s.n b p w2 hR2.f hsn hbl).mono ?_
          rintro e w3 ⟨hp3, rfl, q, hf3, hq⟩
          rw [hz] at hf3
          have hR3 := hR2.rf hp3 hf3
          have hfin := hid (hgo'.out _ q (by rw [hsL.out]; exact hz) (by rw [hsL.out]; exact (hq hz).symm) (by have := hR3.setOk; rw [← hq hz] at this; exact this))
          have hok3 := hR3.c.okV
          have hokz3 := hR3.c.okZ
          have heq : (((numL s.n (b.drop p)).2.1 : Int) == ((numL s.n (b.drop p)).2.1 : Int)) = true := by simp
          clear hz hq
          go_wp2_with fail
          go_roundw
          case rel => exact hfin.out
          case measure => simp [intOf]; omega
        · exact ⟨rfl, hend.out _ _ (hR1.rd hp2 hr2) _ (by rw [hsL.out]) hz⟩
      · by_cases k2 : s.kind = 2
        · have hk2 : (s.kind == 2) = true := by simp [k2]
          have hsL := hid (show stepL s (b.drop p) = ((textL (s.n % 5000) (b.drop p)).1, (textL (s.n % 5000) (b.drop p)).2.2) by unfold stepL; rw [if_neg k1, if_pos k2])
          have hheld := fun w => held_any s.n w hsn
          obtain ⟨m, hm⟩ : ∃ m, m = s.n % 5000 := ⟨_, rfl⟩
          have hmb : m < 5000 := by omega
          rw [← hm] at hsL
          simp only [← hm] at hheld
          have hheld := hid hheld
          rw [k2] at hw1
          clear k1 hm
          go_wp2_with fail
          rw [← hw1]
          rw [← hy] at hsc ⊢
          clear hw1 c1 c2 c3 hy
          refine (hheld.out w1).mono ?_
          rintro e w' ⟨rfl, rfl⟩
          go_wp2_with fail
          refine (text_any rb fb m _ w' hR1.r (by omega)).mono ?_
          rintro e w2 ⟨hp2, ⟨l2, hr2⟩, hcase⟩
          rcases hcase with ⟨hz, ⟨v2, rfl, hv2⟩, hr2⟩ | ⟨hz, rfl⟩
          · have hR2 := hR1.rd hp2 hr2
            have hvar := hR2.c.var
            have hokv := hR2.c.okV
            have hokz := hR2.c.okZ
            have hsc2 := hp2.cell hsc (by simp; omega)
            have hB2 : Bs w2 v2 (textL m (b.drop p)).2.1 := Cs.of_own hv2 (by have := textL_len m (b.drop p) hz; simp at this; omega)
            have hv2n : ∀ b, v2.ownBlock = some b → b ∉ [wb] := by
              intro i hi
              have h5 := (hv2.lt i hi).1
              have h6 := hR1.f.lt
              simp only [List.mem_singleton]
              omega
            have hod : Only [] w2 w2.drew := (Only.refl [] w2).drew
            have hRd := hR2.new hod
            have hBd := hB2.kept0 hod
            have hscd := hod.cell hsc2 (by simp)
            go_wp2_with fail
            go_region_held3 (fun w' => w'.cell? ⟨kb, 0, none⟩ = some (.bool true) ∧ w'.cell? ⟨vb, 0, none⟩ = some (.pointer (some ⟨wb, 0, none⟩)) ∧ w'.cell? ⟨y, 1, none⟩ = some (.int .u64 s.n)) (first | exact ⟨hokv, hvar, hsc2⟩ | exact ⟨hR3.c.okV, hR3.c.var, hsc3⟩ | exact ⟨hR4.c.okV, hR4.c.var, hsc4⟩ | exact ⟨hR4.setOk.c.okV, hR4.setOk.c.var, hsc5⟩) (first
              | (go_at_call 35; refine (hheld.out _).mono ?_; rintro e w' ⟨rfl, rfl⟩)
              | (go_at_call 36; refine (refText_any wb fb m b p _ hRd.f (by omega) hbl).mono ?_; rintro e w3 ⟨hp3, v3, q, rfl, hB3, hf3, hq⟩; rw [hz] at hf3; have hR3 := hRd.rf hp3 hf3; have hsc3 := hp3.cell hscd (by simp; omega); have hB23 := hBd.kept hp3 hv2n)
              | (go_at_call 25; refine (same_eq _ _ _ _ hB23 hB3).mono ?_; rintro e w4 ⟨rfl, hp4⟩; have hR4 := hR3.new hp4; have hsc4 := hp4.cell hsc3 (by simp); have hsc5 : (w4.setCell ⟨kb, 0, none⟩ (.bool true)).cell? ⟨y, 1, none⟩ = some (.int .u64 s.n) := (World.cell?_setCell_other _ _ _ _ (by simp)).trans hsc4; have hok4 := hR4.c.okV; have hokz4 := hR4.c.okZ))
            have hfin := hid (hgo'.out _ q (by rw [hsL.out]; exact hz) (by rw [hsL.out]; exact (hq hz).symm) (by have := hR4.setOk; rw [← hq hz] at this; exact this))
            clear hz hq
            go_wp2_with fail
            go_roundw
            case rel => exact hfin.out
            case measure => simp [intOf]; omega
          · exact ⟨rfl, hend.out _ _ (hR1.rd hp2 hr2) _ (by rw [hsL.out]) hz⟩
        · by_cases k3 : s.kind = 3
          · have hsL := hid (show stepL s (b.drop p) = ((digL (b.drop p)).1, (digL (b.drop p)).2.2) by unfold stepL; rw [if_neg k1, if_neg k2, if_pos k3])
            rw [k3] at hw1
            clear k1 k2
            go_wp2_with fail
            rw [← hw1]
            rw [← hy] at hsc ⊢
            clear hw1 c1 c2 c3 hy
            refine (dig_any rb fb _ w1 hR1.r).mono ?_
            rintro e w2 ⟨hp2, ⟨l2, hr2⟩, hcase⟩
            rcases hcase with ⟨hz, rfl, hr2⟩ | ⟨hz, rfl⟩
            · obtain ⟨hd32, hdl, hb32⟩ := digL_len _ hz
              have hR2 := hR1.rd hp2 hr2
              obtain ⟨dd, hdd⟩ : ∃ dd, dd = (digL (b.drop p)).2.1 := ⟨_, rfl⟩
              have hdt : Hid (dd = (b.drop p).take 32) := by show dd = _; rw [hdd, hdl]
              rw [← hdd] at hd32 ⊢
              have hrest : Hid ((digL (b.drop p)).2.2 = b.drop (p + 32)) := by show _ = _; rw [hdl, List.drop_drop]
              have hZ := hid hz
              clear hdd hdl hz
              have hD0 := Dv.fresh w2 62
              have hoa : Only [] w2 (w2.alloc (Obj.cells Z32 62)) := (Only.refl [] w2).alloc _
              go_wp2_with (first
                | (refine wpList_alloc_run (by rfl) 62 (by rfl) (alloc_dig _) ?_)
                | (refine wpList_store_dig (by rfl) _ _ (by rfl) w2.heap.size dd _ (by rfl) (by rfl) rfl hd32 hD0.there ?_; intro w3 hD3 hp3))
              have ho3 : Only [] w2 w3 := hoa.trans hp3 (by simp) (by simp)
              have hR3 := hR2.new ho3
              have hrb := hR2.f.lt
              have hgw : w2.heap.size ≠ wb := by omega
              have hgk : w2.heap.size ≠ kb := by have := World.block_lt_of_cell? w2 _ hR2.c.okV; simp only at this; omega
              obtain ⟨g, hg⟩ : ∃ g, g = w2.heap.size := ⟨_, rfl⟩
              rw [← hg] at hD3 hgw hgk ⊢
              clear hg hp3 hoa hD0 ho3
              have hod : Only [] w3 w3.drew := (Only.refl [] w3).drew
              have hRd := hR3.new hod
              have hvar := hR3.c.var
              have hokv := hR3.c.okV
              have hrg := hD3.range
              have hrgd : w3.drew.rangeAt g 0 (bytes dd) := hrg
              have hu := Try.underlying62
              have hin : (Try.prog.info? 62).map (·.size) = some (bytes dd).length := by rw [dig_info]; simp [bytes, hd32]
              have heq : ∀ w, (binOp .eql 62 (.agg (bytes dd).toArray) (.agg (bytes dd).toArray)).run Try.prog w = .ok (.bool true) w := fun w => (eql_dig dd dd hd32 hd32 w).trans (by simp)
              have hb32' : 32 ≤ b.length - p := by simpa using hb32
              go_wp2_with fail
              go_region_held3 (fun w' => w'.cell? ⟨kb, 0, none⟩ = some (.bool true) ∧ w'.cell? ⟨vb, 0, none⟩ = some (.pointer (some ⟨wb, 0, none⟩)) ∧ w'.rangeAt g 0 (bytes dd)) (first | exact ⟨hokv, hvar, hrg⟩ | exact ⟨hR4.c.okV, hR4.c.var, hrg4⟩ | exact ⟨hR5.c.okV, hR5.c.var, hrg5⟩ | exact ⟨hR5.setOk.c.okV, hR5.setOk.c.var, hrg6⟩) (first
                | (go_at_call 39; refine (refBytes_ok wb fb 32 b p _ hRd.f (by omega) hbl).mono ?_; rintro e w4 ⟨v4, rfl, hv4, hf4, hp4⟩; have hR4 := hRd.rf hp4 hf4; have hrg4 : w4.rangeAt g 0 (bytes dd) := (fun j u hu => hp4.cell (hrgd j u hu) (by simp; omega)); have hB4 : Bs w4 v4 dd := (by rw [hdt.out]; exact hv4.bs (by simp; omega)))
                | (go_at_call 38; refine (digest_32 _ _ _ hB4 hd32).mono ?_; rintro e w5 ⟨rfl, hp5⟩; have hR5 := hR4.new hp5; have hrg5 : w5.rangeAt g 0 (bytes dd) := (fun j u hu => hp5.cell (hrg4 j u hu) (by simp)); have hok5 := hR5.c.okV; have hokz5 := hR5.c.okZ; have hrg6 : (w5.setCell ⟨kb, 0, none⟩ (.bool true)).rangeAt g 0 (bytes dd) := (fun j u hu => ((Only.refl [kb] w5).setCell (p := ⟨kb, 0, none⟩) (.inl (by simp)) (.bool true)).cell (hrg5 j u hu) (by simpa using hgk))))
              have hfin := hid (hgo'.out _ (p + 32) (by rw [hsL.out]; exact hZ.out) (by rw [hsL.out]; exact hrest.out) (by have := hR5.setOk; rw [hrest.out] at this; exact this))
              go_wp2_with fail
              go_roundw
              case rel => exact hfin.out
              case measure => simp [intOf]; omega
            · exact ⟨rfl, hend.out _ _ (hR1.rd hp2 hr2) _ (by rw [hsL.out]) hz⟩
          · by_cases k4 : s.kind = 4
            · have hsL := hid (show stepL s (b.drop p) = ((numL (s.n % 5000) (b.drop p)).1, (numL (s.n % 5000) (b.drop p)).2.2) by unfold stepL; rw [if_neg k1, if_neg k2, if_neg k3, if_pos k4])
              have hheld := fun w => held_any s.n w hsn
              obtain ⟨m, hm⟩ : ∃ m, m = s.n % 5000 := ⟨_, rfl⟩
              have hmb : m < 5000 := by omega
              rw [← hm] at hsL
              simp only [← hm] at hheld
              have hheld := hid hheld
              rw [k4] at hw1
              clear k1 k2 k3 hm
              go_wp2_with fail
              rw [← hw1]
              rw [← hy] at hsc ⊢
              clear hw1 c1 c2 c3 hy
              refine (hheld.out w1).mono ?_
              rintro e w' ⟨rfl, rfl⟩
              go_wp2_with fail
              refine (count_any rb fb m _ w' hR1.r (by omega)).mono ?_
              rintro e w2 ⟨hp2, ⟨l2, hr2⟩, hcase⟩
              rcases hcase with ⟨hz, rfl, hr2⟩ | ⟨hz, rfl⟩
              · have hR2 := hR1.rd hp2 hr2
                have hvar := hR2.c.var
                have hokv := hR2.c.okV
                have hokz := hR2.c.okZ
                have hsc2 := hp2.cell hsc (by simp; omega)
                have hod : Only [] w2 w2.drew := (Only.refl [] w2).drew
                have hRd := hR2.new hod
                have hscd := hod.cell hsc2 (by simp)
                have hle := numL_most _ _ hz
                obtain ⟨n, hn⟩ : ∃ n, n = (numL m (b.drop p)).2.1 := ⟨_, rfl⟩
                rw [← hn] at hle ⊢
                obtain ⟨r, hr⟩ : ∃ r, r = (numL m (b.drop p)).2.2 := ⟨_, rfl⟩
                rw [← hr] at hR2 hRd
                have hRN := hid (show Calls Try.prog 33 #[.pointer (some ⟨wb, 0, none⟩), .int .u64 m] w2.drew (fun e w' => Only [wb] w2.drew w' ∧ e = .returned (.int .u64 n) ∧ ∃ q, Rf w' wb fb b q 0 ∧ b.drop q = r) from
                  (refNum_any wb fb m b p w2.drew hRd.f (by omega) hbl).mono fun e w' ⟨g1, g2, q, g3, g4⟩ => ⟨g1, by rw [g2, hn], q, by rwa [hz] at g3, by rw [g4 hz, hr]⟩)
                have hfin0 := hid (show ∀ (w' : World) (q : Nat), b.drop q = r → RS w0 wS w' lb db kb vb wb rb fb (.slice (some ⟨sb, so, none⟩) steps.length cap) b r q k → _ from fun w' q h8 h9 => hgo'.out w' q (by rw [hsL.out]; exact hz) (by rw [hsL.out, ← hr, h8]) (by rw [h8]; exact h9))
                have hnn : ((n : Int) == (n : Int)) = true := by simp
                have hwn : IntKind.u64.wrap (n : Int) = (n : Int) := by rw [IntKind.wrap_u64]; omega
                have hwm : IntKind.u64.wrap (m : Int) = (m : Int) := by rw [IntKind.wrap_u64]; omega
                clear hz hn hr hgo' hsL
                go_wp2_with fail
                go_region_held3 (fun w' => w'.cell? ⟨kb, 0, none⟩ = some (.bool true) ∧ w'.cell? ⟨vb, 0, none⟩ = some (.pointer (some ⟨wb, 0, none⟩)) ∧ w'.cell? ⟨y, 1, none⟩ = some (.int .u64 s.n)) (first | exact ⟨hokv, hvar, hsc2⟩ | exact ⟨hR3.c.okV, hR3.c.var, hsc3⟩ | exact ⟨hR3.setOk.c.okV, hR3.setOk.c.var, hsc5⟩) (first
                  | (go_at_call 35; refine (hheld.out _).mono ?_; rintro e w' ⟨rfl, rfl⟩)
                  | (go_at_call 33; refine (hRN.out).mono ?_; rintro e w3 ⟨hp3, rfl, q, hf3, hq⟩; have hR3 := hRd.rf hp3 hf3; have hsc3 := hp3.cell hscd (by simp; omega); have hq := hid hq; have hok3 := hR3.c.okV; have hokz3 := hR3.c.okZ; have hsc5 : (w3.setCell ⟨kb, 0, none⟩ (.bool true)).cell? ⟨y, 1, none⟩ = some (.int .u64 s.n) := (World.cell?_setCell_other _ _ _ _ (by simp)).trans hsc3))
                have hfin := hid (hfin0.out _ q hq.out hR3.setOk)
                clear hq hfin0
                go_wp2_with fail
                go_roundw
                case rel => exact hfin.out
                case measure => simp [intOf]; omega
              · exact ⟨rfl, hend.out _ _ (hR1.rd hp2 hr2) _ (by rw [hsL.out]) hz⟩
            · by_cases k5 : s.kind = 5
              · have hsL := hid (show (stepL s (b.drop p)).1 = (if s.n % 17 = 0 then 1 else s.n % 17) by unfold stepL; rw [if_neg k1, if_neg k2, if_neg k3, if_neg k4, if_pos k5])
                obtain ⟨m, hm⟩ : ∃ m, m = s.n % 17 := ⟨_, rfl⟩
                have hmb : m < 17 := by omega
                have hmi : (s.n : Int) % 17 = (m : Int) := by omega
                rw [← hm] at hsL
                rw [k5] at hw1
                clear k1 k2 k3 k4 hm
                go_wp2_with fail
                rw [← hw1]
                rw [← hy] at hsc ⊢
                clear hw1 c1 c2 c3 hy
                refine (fail_any rb fb m _ w1 hR1.r (by omega)).mono ?_
                rintro e w2 ⟨rfl, rfl⟩
                exact ⟨rfl, hend.out _ _ hR1 _ hsL.out (by split <;> omega)⟩
              · have hsL := hid (show stepL s (b.drop p) = (0, b.drop p) by unfold stepL; rw [if_neg k1, if_neg k2, if_neg k3, if_neg k4, if_neg k5])
                have hfin := hid (hgo'.out _ p (by rw [hsL.out]) (by rw [hsL.out]) hR1)
                have b1 : (s.kind == 1) = false := by simpa using k1
                have b2 : (s.kind == 2) = false := by simpa using k2
                have b3 : (s.kind == 3) = false := by simpa using k3
                have b4 : (s.kind == 4) = false := by simpa using k4
                have b5 : (s.kind == 5) = false := by simpa using k5
                rw [hw1] at hfin
                clear k1 k2 k3 k4 k5 hw1 hsc hy
                go_wp2_with fail
                go_roundw
                case rel => exact hfin.out
                case measure => simp [intOf]; omega
    · obtain rfl : k = steps.length := by omega
      have hd := hR.c.done
      have hdz := hR.c.doneZ
      have hpost : Hid (ReadsPost w0 wS lb db kb vb wb rb fb (.slice a steps.length cap) b steps (.returned (.tuple #[])) (wr.setCell ⟨db, 0, none⟩ (.int .i64 (steps.length : Int)))) := ⟨b.drop p, p, steps.length, hR.setDone _, .inl ⟨rfl, rfl, by have := hst.out; rwa [List.take_length] at this, rfl⟩⟩
      go_wp2
      go_end0
      exact hpost
end Go.Proofs.Ytcceiejfphokbaa.Sh
