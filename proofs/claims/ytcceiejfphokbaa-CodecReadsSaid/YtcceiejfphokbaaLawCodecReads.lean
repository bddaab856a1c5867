/- Of any bytes any steps read what the document says, up to the first error: the law's walk. -/
import Derived.Test.YtcceiejfphokbaaCodecM
namespace Go.Proofs.Ytcceiejfphokbaa.Sh
open Go Go.RowKit

theorem enter_reads1 (args : Array Value) (w : World) : (callFunc 31 args).run Try.prog w = .ok (.enter 31 args) w := by
  simp [go_sem, Try.func31]

/-- What the reading leaves for the law: how far it came, what is told. -/
def ReadsEnd (w0 : World) (lb db kb vb wb rb fb : Nat) (v : Value) (b : List UInt8) (steps : List Stp) (e : Ending) (w' : World) : Prop :=
  ∃ p d c, Caught w0 w' lb db kb vb wb rb v d ∧ Rf w' wb fb b p 0 ∧ e = .returned (.int .i64 (c : Nat)) ∧ c ≤ 100 ∧
    (d = steps.length ∧ c = (if b.drop p = [] then 0 else 3) ∨ d < steps.length ∧ c ≠ 0 ∧ ∃ s, steps[d]? = some s ∧ (stepL s (b.drop p)).1 = c)

theorem numF_le (l : List UInt8) : ∀ k acc, (numF k acc l).1 ≤ 100 := by
  induction l with
  | nil => intro k acc; simp [numF]
  | cons b r ih =>
    intro k acc
    rw [numF]
    split
    · simp
    · split
      · simp
      · exact ih _ _
theorem numL_le (m : Nat) (l : List UInt8) : (numL m l).1 ≤ 100 := by
  unfold numL
  split
  · simp
  · exact numF_le _ _ _
theorem textL_le (m : Nat) (l : List UInt8) : (textL m l).1 ≤ 100 := by
  unfold textL
  split
  · exact numL_le _ _
  · split <;> simp
theorem stepL_le (s : Stp) (l : List UInt8) : (stepL s l).1 ≤ 100 := by
  unfold stepL
  split
  · exact numL_le _ _
  · split
    · exact textL_le _ _
    · split
      · unfold digL; split <;> simp
      · split
        · exact numL_le _ _
        · split
          · simp only; split <;> omega
          · simp

theorem reads_end {w0 wS w3 w4 : World} {lb db kb vb wb N fb : Nat} {v : Value} {b : List UInt8} {steps : List Stp} {l : List UInt8} {p d : Nat} (hR : RS w0 wS w3 lb db kb vb wb (N + 1) fb v b l p d) (hN : lb < N ∧ db < N ∧ kb < N ∧ vb < N ∧ wb < N) (hNf : fb ∉ [N, N + 1, N + 1 + 1]) (h0 : w0.heap.size ≤ N)
    (ho : Only [N, N + 1, N + 1 + 1] w3 w4) (c : Nat) (hc : c ≤ 100) (hcase : d = steps.length ∧ c = (if b.drop p = [] then 0 else 3) ∨ d < steps.length ∧ c ≠ 0 ∧ ∃ s, steps[d]? = some s ∧ (stepL s (b.drop p)).1 = c) :
    ReadsEnd w0 lb db kb vb wb (N + 1) fb v b steps (.returned (.int .i64 (c : Int))) w4 :=
  ⟨p, d, c, hR.c.kept ho (by simp; omega) (by simp; omega), hR.f.kept ho (by simp; omega) (.inr hNf), rfl, hc, hcase⟩

set_option maxRecDepth 20000 in
set_option maxHeartbeats 6400000 in
theorem codecReads_walk (w : World) {v u : Value} {b : List UInt8} {steps : List Stp} (hB : Bs w v b) (hS : Steps w u steps) :
    Calls Try.prog 10 #[v, u] w fun e w' => e = .returned (.bool true) ∧ Only [] w w' := by
  have hmf : ∀ (fn : Fn) (first cap : Array Value) (w : World), (Instr.makeFunc fn first cap).run Try.prog w = .ok (.func fn first cap) w := fun _ _ _ _ => rfl
  obtain ⟨_, a, cap, rfl, h1, h2, h3, _⟩ := id hB
  obtain ⟨sa, scap, rfl, s1, s2, s3⟩ := hS.form
  have hok : ∀ s ∈ steps, s.ok := by
    obtain ⟨_, _, _, _, _, _, h, _⟩ := hS
    exact h
  obtain ⟨x, hx⟩ : ∃ x, x = fewL steps := ⟨_, rfl⟩
  have hfew := fun w' h => few_any (.slice sa steps.length scap) steps w' h
  rw [← hx] at hfew
  replace hfew := hid hfew
  clear hx
  have hoa : Only [] w (w.alloc (Obj.cells #[.slice sa steps.length scap] 48)) := (Only.refl [] w).alloc _
  have hla : (w.alloc (Obj.cells #[.slice sa steps.length scap] 48)).cell? ⟨w.heap.size, 0, none⟩ = some (.slice sa steps.length scap) := by simp [go_sem]
  by_cases hxf : x = false
  · subst hxf
    go_enter Try.func10, Try.ntmps10
    go_wp2_with fail
    refine (awake08_any _).mono ?_
    rintro e w1 ⟨rfl, ho1⟩
    have hl1 := ho1.cell hla (by simp)
    go_wp2_with fail
    refine (hfew.out _ ((hS.kept0 hoa).kept0 ho1)).mono ?_
    rintro e w1 ⟨rfl, rfl⟩
    go_wp2_with fail
    refine (awake08_any _).mono ?_
    rintro e w2 ⟨rfl, ho2⟩
    go_wp2
    go_ret
    exact ⟨rfl, (hoa.trans0 ho1).trans0 ho2⟩
  obtain rfl : x = true := by simpa using hxf
  clear hxf
  by_cases hl : 400 < b.length
  · go_enter Try.func10, Try.ntmps10
    go_wp2_with fail
    refine (awake08_any _).mono ?_
    rintro e w1 ⟨rfl, ho1⟩
    have hl1 := ho1.cell hla (by simp)
    go_wp2_with fail
    refine (hfew.out _ ((hS.kept0 hoa).kept0 ho1)).mono ?_
    rintro e w1 ⟨rfl, rfl⟩
    go_wp2_with fail
    refine (awake08_any _).mono ?_
    rintro e w2 ⟨rfl, ho2⟩
    go_wp2
    go_ret
    exact ⟨rfl, (hoa.trans0 ho1).trans0 ho2⟩
  go_enter Try.func10, Try.ntmps10
  go_wp2_with fail
  refine (awake08_any _).mono ?_
  rintro e w1 ⟨rfl, ho1⟩
  have hl1 := ho1.cell hla (by simp)
  go_wp2_with fail
  refine (hfew.out _ ((hS.kept0 hoa).kept0 ho1)).mono ?_
  rintro e w1 ⟨rfl, rfl⟩
  go_wp2_with fail
  have hS1 := (hS.kept0 hoa).kept0 ho1
  have hB1 := (hB.kept0 hoa).kept0 ho1
  have how1 := hoa.trans0 ho1
  have hsz1 : w.heap.size < w1.heap.size := by have := ho1.size; simp at this; omega
  obtain ⟨w2, hw2⟩ : ∃ w2, w2 = (((w1.alloc (Obj.cells #[.slice a b.length cap, .int .i64 0, .int .i64 0] 52)).alloc (Obj.cells #[.pointer (some ⟨w1.heap.size, 0, none⟩)] 50)).alloc (Obj.cells #[.bool true] 4)).alloc (Obj.cells #[.int .i64 0] 3) := ⟨_, rfl⟩
  rw [← hw2]
  have how2 : Only [] w1 w2 := by rw [hw2]; exact ((((Only.refl [] w1).alloc _).alloc _).alloc _).alloc _
  have hs2 : w2.heap.size = w1.heap.size + 4 := by rw [hw2]; simp
  have q0 : w2.cell? ⟨w1.heap.size, 0, none⟩ = some (.slice a b.length cap) ∧ w2.frozen? ⟨w1.heap.size, 0, none⟩ = false := by rw [hw2]; constructor <;> simp [go_sem]
  have q1 : w2.cell? ⟨w1.heap.size, 1, none⟩ = some (.int .i64 0) ∧ w2.frozen? ⟨w1.heap.size, 1, none⟩ = false := by rw [hw2]; constructor <;> simp [go_sem]
  have q2 : w2.cell? ⟨w1.heap.size, 2, none⟩ = some (.int .i64 0) ∧ w2.frozen? ⟨w1.heap.size, 2, none⟩ = false := by rw [hw2]; constructor <;> simp [go_sem]
  have q3 : w2.cell? ⟨w1.heap.size + 1, 0, none⟩ = some (.pointer (some ⟨w1.heap.size, 0, none⟩)) := by rw [hw2]; simp [go_sem]
  have q4 : w2.cell? ⟨w1.heap.size + 1 + 1, 0, none⟩ = some (.bool true) ∧ w2.frozen? ⟨w1.heap.size + 1 + 1, 0, none⟩ = false := by rw [hw2]; constructor <;> simp [go_sem]
  have q5 : w2.cell? ⟨w1.heap.size + 1 + 1 + 1, 0, none⟩ = some (.int .i64 0) ∧ w2.frozen? ⟨w1.heap.size + 1 + 1 + 1, 0, none⟩ = false := by rw [hw2]; constructor <;> simp [go_sem]
  have hl2 := how2.cell hl1 (by simp)
  have hBw2 := hB1.kept0 how2
  have how := how1.trans0 how2
  clear hw2
  -- which block the bytes lie in
  obtain ⟨fb, hfb, hfar⟩ : ∃ fb, (∀ x, (Value.slice a b.length cap).ownBlock = some x → b = [] ∨ x = fb) ∧ (fb < w.heap.size ∨ w2.heap.size + 10 < fb) := by
    obtain ⟨fb, g1, g2, g3⟩ := hB.fb
    rcases g3 with g3 | g3
    · exact ⟨w2.heap.size + 11, fun _ _ => .inl g3, .inr (by omega)⟩
    · exact ⟨fb, g1, .inl g3⟩
  refine (read_any _ b fb 31 #[.pointer (some ⟨w.heap.size, 0, none⟩), .pointer (some ⟨w1.heap.size + 1 + 1 + 1, 0, none⟩), .pointer (some ⟨w1.heap.size + 1 + 1, 0, none⟩), .pointer (some ⟨w1.heap.size + 1, 0, none⟩)] w2
    (ReadsEnd w w.heap.size (w1.heap.size + 1 + 1 + 1) (w1.heap.size + 1 + 1) (w1.heap.size + 1) w1.heap.size (w2.heap.size + 1) fb (.slice sa steps.length scap) b steps) hBw2 hfb (by omega) enter_reads1 ?_).mono ?_
  · intro w3 hp3 hs3 hr3
    have hq0 : Caught w w3 w.heap.size (w1.heap.size + 1 + 1 + 1) (w1.heap.size + 1 + 1) (w1.heap.size + 1) w1.heap.size (w2.heap.size + 1) (.slice sa steps.length scap) 0 := by
      refine ⟨how.trans0 hp3, hp3.cell hl2 (by simp), hp3.cell q5.1 (by simp), ?_, hp3.cell q4.1 (by simp), ?_, hp3.cell q3 (by simp), by omega, by simp; omega⟩
      · rw [hp3.frozen' (by simp only; omega) (by simp)]; exact q5.2
      · rw [hp3.frozen' (by simp only; omega) (by simp)]; exact q4.2
    have hf0 : Rf w3 w1.heap.size fb b 0 0 := by
      refine ⟨⟨_, hp3.cell q0.1 (by simp), hBw2.kept0 hp3, hfb⟩, by omega, hp3.cell q1.1 (by simp), by omega, hp3.cell q2.1 (by simp), ?_⟩
      refine ⟨?_, ?_, ?_⟩
      · rw [hp3.frozen' (by simp only; omega) (by simp)]; exact q0.2
      · rw [hp3.frozen' (by simp only; omega) (by simp)]; exact q1.2
      · rw [hp3.frozen' (by simp only; omega) (by simp)]; exact q2.2
    refine (reads_by w w3 _ _ _ _ _ _ fb _ steps b hS hok (by omega) 0 ⟨hq0, hr3, hf0, Only.refl _ _, by simp; omega⟩).mono ?_
    rintro e w4 ⟨l, p, d, hR, hcase⟩
    replace hcase := hid hcase
    refine ⟨⟨_, hR.o, by simp; omega, by simp; omega⟩, ?_⟩
    have hN5 : w.heap.size < w2.heap.size ∧ w1.heap.size + 1 + 1 + 1 < w2.heap.size ∧ w1.heap.size + 1 + 1 < w2.heap.size ∧ w1.heap.size + 1 < w2.heap.size ∧ w1.heap.size < w2.heap.size := by omega
    have hNf : fb ∉ [w2.heap.size, w2.heap.size + 1, w2.heap.size + 1 + 1] := by simp; omega
    have hNw : w.heap.size ≤ w2.heap.size := by omega
    have hle := fun s l => stepL_le s l
    rcases hcase.out with ⟨rfl, rfl, hst, hpl⟩ | ⟨hd, hst, hne, ⟨s, hs, hsc⟩, rfl⟩
    · refine .inl ⟨l, rfl, hR.r, fun w5 hp5 => ?_⟩
      have h9 := reads_end hR hN5 hNf hNw hp5 (if l = [] then 0 else 3) (by split <;> omega) (.inl ⟨rfl, by rw [hpl]⟩)
      by_cases hl0 : l = []
      · rw [if_pos hl0] at h9 ⊢; exact h9
      · rw [if_neg hl0] at h9 ⊢; exact h9
    · exact .inr (.inl ⟨l, _, rfl, hR.r, fun w5 hp5 => reads_end hR hN5 hNf hNw hp5 _ (by rw [← hsc]; exact hle _ _) (.inr ⟨hd, hne, s, hs, hsc⟩)⟩)
  rintro e w4 ⟨p, d, c, hC, hf, rfl, hc100, hcase⟩
  have hl4 := hC.list
  have hd4 := hC.done
  have hk4 := hC.okV
  have hv4 := hC.var
  replace hcase := hid hcase
  have hbl : b.length ≤ 1000000 := by omega
  by_cases hdl : d = steps.length
  · subst hdl
    have hcv : c = (if b.drop p = [] then 0 else 3) := by
      rcases hcase.out with ⟨_, h⟩ | ⟨h, _⟩
      · exact h
      · omega
    have hend := fun w => refEnd_any w1.heap.size fb b p w
    have hfin : ∀ w5, Only [w1.heap.size] w4 w5 → Only [] w w5 := fun w5 hp5 => hC.only.trans hp5 (by simp) (by simp; omega)
    by_cases hbp : b.drop p = []
    · rw [if_pos hbp] at hcv
      subst hcv
      simp only [if_pos hbp] at hend
      replace hend := hid hend
      clear hmf hbp
      go_wp2_with fail
      refine (hend.out w4 hf).mono ?_
      rintro e w5 ⟨rfl, hp5⟩
      go_wp2
      go_ret
      exact ⟨rfl, hfin _ hp5⟩
    · rw [if_neg hbp] at hcv
      subst hcv
      simp only [if_neg hbp] at hend
      replace hend := hid hend
      clear hmf hbp
      go_wp2_with fail
      refine (hend.out w4 hf).mono ?_
      rintro e w5 ⟨rfl, hp5⟩
      go_wp2
      go_ret
      exact ⟨rfl, hfin _ hp5⟩
  · obtain ⟨hlt, hcne, s, hs, hsc⟩ : d < steps.length ∧ c ≠ 0 ∧ ∃ s, steps[d]? = some s ∧ (stepL s (b.drop p)).1 = c := by
      rcases hcase.out with ⟨h, _⟩ | h
      · exact absurd h hdl
      · exact h
    obtain ⟨sb, so, sx, rfl, c1, c2, c3, hsB⟩ := (hS.kept0 hC.only).at d hlt
    obtain rfl : steps[d] = s := by
      rw [List.getElem?_eq_getElem hlt] at hs
      exact Option.some.inj hs
    obtain ⟨s, hs'⟩ : ∃ s, s = steps[d] := ⟨_, rfl⟩
    have hsok := hok s (by rw [hs']; exact List.getElem_mem hlt)
    rw [← hs'] at c1 c2 hsB hsc
    obtain ⟨_, xa, xc, rfl, _, _, _, _⟩ := id hsB
    have hsn := hsok.2.2
    have hcz : ((c : Int) != 0) = true := by rw [bne_iff_ne]; omega
    have hcc : ((c : Int) == (c : Int)) = true := by simp
    have hne := hC.ne
    have hsz4 : w1.heap.size + 1 + 1 + 1 < w4.heap.size := by
      have := World.block_lt_of_cell? w4 _ hd4
      simpa using this
    have hn4 : w1.heap.size + 1 ≠ w4.heap.size := by omega
    obtain ⟨w5, hw5⟩ : ∃ w5, w5 = w4.alloc (Obj.cells #[Value.int .i64 s.kind, Value.int .u64 s.n, Value.slice xa s.s.length xc] 57) := ⟨_, rfl⟩
    have hp5 : Only [] w4 w5 := by rw [hw5]; exact (Only.refl [] w4).alloc _
    have hC5 := hC.kept hp5 (by simp) (by simp)
    have hf5 := hf.kept0 hp5
    have hy : w5.cell? ⟨w4.heap.size, 1, none⟩ = some (.int .u64 s.n) := by rw [hw5]; simp [go_sem]
    have hod : Only [] w5 w5.drew := (Only.refl [] w5).drew
    have hf5d := hf5.kept0 hod
    have hC5d := hC5.kept hod (by simp) (by simp)
    have hv5 := hC5.var
    have hyd := hod.cell hy (by simp)
    have hy1 : w4.heap.size ≠ w1.heap.size := by omega
    -- behind the document's step
    have hfin : ∀ w6, Only [w1.heap.size] w5 w6 → (w6.cell? ⟨w1.heap.size + 1 + 1, 0, none⟩ = some (.bool true) ∧ w6.cell? ⟨w1.heap.size + 1, 0, none⟩ = some (.pointer (some ⟨w1.heap.size, 0, none⟩))) ∧ Only [] w w6 := by
      intro w6 hp6
      have hC6 := hC5.kept hp6 (by simp; omega) (by simp; omega)
      exact ⟨⟨hC6.okV, hC6.var⟩, hC6.only⟩
    have hfind : ∀ w6, Only [w1.heap.size] w5.drew w6 → (w6.cell? ⟨w1.heap.size + 1 + 1, 0, none⟩ = some (.bool true) ∧ w6.cell? ⟨w1.heap.size + 1, 0, none⟩ = some (.pointer (some ⟨w1.heap.size, 0, none⟩))) ∧ Only [] w w6 := fun w6 hp6 => hfin w6 (hod.trans hp6 (by simp) (by simp))
    replace hfin := hid hfin
    replace hfind := hid hfind
    clear hmf hs hs' hS hok hB hB1 hS1 hBw2 hsB hcne hdl hfb
    by_cases k1 : s.kind = 1
    · have hsL : (numL s.n (b.drop p)).1 = c := by unfold stepL at hsc; rw [if_pos k1] at hsc; exact hsc
      rw [k1] at hw5
      have hvx := hv5
      rw [hw5] at hvx
      clear hsc
      go_wp2_with fail
      rw [← hw5]
      clear hw5 c1 c2 c3
      refine (refNum_any _ fb s.n b p w5 hf5 hsn hbl).mono ?_
      rintro e w6 ⟨hp6, rfl, q, hf6, _⟩
      rw [hsL] at hf6
      obtain ⟨⟨g1, g2⟩, g3⟩ := hfin.out w6 hp6
      have g4 := hf6.fE
      clear hsL hcase hvx
      go_wp2
      go_ret
      exact ⟨rfl, g3⟩
    by_cases k2 : s.kind = 2
    · have hsL : (textL (s.n % 5000) (b.drop p)).1 = c := by unfold stepL at hsc; rw [if_neg k1, if_pos k2] at hsc; exact hsc
      have hheld := fun w => held_any s.n w hsn
      obtain ⟨m, hm⟩ : ∃ m, m = s.n % 5000 := ⟨_, rfl⟩
      have hmb : m < 5000 := by omega
      rw [← hm] at hsL
      simp only [← hm] at hheld
      replace hheld := hid hheld
      have htx : Hid (Calls Try.prog 36 #[.pointer (some ⟨w1.heap.size, 0, none⟩), .int .i64 m] w5.drew (fun e w' => Only [w1.heap.size] w5.drew w' ∧ (∃ v', e = .returned v') ∧ ∃ q, Rf w' w1.heap.size fb b q c)) :=
        hid ((refText_any _ fb m b p w5.drew hf5d (by omega) hbl).mono fun e w' ⟨g1, v', q, g2, _, g3, _⟩ => ⟨g1, ⟨v', g2⟩, q, by rwa [hsL] at g3⟩)
      rw [k2] at hw5
      have hvx := hv5
      rw [hw5] at hvx
      clear hsc hsL hm k1 hcase
      go_wp2_with fail
      rw [← hw5]
      clear hw5 c1 c2 c3 hvx
      go_region_held3 (fun w' => w'.cell? ⟨w1.heap.size + 1, 0, none⟩ = some (.pointer (some ⟨w1.heap.size, 0, none⟩)) ∧ w'.cell? ⟨w4.heap.size, 1, none⟩ = some (.int .u64 s.n)) (first | exact ⟨hv5, hy⟩ | exact ⟨(hfind.out w6 hp6).1.2, hy6⟩) (first
        | (go_at_call 35; refine (hheld.out _).mono ?_; rintro e w' ⟨rfl, rfl⟩)
        | (go_at_call 36; refine htx.out.mono ?_; rintro e w6 ⟨hp6, ⟨v6, rfl⟩, q, hf6⟩; have hy6 := hp6.cell hyd (by simpa using hy1)))
      obtain ⟨⟨g1, g2⟩, g3⟩ := hfind.out w6 hp6
      have g4 := hf6.fE
      go_wp2
      go_ret
      exact ⟨rfl, g3⟩
    by_cases k3 : s.kind = 3
    · have hsL : (digL (b.drop p)).1 = c := by unfold stepL at hsc; rw [if_neg k1, if_neg k2, if_pos k3] at hsc; exact hsc
      have hc0 : c ≠ 0 := by
        rintro rfl
        simp at hcz
      have hsh : (b.drop p).length < 32 ∧ c = 2 := by
        unfold digL at hsL
        split at hsL
        · rename_i h; exact ⟨h, hsL.symm⟩
        · exact absurd hsL.symm hc0
      obtain ⟨hsh, rfl⟩ := hsh
      rw [List.length_drop] at hsh
      rw [k3] at hw5
      have hvx := hv5
      rw [hw5] at hvx
      clear hsc hsL k1 k2 hcase hc0
      go_wp2_with fail
      rw [← hw5]
      clear hw5 c1 c2 c3 hvx
      refine (refBytes_short _ fb 32 b p w5 hf5 hsh hbl (by omega)).mono ?_
      rintro e w6 ⟨rfl, hf6, hp6⟩
      obtain ⟨⟨g1, g2⟩, g3⟩ := hfin.out w6 hp6
      have g4 := hf6.fE
      go_wp2
      go_ret
      exact ⟨rfl, g3⟩
    by_cases k4 : s.kind = 4
    · have hsL : (numL (s.n % 5000) (b.drop p)).1 = c := by unfold stepL at hsc; rw [if_neg k1, if_neg k2, if_neg k3, if_pos k4] at hsc; exact hsc
      have hheld := fun w => held_any s.n w hsn
      obtain ⟨m, hm⟩ : ∃ m, m = s.n % 5000 := ⟨_, rfl⟩
      have hmb : m < 5000 := by omega
      rw [← hm] at hsL
      simp only [← hm] at hheld
      replace hheld := hid hheld
      have htx : Hid (Calls Try.prog 33 #[.pointer (some ⟨w1.heap.size, 0, none⟩), .int .u64 m] w5.drew (fun e w' => Only [w1.heap.size] w5.drew w' ∧ (∃ v', e = .returned v') ∧ ∃ q, Rf w' w1.heap.size fb b q c)) :=
        hid ((refNum_any _ fb m b p w5.drew hf5d (by omega) hbl).mono fun e w' ⟨g1, g2, q, g3, _⟩ => ⟨g1, ⟨_, g2⟩, q, by rwa [hsL] at g3⟩)
      have hwm : IntKind.u64.wrap (m : Int) = (m : Int) := by rw [IntKind.wrap_u64]; omega
      rw [k4] at hw5
      have hvx := hv5
      rw [hw5] at hvx
      clear hsc hsL hm k1 k2 k3 hcase
      go_wp2_with fail
      rw [← hw5]
      clear hw5 c1 c2 c3 hvx
      go_region_held3 (fun w' => w'.cell? ⟨w1.heap.size + 1, 0, none⟩ = some (.pointer (some ⟨w1.heap.size, 0, none⟩)) ∧ w'.cell? ⟨w4.heap.size, 1, none⟩ = some (.int .u64 s.n)) (first | exact ⟨hv5, hy⟩ | exact ⟨(hfind.out w6 hp6).1.2, hy6⟩) (first
        | (go_at_call 35; refine (hheld.out _).mono ?_; rintro e w' ⟨rfl, rfl⟩)
        | (go_at_call 33; refine htx.out.mono ?_; rintro e w6 ⟨hp6, ⟨v6, rfl⟩, q, hf6⟩; have hy6 := hp6.cell hyd (by simpa using hy1)))
      obtain ⟨⟨g1, g2⟩, g3⟩ := hfind.out w6 hp6
      have g4 := hf6.fE
      clear hwm
      go_wp2
      go_ret
      exact ⟨rfl, g3⟩
    by_cases k5 : s.kind = 5
    · have hsL : (if s.n % 17 = 0 then 1 else s.n % 17) = c := by unfold stepL at hsc; rw [if_neg k1, if_neg k2, if_neg k3, if_neg k4, if_pos k5] at hsc; exact hsc
      obtain ⟨m, hm⟩ : ∃ m, m = s.n % 17 := ⟨_, rfl⟩
      have hmb : m < 17 := by omega
      have hmi : (s.n : Int) % 17 = (m : Int) := by omega
      have hmc : (m = 0 ∧ c = 1) ∨ (1 ≤ m ∧ c = m) := by
        rw [← hm] at hsL
        split at hsL <;> omega
      rw [k5] at hw5
      have hvx := hv5
      rw [hw5] at hvx
      have g4 := hf5.fE
      have g5 := hf5.soft.2.2
      have hf6 := hf5.setE c
      have hp6 : Only [w1.heap.size] w5 (w5.setCell ⟨w1.heap.size, 2, none⟩ (.int .i64 (c : Int))) := (Only.refl [w1.heap.size] w5).setCell (.inl (by simp)) _
      obtain ⟨⟨g1, g2⟩, g3⟩ := hfin.out _ hp6
      have g6 := hf6.fE
      have hys : (w4.alloc (Obj.cells #[Value.int .i64 5, Value.int .u64 s.n, Value.slice xa s.s.length xc] 57)).cell? ⟨w4.heap.size, 1, none⟩ = some (.int .u64 s.n) := by rw [← hw5]; exact hy
      rw [hw5] at g4 g5
      clear hsc hsL hm k1 k2 k3 k4 hcase
      rw [hw5] at g1 g2 g3 g6
      rcases hmc with ⟨rfl, rfl⟩ | ⟨hm1, rfl⟩
      · simp only [Int.natCast_one] at g1 g2 g3 g6
        go_wp2
        go_ret
        exact ⟨rfl, g3⟩
      · by_cases hc1 : c = 1
        · subst hc1
          simp only [Int.natCast_one] at g1 g2 g3 g6 hmi
          go_wp2
          go_ret
          exact ⟨rfl, g3⟩
        · have hc1 : 1 < c := by omega
          go_wp2
          go_ret
          exact ⟨rfl, g3⟩
    · exfalso
      unfold stepL at hsc
      rw [if_neg k1, if_neg k2, if_neg k3, if_neg k4, if_neg k5] at hsc
      simp only at hsc
      subst hsc
      simp at hcz
end Go.Proofs.Ytcceiejfphokbaa.Sh
