/- What was laid, and cut short anywhere, is not read; with a byte more it is left over: the law's walk. -/
import Derived.Test.YtcceiejfphokbaaCodecQ
namespace Go.Proofs.Ytcceiejfphokbaa.Sh
open Go Go.RowKit

theorem enter_cuts1 (args : Array Value) (w : World) : (callFunc 51 args).run Try.prog w = .ok (.enter 51 args) w := by
  simp [go_sem, Try.func51]

/-- Bytes, read by CodecCuts' function. -/
theorem cuts_read (w : World) (w0 : World) (lb : Nat) (u bv : Value) (steps : List Stp) (b : List UInt8) (hS : Steps w0 u steps) (ho : Only [] w0 w) (hl : w.cell? ⟨lb, 0, none⟩ = some u) (hlb : w0.heap.size ≤ lb) (hB : Bs w bv b) (c : Nat)
    (hc : (readA 60 steps b).1 = 0 ∧ c = (if (readA 60 steps b).2 = [] then 0 else 3) ∨ (readA 60 steps b).1 ≠ 0 ∧ c = (readA 60 steps b).1) :
    Calls Try.prog 30 #[bv, .func (.func 51) #[] #[.pointer (some ⟨lb, 0, none⟩)]] w fun e w' => e = .returned (.int .i64 (c : Int)) ∧ Only [] w w' := by
  have hlw := lt_cell hl
  have hs0 := ho.size
  obtain ⟨fb, hfb, hfn⟩ : ∃ fb, (∀ x, bv.ownBlock = some x → b = [] ∨ x = fb) ∧ fb ≠ w.heap.size + 1 := by
    obtain ⟨fb, g1, g2, g3⟩ := hB.fb
    rcases g3 with g3 | g3
    · exact ⟨w.heap.size + 11, fun _ _ => .inl g3, by omega⟩
    · exact ⟨fb, g1, by omega⟩
  refine read_any bv b fb 51 #[.pointer (some ⟨lb, 0, none⟩)] w (fun e w' => e = .returned (.int .i64 (c : Int)) ∧ Only [] w w') hB hfb hfn enter_cuts1 ?_
  intro w3 hp3 hs3 hr3
  have h0 : RC w0 w3 w3 lb (w.heap.size + 1) fb u b := ⟨ho.trans0 hp3, hp3.cell hl (by simp), by omega, by omega, hr3, Only.refl _ _⟩
  refine (cuts_by w0 w3 lb _ fb u steps b hS h0).mono ?_
  rintro e w4 ⟨l, hR, hcase⟩
  refine ⟨⟨_, hR.o, by simp, by simp⟩, ?_⟩
  have h4 : Only [] w w4 := hp3.trans hR.o (by simp) (by simp)
  have hn : ∀ w5, Only [w.heap.size, w.heap.size + 1, w.heap.size + 1 + 1] w4 w5 → Only [] w w5 := fun w5 hp5 => h4.trans hp5 (by simp) (by simp; omega)
  rcases hcase with ⟨hz, rfl, rfl⟩ | ⟨hz, rfl⟩
  · rcases hc with ⟨_, hc⟩ | ⟨hc, _⟩
    · refine .inl ⟨_, rfl, hR.r, fun w5 hp5 => ⟨?_, hn w5 hp5⟩⟩
      rw [hc]
      split <;> rfl
    · exact absurd hz hc
  · rcases hc with ⟨hc, _⟩ | ⟨_, hc⟩
    · exact absurd hc hz
    · exact .inr (.inl ⟨_, _, rfl, hR.r, fun w5 hp5 => ⟨by rw [hc], hn w5 hp5⟩⟩)

set_option maxRecDepth 20000 in
set_option maxHeartbeats 6400000 in
theorem codecCuts_walk (w : World) {u : Value} {steps : List Stp} {cut more : Int} (hS : Steps w u steps) (hcut : (Lit.int .u64 cut).wf = true) (hmore : (Lit.int .u8 more).wf = true) :
    Calls Try.prog 14 #[u, .int .u64 cut, .int .u8 more] w fun e w' => e = .returned (.bool true) ∧ Only [] w w' := by
  have hmf : ∀ (fn : Fn) (first cap : Array Value) (w : World), (Instr.makeFunc fn first cap).run Try.prog w = .ok (.func fn first cap) w := fun _ _ _ _ => rfl
  obtain ⟨y, rfl⟩ := u8_of (wfu8 hmore)
  obtain ⟨c, rfl⟩ : ∃ c : Nat, cut = (c : Int) := ⟨cut.toNat, by have := wfu64 hcut; omega⟩
  have hc64 : c < 18446744073709551616 := by have := wfu64 hcut; omega
  clear hcut hmore
  obtain ⟨sa, scap, rfl, s1, s2, s3⟩ := hS.form
  obtain ⟨x, hx⟩ : ∃ x, x = fewL steps := ⟨_, rfl⟩
  have hfew := fun w' h => few_any (.slice sa steps.length scap) steps w' h
  rw [← hx] at hfew
  replace hfew := hid hfew
  have hoa : Only [] w (w.alloc (Obj.cells #[.slice sa steps.length scap] 48)) := (Only.refl [] w).alloc _
  have hla : (w.alloc (Obj.cells #[.slice sa steps.length scap] 48)).cell? ⟨w.heap.size, 0, none⟩ = some (.slice sa steps.length scap) := by simp [go_sem]
  by_cases hxf : x = false
  · subst hxf
    clear hx
    go_enter Try.func14, Try.ntmps14
    go_wp2_with fail
    refine (awake08_any _).mono ?_
    rintro e w1 ⟨rfl, ho1⟩
    have hl1 := ho1.cell hla (by simp)
    go_wp2_with fail
    refine (hfew.out _ ((hS.kept0 hoa).kept0 ho1)).mono ?_
    rintro e w1 ⟨rfl, rfl⟩
    go_wp2_with fail
    refine (awake08_any _).mono ?_
    rintro e w2 ⟨rfl, ho2⟩
    go_wp2
    go_ret
    exact ⟨rfl, (hoa.trans0 ho1).trans0 ho2⟩
  obtain rfl : x = true := by simpa using hxf
  have hft : fewL steps = true := hx.symm
  obtain ⟨hok, h30⟩ := few_ok hS hft
  have hll := layL_length steps hok
  have hA := hid (readA_layL 60 [y] (by omega) steps hok)
  have hC := hid (readA_cut 60 (by omega) steps hok)
  replace hft := hid hft
  clear hxf hx hok
  go_enter Try.func14, Try.ntmps14
  go_wp2_with fail
  refine (awake08_any _).mono ?_
  rintro e w1 ⟨rfl, ho1⟩
  have hl1 := ho1.cell hla (by simp)
  have hS1 := (hS.kept0 hoa).kept0 ho1
  have how1 := hoa.trans0 ho1
  go_wp2_with fail
  refine (hfew.out _ hS1).mono ?_
  rintro e w1 ⟨rfl, rfl⟩
  go_wp2_with fail
  refine (lay_any _ steps w1 hS1 hft.out).mono ?_
  rintro e w2 ⟨bv, rfl, hown2, hp2⟩
  have hl2 := hp2.cell hl1 (by simp)
  have how2 := how1.trans0 hp2
  obtain ⟨bs, hbs⟩ : ∃ bs, bs = layL steps := ⟨_, rfl⟩
  rw [← hbs] at hown2 hll hA hC
  have hB2 : Bs w2 bv bs := Cs.of_own hown2 (by omega)
  obtain ⟨ba, bc, rfl⟩ := own_form hown2
  clear hown2 hfew hla hl1 hbs
  have hp3 : Only [] w2 (w2.alloc (Obj.cells #[] 5)) := (Only.refl [] w2).alloc _
  go_wp2_with (first
    | (at_builtin; refine wpList_app (by rfl) _ _ 22 (by rfl) w2.heap.size 5 1 1 el_u8 (by rfl) (own_built w2 [] 5 1 0 rfl (by omega)) (by rfl) (hB2.kept0 hp3) (bytes_one _) (by omega) (by omega) (by simp) ?_; intro v4 w4 hown4 happ4)
    | (at_builtin; refine wpList_app1 (by rfl) _ _ 22 (by rfl) w2.heap.size 5 1 1 el_u8 (by rfl) hown4 [_] (by rfl) rfl (one1 rfl) (by omega) (by omega) (by have := happ4.grown.size; simp at this; omega) ?_; intro v5 w5 hown5 happ5))
  have hB5 : Bs w5 v5 (bs ++ [y]) := Cs.of_own (own_cast hown5 (by simp) (by simp [bytes])) (by simp; omega)
  have ho5 : Only [] w2 w5 := (hp3.app happ4 (fun i hi => .inr (by simp [Value.ownBlock] at hi; omega))).app happ5 (fun i hi => .inr (hown4.lt i hi).1)
  have hl5 := ho5.cell hl2 (by simp)
  have how5 := how2.trans0 ho5
  have hB5b := hB2.kept0 ho5
  clear hown4 hown5 happ4 happ5 hp3
  refine (cuts_read w5 w w.heap.size _ v5 steps _ hS how5 hl5 (Nat.le_refl _) hB5 3 (.inl ⟨by rw [hA.out], by rw [hA.out]; simp⟩)).mono ?_
  rintro e w6 ⟨rfl, hp6⟩
  have hB6 := hB5b.kept0 hp6
  have hl6 := hp6.cell hl5 (by simp)
  have how6 := how5.trans0 hp6
  by_cases hz : bs.length = 0
  · have hzb : ((bs.length : Int) == 0) = true := by simp [hz]
    replace hz := hid hz
    go_wp2
    go_ret
    exact ⟨rfl, how6⟩
  · have hzb : ((bs.length : Int) == 0) = false := by rw [beq_eq_false_iff_ne]; omega
    obtain ⟨k, hk⟩ : ∃ k, k = c % bs.length := ⟨_, rfl⟩
    have hkl : k < bs.length := by rw [hk]; exact Nat.mod_lt _ (by omega)
    have hmod : (c : Int) % (bs.length : Int) = (k : Int) := by rw [hk]; exact (Int.natCast_emod c bs.length).symm
    have h2 := hC.out k hkl
    have hpos : 0 < bs.length := by omega
    have hread := hid (cuts_read w6 w w.heap.size _ (.slice ba k bc) steps _ hS how6 hl6 (Nat.le_refl _) (hB6.pre k (by omega)) 2 (.inr ⟨by rw [h2]; omega, h2.symm⟩))
    obtain ⟨_, ba', bc', he, b1, b2, b3, _⟩ := id hB6
    simp only [Value.slice.injEq] at he
    obtain ⟨rfl, _, rfl⟩ := he
    clear hz hk h2
    go_wp2_with fail
    refine hread.out.mono ?_
    rintro e w7 ⟨rfl, hp7⟩
    go_wp2
    go_ret
    exact ⟨rfl, how6.trans0 hp7⟩
end Go.Proofs.Ytcceiejfphokbaa.Sh
