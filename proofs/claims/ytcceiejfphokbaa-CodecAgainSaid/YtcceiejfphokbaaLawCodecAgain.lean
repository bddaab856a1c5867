/- What is read without an error, and laid again, is the same bytes: the law's walk. -/
import Derived.Test.YtcceiejfphokbaaCodecR
namespace Go.Proofs.Ytcceiejfphokbaa.Sh
open Go Go.RowKit

theorem enter_again1 (args : Array Value) (w : World) : (callFunc 47 args).run Try.prog w = .ok (.enter 47 args) w := by
  simp [go_sem, Try.func47]

def AgainEnd (w0 : World) (gb : Nat) (b : List UInt8) (e : Ending) (w' : World) : Prop :=
  ∃ c : Nat, e = .returned (.int .i64 (c : Int)) ∧ Only [] w0 w' ∧ (c = 0 → ∃ g, w'.cell? ⟨gb, 0, none⟩ = some g ∧ Bs w' g b)

set_option maxRecDepth 20000 in
set_option maxHeartbeats 6400000 in
theorem codecAgain_walk (w : World) {v u : Value} {b : List UInt8} {steps : List Stp} (hB : Bs w v b) (hS : Steps w u steps) :
    Calls Try.prog 13 #[v, u] w fun e w' => e = .returned (.bool true) ∧ Only [] w w' := by
  have hmf : ∀ (fn : Fn) (first cap : Array Value) (w : World), (Instr.makeFunc fn first cap).run Try.prog w = .ok (.func fn first cap) w := fun _ _ _ _ => rfl
  obtain ⟨_, a, cap, rfl, h1, h2, h3, _⟩ := id hB
  obtain ⟨sa, scap, rfl, s1, s2, s3⟩ := hS.form
  obtain ⟨x, hx⟩ : ∃ x, x = fewL steps := ⟨_, rfl⟩
  have hfew := fun w' h => few_any (.slice sa steps.length scap) steps w' h
  rw [← hx] at hfew
  replace hfew := hid hfew
  clear hx
  have hoa : Only [] w (w.alloc (Obj.cells #[.slice sa steps.length scap] 48)) := (Only.refl [] w).alloc _
  have hla : (w.alloc (Obj.cells #[.slice sa steps.length scap] 48)).cell? ⟨w.heap.size, 0, none⟩ = some (.slice sa steps.length scap) := by simp [go_sem]
  by_cases hbad : x = false ∨ 400 < b.length
  · have hgo : ∀ x, x = false ∨ x = true ∧ 400 < b.length → (∀ w', Steps w' (.slice sa steps.length scap) steps → Calls Try.prog 29 #[.slice sa steps.length scap] w' fun e w'' => e = .returned (.bool x) ∧ w'' = w') → Calls Try.prog 13 #[.slice a b.length cap, .slice sa steps.length scap] w fun e w' => e = .returned (.bool true) ∧ Only [] w w' := by
      intro x hx hf
      replace hf := hid hf
      clear hfew hbad
      rcases hx with rfl | ⟨rfl, hx⟩
      all_goals
        go_enter Try.func13, Try.ntmps13
        go_wp2_with fail
        refine (awake08_any _).mono ?_
        rintro e w1 ⟨rfl, ho1⟩
        have hl1 := ho1.cell hla (by simp)
        go_wp2_with fail
        refine (hf.out _ ((hS.kept0 hoa).kept0 ho1)).mono ?_
        rintro e w1 ⟨rfl, rfl⟩
        go_wp2_with fail
        refine (awake08_any _).mono ?_
        rintro e w2 ⟨rfl, ho2⟩
        go_wp2
        go_ret
        exact ⟨rfl, (hoa.trans0 ho1).trans0 ho2⟩
    refine hgo x ?_ hfew.out
    rcases hbad with h | h
    · exact .inl h
    · cases x
      · exact .inl rfl
      · exact .inr ⟨rfl, h⟩
  obtain rfl : x = true := by
    cases x
    · exact absurd (.inl rfl) hbad
    · rfl
  have hl : ¬ 400 < b.length := fun h => hbad (.inr h)
  clear hbad
  go_enter Try.func13, Try.ntmps13
  go_wp2_with fail
  refine (awake08_any _).mono ?_
  rintro e w1 ⟨rfl, ho1⟩
  have hl1 := ho1.cell hla (by simp)
  go_wp2_with fail
  refine (hfew.out _ ((hS.kept0 hoa).kept0 ho1)).mono ?_
  rintro e w1 ⟨rfl, rfl⟩
  go_wp2_with fail
  have hB1 := (hB.kept0 hoa).kept0 ho1
  have how1 := hoa.trans0 ho1
  have hsz1 : w.heap.size < w1.heap.size := by have := ho1.size; simp at this; omega
  obtain ⟨w2, hw2⟩ : ∃ w2, w2 = w1.alloc (Obj.cells #[.slice none 0 0] 22) := ⟨_, rfl⟩
  rw [← hw2]
  have how2 : Only [] w1 w2 := by rw [hw2]; exact (Only.refl [] w1).alloc _
  have hs2 : w2.heap.size = w1.heap.size + 1 := by rw [hw2]; simp
  have q0 : w2.cell? ⟨w1.heap.size, 0, none⟩ = some (.slice none 0 0) ∧ w2.frozen? ⟨w1.heap.size, 0, none⟩ = false := by rw [hw2]; constructor <;> simp [go_sem]
  have hl2 := how2.cell hl1 (by simp)
  have hBw2 := hB1.kept0 how2
  have how := how1.trans0 how2
  clear hw2
  obtain ⟨fb, hfb, hfar, hfl⟩ : ∃ fb, (∀ x, (Value.slice a b.length cap).ownBlock = some x → b = [] ∨ x = fb) ∧ (fb < w.heap.size ∨ w2.heap.size + 10 < fb) ∧ (b = [] ∨ fb < w.heap.size) := by
    obtain ⟨fb, g1, g2, g3⟩ := hB.fb
    rcases g3 with g3 | g3
    · exact ⟨w2.heap.size + 11, fun _ _ => .inl g3, .inr (by omega), .inl g3⟩
    · exact ⟨fb, g1, .inl g3, .inr g3⟩
  refine (read_any _ b fb 47 #[.pointer (some ⟨w.heap.size, 0, none⟩), .pointer (some ⟨w1.heap.size, 0, none⟩)] w2 (AgainEnd w w1.heap.size b) hBw2 hfb (by omega) enter_again1 ?_).mono ?_
  · intro w3 hp3 hs3 hr3
    have h0 : RA w w3 w3 w.heap.size w1.heap.size (w2.heap.size + 1) fb (.slice sa steps.length scap) b 0 (.slice none 0 0) :=
      ⟨how.trans0 hp3, hp3.cell hl2 (by simp), cell_kept hp3 (by simp) q0, World.ownsRow_nil _ _ _ _, by omega, by omega, by omega, by omega, hr3, Only.refl _ _, by omega, by rcases hfl with h | h; exact .inl h; exact .inr (by omega)⟩
    refine (again_by w w3 _ _ _ fb _ steps b hS (by omega) h0).mono ?_
    rintro e w4 ⟨hO4, hS4, hcase⟩
    refine ⟨⟨_, hS4, by simp; omega, by simp; omega⟩, ?_⟩
    have hOn : ∀ w5, Only [w2.heap.size, w2.heap.size + 1, w2.heap.size + 1 + 1] w4 w5 → Only [] w w5 := fun w5 hp5 => hO4.trans hp5 (by simp) (by simp; omega)
    rcases hcase with ⟨p, g, hR, rfl⟩ | ⟨c, l, hc, rfl, hr⟩
    · refine .inl ⟨b.drop p, rfl, hR.r, fun w5 hp5 => ?_⟩
      by_cases hd : b.drop p = []
      · rw [if_pos hd]
        refine ⟨0, rfl, hOn w5 hp5, fun _ => ⟨g, hp5.cell hR.again.1 (by simp; omega), ?_⟩⟩
        have hp : b.take p = b := by
          apply List.take_of_length_le
          have := congrArg List.length hd
          simp at this
          omega
        have := hR.own
        rw [hp] at this
        have h6 := own_only this hp5 (fun k hk => by have := (this.lt k hk).1; simp; omega)
        exact Cs.of_own h6 (by omega)
      · rw [if_neg hd]
        exact ⟨3, rfl, hOn w5 hp5, fun h => by omega⟩
    · exact .inr (.inl ⟨l, c, rfl, hr, fun w5 hp5 => ⟨c, rfl, hOn w5 hp5, fun h => absurd h hc⟩⟩)
  rintro e w4 ⟨c, rfl, ho4, hz⟩
  by_cases hc : c = 0
  · subst hc
    obtain ⟨g, hg, hgB⟩ := hz rfl
    obtain ⟨_, ga, gc, rfl, _, _, _, _⟩ := id hgB
    have hB4 := hB.kept0 ho4
    clear hmf hz
    go_wp2_with fail
    refine (same_eq _ _ b _ hgB hB4).mono ?_
    rintro e w5 ⟨rfl, hp5⟩
    go_wp2
    go_ret
    exact ⟨rfl, ho4.trans0 hp5⟩
  · have hcz : ((c : Int) != 0) = true := by rw [bne_iff_ne]; omega
    clear hmf hz hc
    go_wp2
    go_ret
    exact ⟨rfl, ho4⟩
end Go.Proofs.Ytcceiejfphokbaa.Sh
