/- Orders of bytes, the program's and the document's: walked. -/
import Derived.Test.YtiinfiaemiaamaaTxB
namespace Go.Proofs.Ytiinfiaemiaamaa.Sh
open Go Go.RowKit

theorem enter_dec (args : Array Value) (w : World) : (callFunc 55 args).run Try.prog w = .ok (.enter 55 args) w := by
  simp [go_sem, Try.func55]

/-- What Read comes to over an order. -/
def DecEnd (B tb : Nat) (b : List UInt8) (w : World) (e : Ending) (w' : World) : Prop :=
  Only [tb] w w' ∧ ((decS b).1 ≠ 0 ∧ e = .returned (.int .i64 ((decS b).1 : Int)) ∨
    (decS b).1 = 0 ∧ (decS b).2.2.2.2.2 ≠ [] ∧ e = .returned (.int .i64 3) ∨
    (decS b).1 = 0 ∧ (decS b).2.2.2.2.2 = [] ∧ e = .returned (.int .i64 0) ∧ TxAt w' tb (decS b).2.1 (decS b).2.2.1 (decS b).2.2.2.1 (decS b).2.2.2.2.1 ∧ ∀ mv x, w'.cell? ⟨tb, 3, none⟩ = some mv → mv.ownBlock = some x → B ≤ x)

def DecPost (w : World) (b : List UInt8) (e : Ending) (w' : World) : Prop :=
  Only [] w w' ∧ ∃ mv, e = .returned (.tuple #[txV ((decE b).2.1 : Int) ((decE b).2.2.1 : Int) (decE b).2.2.2.1 mv, .int .i64 ((decE b).1 : Int)]) ∧ Bs w' mv (decE b).2.2.2.2

theorem Bs.fbne {w : World} {v : Value} {l : List UInt8} (h : Bs w v l) (n : Nat) : ∃ fb, (∀ b, v.ownBlock = some b → l = [] ∨ b = fb) ∧ (fb < w.heap.size ∨ n < fb) := by
  obtain ⟨fb, g1, g2, g3⟩ := h.fb
  rcases g3 with g3 | g3
  · exact ⟨n + 1, fun _ _ => .inl g3, .inr (by omega)⟩
  · exact ⟨fb, g1, .inl g3⟩

set_option maxRecDepth 20000 in
set_option maxHeartbeats 1600000 in
theorem dec_read (w : World) (tb : Nat) (v : Value) (b : List UInt8) (hB : Bs w v b) (htb : ∀ x, v.ownBlock = some x → b = [] ∨ x ≠ tb) (ht : TxAt w tb 0 0 0 []) :
    Calls Try.prog 54 #[v, .func (.func 55) #[] #[.pointer (some ⟨tb, 0, none⟩)]] w (DecEnd w.heap.size tb b w) := by
  obtain ⟨fb, hfb, hfl⟩ := hB.fbne (w.heap.size + 10)
  have htl : tb < w.heap.size := by simpa using World.block_lt_of_cell? w _ ht.1.1
  obtain ⟨fb, hfb, hfl, hft⟩ : ∃ fb, (∀ x, v.ownBlock = some x → b = [] ∨ x = fb) ∧ (fb < w.heap.size ∨ w.heap.size + 10 < fb) ∧ fb ≠ tb := by
    by_cases h : fb = tb
    · subst h
      refine ⟨w.heap.size + 11, fun x hx => ?_, .inr (by omega), by omega⟩
      rcases hfb x hx with h1 | h1
      · exact .inl h1
      · rcases htb x hx with h2 | h2
        · exact .inl h2
        · exact absurd h1 h2
    · exact ⟨fb, hfb, hfl, h⟩
  refine read_any v b fb 55 #[.pointer (some ⟨tb, 0, none⟩)] w _ hB hfb (by omega) enter_dec ?_
  intro w2 ho2 hs2 hr2
  refine (dec_by (w.heap.size + 1) fb tb b w2 hr2 (by omega) hft ⟨_, _, _, _, ht.kept0 ho2⟩).mono ?_
  rintro e w3 ⟨o3, r3, hcase⟩
  have hs3 := o3.size
  refine ⟨⟨_, o3, by simp; omega, by simp; omega⟩, ?_⟩
  have hO : ∀ w4, Only [w.heap.size, w.heap.size + 1, w.heap.size + 1 + 1] w3 w4 → Only [tb] w w4 := fun w4 ho4 =>
    ((ho2.trans o3 (ds := [tb]) (by simp) (by intro x hx; simp at hx; rcases hx with rfl | rfl; exact .inr (by omega); exact .inl (by simp))).trans ho4 (by simp) (by simp; omega))
  rcases hcase with ⟨hz, rfl, hr, htx, hnew⟩ | ⟨hz, rfl⟩
  · refine .inl ⟨_, rfl, hr, fun w4 ho4 => ⟨hO w4 ho4, ?_⟩⟩
    by_cases hl : (decS b).2.2.2.2.2 = []
    · rw [if_pos hl]
      have hnew' : ∀ mv x, w3.cell? ⟨tb, 3, none⟩ = some mv → mv.ownBlock = some x → w.heap.size + 3 ≤ x := fun mv x h1 h2 => by have := hnew mv x h1 h2; omega
      refine .inr (.inr ⟨hz, hl, rfl, htx.kept ho4 (by simp; omega) (fun mv x h1 h2 => .inr (by have := hnew' mv x h1 h2; simp; omega)), fun mv x h1 h2 => ?_⟩)
      rw [ho4.cell' (by simp only; omega) (by simp; omega)] at h1
      have := hnew' mv x h1 h2
      omega
    · rw [if_neg hl]
      exact .inr (.inl ⟨hz, hl, rfl⟩)
  · obtain ⟨l', hr⟩ := r3
    exact .inr (.inl ⟨l', _, rfl, hr, fun w4 ho4 => ⟨hO w4 ho4, .inl ⟨hz, rfl⟩⟩⟩)

set_option maxRecDepth 20000 in
set_option maxHeartbeats 1600000 in
theorem decode_any (w : World) (v : Value) (b : List UInt8) (hB : Bs w v b) :
    Calls Try.prog 30 #[v] w (DecPost w b) := by
  have hmf : ∀ (fn : Fn) (first cap : Array Value) (w : World), (Instr.makeFunc fn first cap).run Try.prog w = .ok (.func fn first cap) w := fun _ _ _ _ => rfl
  obtain ⟨a, cap, rfl⟩ := bs_form' hB
  obtain ⟨w1, hw1⟩ : ∃ w1, w1 = (w.alloc (Obj.cells #[.int .i64 0, .int .i64 0, .int .u64 0, .slice none 0 0] 40)).alloc (Obj.cells #[.int .i64 0, .int .i64 0, .int .u64 0, .slice none 0 0] 40) := ⟨_, rfl⟩
  have ho1 : Only [] w w1 := by rw [hw1]; exact ((Only.refl [] w).alloc _).alloc _
  have hs1 : w1.heap.size = w.heap.size + 2 := by rw [hw1]; simp
  have p0 : w1.cell? ⟨w.heap.size, 0, none⟩ = some (.int .i64 0) ∧ w1.frozen? ⟨w.heap.size, 0, none⟩ = false := by rw [hw1]; constructor <;> simp [go_sem]
  have p1 : w1.cell? ⟨w.heap.size, 1, none⟩ = some (.int .i64 0) ∧ w1.frozen? ⟨w.heap.size, 1, none⟩ = false := by rw [hw1]; constructor <;> simp [go_sem]
  have p2 : w1.cell? ⟨w.heap.size, 2, none⟩ = some (.int .u64 0) ∧ w1.frozen? ⟨w.heap.size, 2, none⟩ = false := by rw [hw1]; constructor <;> simp [go_sem]
  have p3 : w1.cell? ⟨w.heap.size, 3, none⟩ = some (.slice none 0 0) ∧ w1.frozen? ⟨w.heap.size, 3, none⟩ = false := by rw [hw1]; constructor <;> simp [go_sem]
  have ht : TxAt w1 (w.heap.size + 1) 0 0 0 [] := by
    refine ⟨?_, ?_, ?_, .slice none 0 0, ?_, Bs.empty (by unfold maxLen; omega), fun b hb => .inl rfl⟩
    all_goals rw [hw1]; constructor <;> simp [go_sem]
  have hrd := hid (dec_read w1 (w.heap.size + 1) _ b (hB.kept0 ho1) (fun x hx => by
    rcases hB.old x hx with h | h
    · exact .inl h
    · exact .inr (by omega)) ht)
  clear ht
  go_enter Try.func30, Try.ntmps30
  go_wp2_with fail
  rw [← hw1]
  clear hw1
  refine hrd.out.mono ?_
  rintro e w2 ⟨o2, hcase⟩
  replace p0 := cell_kept o2 (by simp) p0
  replace p1 := cell_kept o2 (by simp) p1
  replace p2 := cell_kept o2 (by simp) p2
  replace p3 := cell_kept o2 (by simp) p3
  have hO2 : Only [] w w2 := ho1.trans o2 (by simp) (by simp)
  have hOs : ∀ (w3 : World) (v0 v1 v2 v3 : Value), Only [] w w3 → Only [] w ((((w3.setCell ⟨w.heap.size, 0, none⟩ v0).setCell ⟨w.heap.size, 1, none⟩ v1).setCell ⟨w.heap.size, 2, none⟩ v2).setCell ⟨w.heap.size, 3, none⟩ v3) := fun w3 v0 v1 v2 v3 h => (((h.setCell (.inr (by simp)) _).setCell (.inr (by simp)) _).setCell (.inr (by simp)) _).setCell (.inr (by simp)) _
  have HOS := hid hOs
  obtain ⟨p0a, p0b⟩ := p0
  obtain ⟨p1a, p1b⟩ := p1
  obtain ⟨p2a, p2b⟩ := p2
  obtain ⟨p3a, p3b⟩ := p3
  have hnil : ∀ W : World, Bs W (.slice none 0 0) [] := fun W => Bs.empty (by unfold maxLen; omega)
  have HN := hid hnil
  clear hOs hnil
  rcases hcase with ⟨hz, rfl⟩ | ⟨hz, hl, rfl⟩ | ⟨hz, hl, rfl, htx, hnew⟩
  · obtain ⟨c, hc⟩ : ∃ c, c = (decS b).1 := ⟨_, rfl⟩
    have hd : decE b = (c, 0, 0, 0, []) := by unfold decE; rw [if_pos hz, hc]
    rw [← hc] at hz ⊢
    have hcz : ((c : Int) != 0) = true := by rw [bne_iff_ne]; omega
    have HD := hid hd
    clear hz hc hd hrd
    go_wp2
    exact bodyPost_ret (v := .tuple #[txV 0 0 0 (.slice none 0 0), .int .i64 (c : Int)]) (by simp [results, Try.results30, go_sem, p0a, p1a, p2a, p3a]) rfl ⟨HOS.out _ _ _ _ _ hO2, _, by rw [HD.out]; rfl, by rw [HD.out]; exact HN.out _⟩
  · have hd : decE b = (3, 0, 0, 0, []) := by unfold decE; rw [if_neg (by simp [hz]), if_pos hl]
    have HD := hid hd
    clear hz hd hl hrd
    go_wp2
    exact bodyPost_ret (v := .tuple #[txV 0 0 0 (.slice none 0 0), .int .i64 3]) (by simp [results, Try.results30, go_sem, p0a, p1a, p2a, p3a]) rfl ⟨HOS.out _ _ _ _ _ hO2, _, by rw [HD.out]; rfl, by rw [HD.out]; exact HN.out _⟩
  · have hd : decE b = if rightB ((decS b).2.1 : Int) ((decS b).2.2.1 : Int) (decS b).2.2.2.1 (decS b).2.2.2.2.1.length = false then (14, 0, 0, 0, []) else (0, (decS b).2.1, (decS b).2.2.1, (decS b).2.2.2.1, (decS b).2.2.2.2.1) := by
      conv => lhs; unfold decE
      rw [if_neg (by simp [hz]), if_neg (by simp [hl])]
    obtain ⟨k, hk⟩ : ∃ k, k = (decS b).2.1 := ⟨_, rfl⟩
    obtain ⟨t, ht⟩ : ∃ t, t = (decS b).2.2.1 := ⟨_, rfl⟩
    obtain ⟨am, ham⟩ : ∃ am, am = (decS b).2.2.2.1 := ⟨_, rfl⟩
    obtain ⟨m, hm⟩ : ∃ m, m = (decS b).2.2.2.2.1 := ⟨_, rfl⟩
    rw [← hk, ← ht, ← ham, ← hm] at hd htx
    obtain ⟨⟨q0, _⟩, ⟨q1, _⟩, ⟨q2, _⟩, mv, ⟨q3, _⟩, hBm, _⟩ := htx
    obtain ⟨ma, mc, rfl⟩ := bs_form' hBm
    have hri := hid (right_any w2 (k : Int) (t : Int) am _ m hBm)
    have hnw := hid (fun x hx => hnew _ x q3 hx)
    clear hz hl hk ht ham hm hnew hrd
    obtain ⟨r, hr⟩ : ∃ r, r = rightB (k : Int) (t : Int) am m.length := ⟨_, rfl⟩
    rw [← hr] at hd hri
    cases r with
    | false =>
      rw [if_pos rfl] at hd
      have HD := hid hd
      clear hd hr
      go_wp2_with fail
      with_reducible refine hri.out.mono ?_
      rintro e w3 ⟨rfl, o3⟩
      replace p0a := o3.cell p0a (by simp)
      replace p1a := o3.cell p1a (by simp)
      replace p2a := o3.cell p2a (by simp)
      replace p3a := o3.cell p3a (by simp)
      obtain ⟨f0, f1, f2, f3⟩ : (w3.frozen? ⟨w.heap.size, 0, none⟩ = false ∧ w3.frozen? ⟨w.heap.size, 1, none⟩ = false ∧ w3.frozen? ⟨w.heap.size, 2, none⟩ = false ∧ w3.frozen? ⟨w.heap.size, 3, none⟩ = false) := by
        have hl2 : w.heap.size < w2.heap.size := by have := o2.size; omega
        exact ⟨by rw [o3.frozen' hl2 (by simp)]; exact p0b, by rw [o3.frozen' hl2 (by simp)]; exact p1b, by rw [o3.frozen' hl2 (by simp)]; exact p2b, by rw [o3.frozen' hl2 (by simp)]; exact p3b⟩
      have hO3 := hO2.trans0 o3
      clear p0b p1b p2b p3b hri q0 q1 q2 q3
      go_wp2
      exact bodyPost_ret (v := .tuple #[txV 0 0 0 (.slice none 0 0), .int .i64 14]) (by simp [results, Try.results30, go_sem, p0a, p1a, p2a, p3a]) rfl ⟨HOS.out _ _ _ _ _ hO3, _, by rw [HD.out]; rfl, by rw [HD.out]; exact HN.out _⟩
    | true =>
      rw [if_neg (by simp)] at hd
      have HD := hid hd
      clear hd hr
      go_wp2_with fail
      with_reducible refine hri.out.mono ?_
      rintro e w3 ⟨rfl, o3⟩
      replace p0a := o3.cell p0a (by simp)
      replace p1a := o3.cell p1a (by simp)
      replace p2a := o3.cell p2a (by simp)
      replace p3a := o3.cell p3a (by simp)
      replace q0 := o3.cell q0 (by simp)
      replace q1 := o3.cell q1 (by simp)
      replace q2 := o3.cell q2 (by simp)
      replace q3 := o3.cell q3 (by simp)
      have hl2 : w.heap.size < w2.heap.size := by have := o2.size; omega
      obtain ⟨f0, f1, f2, f3⟩ : (w3.frozen? ⟨w.heap.size, 0, none⟩ = false ∧ w3.frozen? ⟨w.heap.size, 1, none⟩ = false ∧ w3.frozen? ⟨w.heap.size, 2, none⟩ = false ∧ w3.frozen? ⟨w.heap.size, 3, none⟩ = false) := by
        exact ⟨by rw [o3.frozen' hl2 (by simp)]; exact p0b, by rw [o3.frozen' hl2 (by simp)]; exact p1b, by rw [o3.frozen' hl2 (by simp)]; exact p2b, by rw [o3.frozen' hl2 (by simp)]; exact p3b⟩
      have hO3 := hO2.trans0 o3
      have hB3 := hid (hBm.kept0 o3)
      have hoF : ∀ v0 v1 v2 v3 : Value, Only [w.heap.size] w3 ((((w3.setCell ⟨w.heap.size, 0, none⟩ v0).setCell ⟨w.heap.size, 1, none⟩ v1).setCell ⟨w.heap.size, 2, none⟩ v2).setCell ⟨w.heap.size, 3, none⟩ v3) := fun v0 v1 v2 v3 => ((((Only.refl [w.heap.size] w3).setCell (.inl (by simp)) _).setCell (.inl (by simp)) _).setCell (.inl (by simp)) _).setCell (.inl (by simp)) _
      have HOF := hid hoF
      have hne := hid (show ∀ x, (Value.slice ma m.length mc).ownBlock = some x → m = [] ∨ x ∉ [w.heap.size] from fun x hx => .inr (by have := hnw.out x hx; simp; omega))
      clear p0b p1b p2b p3b hri hnw hBm hoF hl2
      go_wp2
      exact bodyPost_ret (v := .tuple #[txV (k : Int) (t : Int) am (.slice ma m.length mc), .int .i64 0]) (by simp [results, Try.results30, go_sem, p0a, p1a, p2a, p3a]) rfl ⟨HOS.out _ _ _ _ _ hO3, _, by rw [HD.out]; rfl, by rw [HD.out]; exact hB3.out.kept' (HOF.out _ _ _ _) hne.out⟩
end Go.Proofs.Ytiinfiaemiaamaa.Sh
