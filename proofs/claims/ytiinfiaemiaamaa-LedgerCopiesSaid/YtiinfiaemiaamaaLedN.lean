/- A ledger's copy; a nil ledger: walked. -/
import Derived.Test.YtiinfiaemiaamaaLedL
import Derived.Shelf.SlMaps.Clone
import Derived.WalkSpells
import Derived.Deep.RegionHeld3
namespace Go.Proofs.Ytiinfiaemiaamaa.Sh
open Go Go.RowKit

/-- The accounts' cells. -/
def accN (b n : Nat → Nat) : Nat → List Value
  | 0 => []
  | k + 1 => accN b n k ++ [u64 (b k), u64 (n k)]
theorem accN_length (b n : Nat → Nat) : ∀ k, (accN b n k).length = k * 2
  | 0 => rfl
  | k + 1 => by simp [accN, accN_length b n k]; omega
theorem accN_get (b n : Nat → Nat) : ∀ (k i : Nat), i < k → (accN b n k)[i * 2]? = some (u64 (b i)) ∧ (accN b n k)[i * 2 + 1]? = some (u64 (n i))
  | 0, i, h => by omega
  | k + 1, i, h => by
    have hl := accN_length b n k
    by_cases hi : i < k
    · have := accN_get b n k i hi
      unfold accN
      rw [List.getElem?_append_left (by omega), List.getElem?_append_left (by omega)]
      exact this
    · obtain rfl : i = k := by omega
      unfold accN
      rw [List.getElem?_append_right (by omega), List.getElem?_append_right (by omega), hl, Nat.sub_self, show i * 2 + 1 - i * 2 = 1 by omega]
      exact ⟨rfl, rfl⟩
theorem accN_of (b n : Nat → Nat) (k : Nat) {j : Nat} {u : Value} (h : (accN b n k)[j]? = some u) : ∃ i, i < k ∧ (j = i * 2 ∧ u = u64 (b i) ∨ j = i * 2 + 1 ∧ u = u64 (n i)) := by
  have hj : j < k * 2 := by
    have := (List.getElem?_eq_some_iff.1 h).1
    rwa [accN_length] at this
  refine ⟨j / 2, by omega, ?_⟩
  have hg := accN_get b n k (j / 2) (by omega)
  by_cases he : j % 2 = 0
  · have e : j / 2 * 2 = j := by omega
    rw [e] at hg
    exact .inl ⟨e.symm, by rw [hg.1] at h; exact (Option.some.inj h).symm⟩
  · have e : j / 2 * 2 + 1 = j := by omega
    rw [e] at hg
    exact .inr ⟨e.symm, by rw [hg.2] at h; exact (Option.some.inj h).symm⟩

set_option maxHeartbeats 400000 in
theorem sclone_any (w : World) (ab k cap : Nat) (cs : List Value) (hC : Cs 2 w (.slice (some ⟨ab, 0, none⟩) k cap) k cs) (h1 : ∀ u ∈ cs, u.oneCell' = true) (hk : k ≤ 6) :
    Calls Try.prog 67 #[.slice (some ⟨ab, 0, none⟩) k cap] w fun e w' => ∃ v', e = .returned v' ∧ w'.ownsRow w.heap.size 78 2 v' k cs ∧ Only [] w w' := by
  have hq := fun (w : World) (a : Option Addr) (n c : Nat) => Lib.run_eql_slice_nil (P := Try.prog) w 74 78 a n c 0 0 Try.underlying74
  go_enter Try.func67, Try.ntmps67
  go_wp2_with (at_builtin; refine wpList_app (by rfl) _ _ 74 (by rfl) w.heap.size 78 2 16 el_acc (by rfl) (World.ownsRow_made w #[] 0 (Nat.le_refl _) (by unfold maxLen; omega) rfl) (by rfl) (hC.kept0 ((Only.refl [] w).alloc _)) h1 (by omega) (by omega) (by simp) ?_; intro v1 w1 hown1 happ1)
  go_ret
  exact ⟨_, rfl, by simpa using hown1, ((Only.refl [] w).alloc _).app happ1 (by simp [Value.ownBlock])⟩

set_option maxRecDepth 20000 in
set_option maxHeartbeats 800000 in
theorem mclone_any (w : World) (mb : Nat) (es : List (Value × Value)) (hM : Mp Try.prog 3 w mb es) :
    Calls Try.prog 68 #[.map (some mb)] w fun e w' => e = .returned (.map (some w.heap.size)) ∧ Mp Try.prog 3 w' w.heap.size es ∧ Only [] w w' := by
  obtain ⟨⟨arr, clock, hb, hes⟩, hg⟩ := hM
  have hq := fun w => run_eql_map_nil_sl (P := Try.prog) w 73 _ _ (some mb) Try.underlying73
  have hpost : Hid (Mp Try.prog 3 (w.alloc (.map arr clock)) w.heap.size es) := ⟨⟨arr, clock, heap_alloc_new w _, hes⟩, hg⟩
  clear hes hg
  go_enter Try.func68, Try.ntmps68
  go_wp2
  rw [run_callFunc_extern Try.func74 (by kernel_rfl) (by kernel_rfl) (by kernel_rfl) (e := Extern.MapsClone.clone) (by kernel_rfl), run_maps_clone_sl w 73 hb]
  simp only [Result.andThen]
  rw [Oper.upon_value]
  go_wp2
  rw [run_typeAssert_map_sl _ 73 _ _ _ _ Try.underlying73]
  simp only [Result.andThen]
  rw [Oper.upon_value]
  go_wp2
  go_ret
  exact ⟨rfl, hpost.out, (Only.refl [] w).alloc _⟩

theorem led_made (W W' : World) (B g c mb x : Nat) (m : Lm) (hk : 1 ≤ m.k)
    (own : W.ownsRow B 78 2 (.slice (some ⟨g, 0, none⟩) m.k c) m.k (accN m.b m.n m.k)) (hH : Held W mb m.k m.f m.d) (ho : Only [] W W') (hx : W.heap.size ≤ x) (hne : g ≠ mb)
    (x0 : W'.cell? ⟨x, 0, none⟩ = some (.slice (some ⟨g, 0, none⟩) m.k c)) (x1 : W'.cell? ⟨x, 1, none⟩ = some (.map (some mb))) (x2 : W'.cell? ⟨x, 2, none⟩ = some (u64 m.t) ∧ W'.frozen? ⟨x, 2, none⟩ = false) (hm : mb < W.heap.size) : Led W' x g mb m := by
  have hgl := (own.lt g rfl).2
  have hcs := own.cells (g := g) rfl
  rcases own.2 with ⟨e, _⟩ | ⟨g', cap', cur, e, _, hgg, e1, e2, _⟩
  · cases e
  · simp only [Value.slice.injEq, Option.some.injEq, Addr.mk.injEq, and_true, true_and] at e
    obtain ⟨rfl, rfl⟩ := e
    have hfz : ∀ i, W.frozen? ⟨g, i, none⟩ = false := fun i => by simp [World.frozen?, hgg]
    refine ⟨⟨c, x0, e1, e2⟩, x1, x2, fun i hi => ?_, fun i hi => ?_, hH.kept ho (by simp), by omega, by omega, hne⟩
    · have := hcs (i * 2) _ (accN_get m.b m.n m.k i hi).1
      rw [Addr.add_mid, Nat.zero_add] at this
      exact cell_kept ho (by simp) ⟨this, hfz _⟩
    · have := hcs (i * 2 + 1) _ (accN_get m.b m.n m.k i hi).2
      rw [Addr.add_mid, Nat.zero_add] at this
      exact cell_kept ho (by simp) ⟨this, hfz _⟩

def CopyPost (w : World) (m : Lm) (e : Ending) (w' : World) : Prop :=
  ∃ x ab mb, e = .returned (.pointer (some ⟨x, 0, none⟩)) ∧ (w.heap.size ≤ x ∧ w.heap.size ≤ ab ∧ w.heap.size ≤ mb) ∧ Led w' x ab mb m ∧ Only [] w w'

set_option maxRecDepth 20000 in
set_option maxHeartbeats 1600000 in
theorem copy_any (w : World) (x ab mb : Nat) (m : Lm) (h : Led w x ab mb m) (hk : 1 ≤ m.k ∧ m.k ≤ 6) :
    Calls Try.prog 41 #[.pointer (some ⟨x, 0, none⟩)] w (CopyPost w m) := by
  obtain ⟨cap, a1, a2, a3⟩ := h.acc
  have a4 := h.mp
  obtain ⟨a5, _⟩ := h.tr
  simp only [u64] at a5
  have hC : Cs 2 w (.slice (some ⟨ab, 0, none⟩) m.k cap) m.k (accN m.b m.n m.k) := by
    refine ⟨accN_length _ _ _, _, cap, rfl, a2, a3, by omega, .inr ⟨ab, 0, rfl, fun j u hj => ?_⟩⟩
    obtain ⟨i, hi, ⟨rfl, rfl⟩ | ⟨rfl, rfl⟩⟩ := accN_of _ _ _ hj
    · rw [Nat.zero_add]; exact (h.cb i hi).1
    · rw [Nat.zero_add]; exact (h.cn i hi).1
  have h1 : ∀ u ∈ accN m.b m.n m.k, u.oneCell' = true := by
    intro u hu
    obtain ⟨j, hj⟩ := List.getElem?_of_mem hu
    obtain ⟨i, _, ⟨_, rfl⟩ | ⟨_, rfl⟩⟩ := accN_of _ _ _ hj <;> rfl
  have sc := hid (fun W (ho : Only [] w W) => sclone_any W ab m.k cap _ (hC.kept0 ho) h1 hk.2)
  have HH := hid h.held
  have mc := hid (fun W (ho : Only [] w W) (H : List (Nat × Nat × Nat)) (hm : Mp Try.prog 3 w mb (H.map encH)) => mclone_any W mb _ (hm.kept0 ho))
  have od : Only [] w w.drew := (Only.refl [] w).drew
  have HK := hid hk
  obtain ⟨t, ht⟩ : ∃ t, t = m.t := ⟨_, rfl⟩
  rw [← ht] at a5
  have HT := hid ht
  obtain ⟨k, hke⟩ : ∃ k, k = m.k := ⟨_, rfl⟩
  rw [← hke] at a1 sc
  have HKE := hid hke
  obtain ⟨H, hm, hr⟩ := HH.out
  replace hm := hid hm
  replace hr := hid hr
  clear hC h1 h a2 a3 hk ht hke
  go_enter Try.func41, Try.ntmps41
  go_wp2_with fail
  go_region_held3 (fun w' => w'.cell? ⟨x, 0, none⟩ = some (.slice (some ⟨ab, 0, none⟩) k cap) ∧ w'.cell? ⟨x, 1, none⟩ = some (.map (some mb)) ∧ w'.cell? ⟨x, 2, none⟩ = some (.int .u64 (t : Int)))
    (first | exact ⟨a1, a4, a5⟩ | exact ⟨p1.cell a1 (by simp), p1.cell a4 (by simp), p1.cell a5 (by simp)⟩ | exact ⟨p2.cell a1 (by simp), p2.cell a4 (by simp), p2.cell a5 (by simp)⟩ | exact ⟨(p2.alloc _).cell a1 (by simp), (p2.alloc _).cell a4 (by simp), (p2.alloc _).cell a5 (by simp)⟩)
    (first
    | (go_at_call 67; refine (sc.out _ od).mono ?_; rintro e w1 ⟨v1, rfl, own1, q1⟩; have p1 : Only [] w w1 := od.trans0 q1; obtain ⟨g1, c1, rfl⟩ : ∃ g c, v1 = .slice (some ⟨g, 0, none⟩) k c := own1.2.elim (fun h9 => absurd h9.2 (by have := HK.out; have := HKE.out; omega)) (fun ⟨g, c, _, h9, _⟩ => ⟨g, c, h9⟩))
    | (go_at_call 68; refine (mc.out _ p1 H hm.out).mono ?_; rintro e w2 ⟨rfl, hM2, q2⟩; have p2 : Only [] w w2 := p1.trans0 q2))
  go_wp2
  go_ret
  have hg := own1.lt g1 rfl
  have s1 := q1.size
  have s2 := q2.size
  simp only [World.drew] at s1
  have own2 := own_only0 own1 q2
  have e1 := HKE.out
  subst e1
  have e2 := HT.out
  subst e2
  refine ⟨_, g1, w1.heap.size, rfl, ⟨by omega, by have := hg.1; simpa using this, by omega⟩, led_made w2 _ w.drew.heap.size g1 c1 w1.heap.size _ m HK.out.1 own2 ⟨H, hM2, hr.out⟩ ((Only.refl [] w2).alloc _) (Nat.le_refl _) (by omega) (by simp [go_sem]) (by simp [go_sem]) ⟨by simp [go_sem, u64], by simp [go_sem]⟩ hM2.lt, p2.alloc _⟩

/-! a nil ledger -/
section
variable (w : World)
theorem nil_of (who : Int) : Calls Try.prog 46 #[.pointer none, .int .i64 who] w fun e w' => e = .returned (.pointer none) ∧ w' = w := by
  go_enter Try.func46, Try.ntmps46
  go_wp2
  go_ret
  exact ⟨rfl, rfl⟩
theorem nil_copy : Calls Try.prog 41 #[.pointer none] w fun e w' => e = .returned (.pointer none) ∧ w' = w := by
  go_enter Try.func41, Try.ntmps41
  go_wp2
  go_ret
  exact ⟨rfl, rfl⟩
theorem nil_treasury : Calls Try.prog 24 #[.pointer none] w fun e w' => e = .returned (.int .u64 0) ∧ w' = w := by
  go_enter Try.func24, Try.ntmps24
  go_wp2
  go_ret
  exact ⟨rfl, rfl⟩
theorem nil_hold (who : Int) (n : Int) : Calls Try.prog 17 #[.pointer none, .int .i64 who, .int .u64 n] w fun e w' => e = .returned (.int .i64 1) ∧ w' = w := by
  have hof := hid (nil_of w who)
  go_enter Try.func17, Try.ntmps17
  go_wp2_with fail
  refine hof.out.mono ?_
  rintro e w' ⟨rfl, rfl⟩
  go_wp2
  go_ret
  exact ⟨rfl, rfl⟩
theorem nil_turn (who : Int) (n : Int) : Calls Try.prog 25 #[.pointer none, .int .i64 who, .int .u64 n] w fun e w' => e = .returned (.int .i64 1) ∧ w' = w := by
  have hof := hid (nil_of w who)
  go_enter Try.func25, Try.ntmps25
  go_wp2_with fail
  refine hof.out.mono ?_
  rintro e w' ⟨rfl, rfl⟩
  go_wp2
  go_ret
  exact ⟨rfl, rfl⟩
theorem nil_move (p q : Int) (n : Int) : Calls Try.prog 42 #[.pointer none, .int .i64 p, .int .i64 q, .int .u64 n] w fun e w' => e = .returned (.int .i64 1) ∧ w' = w := by
  have hof := hid (nil_of w p)
  have hof2 := hid (nil_of w q)
  go_enter Try.func42, Try.ntmps42
  go_wp2_with fail
  refine hof.out.mono ?_
  rintro e w' ⟨rfl, rfl⟩
  go_wp2_with fail
  refine hof2.out.mono ?_
  rintro e w' ⟨rfl, rfl⟩
  go_wp2
  go_ret
  exact ⟨rfl, rfl⟩
theorem nil_balance (who : Int) : Calls Try.prog 18 #[.pointer none, .int .i64 who] w fun e w' => e = .returned (.int .u64 0) ∧ w' = w := by
  have hof := hid (nil_of w who)
  go_enter Try.func18, Try.ntmps18
  go_wp2_with fail
  refine hof.out.mono ?_
  rintro e w' ⟨rfl, rfl⟩
  go_wp2
  go_ret
  exact ⟨rfl, rfl⟩
set_option maxRecDepth 20000 in
theorem nil_all : Calls Try.prog 47 #[.pointer none] w fun e w' => e = .returned (.agg #[.int .u64 0, .int .u64 0]) ∧ Only [] w w' := by
  go_enter Try.func47, Try.ntmps47
  go_wp2
  exact bodyPost_ret (v := .agg #[.int .u64 0, .int .u64 0]) (by simp [results, Try.results47, go_sem]) rfl ⟨rfl, ((Only.refl [] w).alloc _).alloc _⟩
set_option maxRecDepth 20000 in
theorem nil_fees : Calls Try.prog 19 #[.pointer none] w fun e w' => e = .returned (.int .u64 0) ∧ Only [] w w' := by
  have ha := hid (nil_all w)
  have hfl : ∀ (a b : Value) (w : World), (Instr.field 82 (.agg #[a, b]) 0).run Try.prog w = .ok a w := fun a b w => by kernel_rfl
  go_enter Try.func19, Try.ntmps19
  go_wp2_with fail
  refine ha.out.mono ?_
  rintro e w' ⟨rfl, ho⟩
  go_wp2
  go_ret
  exact ⟨rfl, ho⟩
set_option maxRecDepth 20000 in
theorem nil_deposits : Calls Try.prog 20 #[.pointer none] w fun e w' => e = .returned (.int .u64 0) ∧ Only [] w w' := by
  have ha := hid (nil_all w)
  have hfl : ∀ (a b : Value) (w : World), (Instr.field 82 (.agg #[a, b]) 1).run Try.prog w = .ok b w := fun a b w => by kernel_rfl
  go_enter Try.func20, Try.ntmps20
  go_wp2_with fail
  refine ha.out.mono ?_
  rintro e w' ⟨rfl, ho⟩
  go_wp2
  go_ret
  exact ⟨rfl, ho⟩
set_option maxRecDepth 20000 in
theorem nil_total : Calls Try.prog 40 #[.pointer none] w fun e w' => e = .returned (.int .u64 0) ∧ Only [] w w' := by
  have hf := hid (fun w => nil_fees w)
  have hd := hid (fun w => nil_deposits w)
  have ht := hid (fun w => nil_treasury w)
  go_enter Try.func40, Try.ntmps40
  go_wp2_with fail
  refine (hf.out _).mono ?_
  rintro e w1 ⟨rfl, o1⟩
  go_wp2_with fail
  refine (hd.out _).mono ?_
  rintro e w2 ⟨rfl, o2⟩
  go_wp2_with fail
  refine (ht.out _).mono ?_
  rintro e w3 ⟨rfl, rfl⟩
  go_wp2
  go_ret
  exact ⟨rfl, o1.trans0 o2⟩
end
end Go.Proofs.Ytiinfiaemiaamaa.Sh
