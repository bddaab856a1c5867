/- Ledgers, made: walked. -/
import Derived.Test.YtiinfiaemiaamaaLedJ
import Derived.Test.YtiinfiaemiaamaaStepApp
import Derived.Laws.MakeOwn
namespace Go.Proofs.Ytiinfiaemiaamaa.Sh
open Go Go.RowKit

/-- A slice of 64-bit numbers. -/
def Ns (w : World) (v : Value) (l : List Nat) : Prop := Cs 1 w v l.length (l.map u64) ∧ ∀ x ∈ l, x < 18446744073709551616
theorem Ns.kept0 {w w' : World} {v : Value} {l : List Nat} (h : Ns w v l) (ho : Only [] w w') : Ns w' v l := ⟨h.1.kept0 ho, h.2⟩
theorem Ns.form {w : World} {v : Value} {l : List Nat} (h : Ns w v l) : ∃ a cap, v = .slice a l.length cap ∧ l.length ≤ cap ∧ cap ≤ maxLen ∧ l.length ≤ 9223372036854775807 := by
  obtain ⟨⟨_, a, cap, rfl, h1, h2, h3, _⟩, _⟩ := h
  exact ⟨a, cap, rfl, h1, h2, h3⟩
theorem Ns.at {w : World} {a : Option Addr} {n cap : Nat} {l : List Nat} (h : Ns w (.slice a n cap) l) (k : Nat) (hk : k < l.length) : ∃ b o, a = some ⟨b, o, none⟩ ∧ w.cell? ⟨b, o + k, none⟩ = some (u64 l[k]) := by
  obtain ⟨⟨_, a', cap', he, _, _, _, h4⟩, _⟩ := h
  simp only [Value.slice.injEq] at he
  obtain ⟨rfl, _, rfl⟩ := he
  rcases h4 with h4 | ⟨b, o, rfl, h4⟩
  · have := congrArg List.length h4
    simp at this
    subst this
    simp at hk
  · exact ⟨b, o, rfl, h4 k _ (by simp [hk])⟩

def initM (l : List Nat) : Lm := { k := l.length, b := fun i => l.getD i 0, n := fun _ => 0, f := fun _ => 0, d := fun _ => 0, t := 0 }
def newE (l : List Nat) : Nat := if l.length < 1 ∨ 6 < l.length then 1 else if 1152921504606846976 < l.sum then 10 else 0

theorem sumTo_getD (l : List Nat) : sumTo l.length (fun i => l.getD i 0) = l.sum := by
  have gen : ∀ k, k ≤ l.length → sumTo k (fun i => l.getD i 0) = (l.take k).sum := by
    intro k
    induction k with
    | zero => intro _; simp [sumTo]
    | succ k ih =>
      intro hk
      have hlt : k < l.length := by omega
      rw [sumTo, ih (by omega), List.take_succ_eq_append_getElem hlt, List.sum_append]
      simp [hlt]
  rw [gen _ (Nat.le_refl _), List.take_length]
theorem take_sum_le (l : List Nat) (k : Nat) : (l.take k).sum ≤ l.sum := by
  have := congrArg List.sum (List.take_append_drop k l)
  rw [List.sum_append] at this
  omega
theorem initM_inv (l : List Nat) (h : newE l = 0) : LInv l.sum (initM l) := by
  unfold newE at h
  split at h
  · cases h
  · rename_i h1
    split at h
    · cases h
    · rename_i h2
      refine ⟨by simp only [initM]; omega, ?_, by omega, fun i _ => ⟨0, rfl⟩, fun i => by simp [initM]⟩
      simp only [initM, sumTo_zero]
      rw [sumTo_getD]
      rfl

theorem el_acc : El Try.prog 74 78 2 16 := el_mk (z := .agg #[.int .u64 0, .int .u64 0]) Try.underlying74 (by kernel_rfl) rfl (by omega)
theorem el_u64 : El Try.prog 32 22 1 8 := el_mk (z := .int .u64 0) Try.underlying32 (by kernel_rfl) rfl (by omega)

/-- Accounts of so much each. -/
def accs : List Nat → List Value
  | [] => []
  | b :: r => u64 b :: u64 0 :: accs r
theorem accs_append (a b : List Nat) : accs (a ++ b) = accs a ++ accs b := by
  induction a with
  | nil => rfl
  | cons x r ih => simp [accs, ih]
theorem accs_length (l : List Nat) : (accs l).length = l.length * 2 := by
  induction l with
  | nil => rfl
  | cons x r ih => simp [accs, ih]; omega
theorem accs_get (l : List Nat) : ∀ (i : Nat), i < l.length → (accs l)[i * 2]? = some (u64 (l.getD i 0)) ∧ (accs l)[i * 2 + 1]? = some (u64 0) := by
  induction l with
  | nil => intro i h; simp at h
  | cons x r ih =>
    intro i h
    cases i with
    | zero => simp [accs]
    | succ i =>
      have := ih i (by simpa using h)
      rw [show (i + 1) * 2 = i * 2 + 1 + 1 by omega]
      simp only [accs, List.getElem?_cons_succ, List.getD_cons_succ]
      exact this

def NewPost (w : World) (l : List Nat) (e : Ending) (w' : World) : Prop :=
  Only [] w w' ∧ ((newE l ≠ 0 ∧ e = .returned (.tuple #[.pointer none, .int .i64 (newE l : Int)])) ∨ newE l = 0 ∧ ∃ x ab mb, (w.heap.size ≤ x ∧ w.heap.size ≤ ab ∧ w.heap.size ≤ mb) ∧ e = .returned (.tuple #[.pointer (some ⟨x, 0, none⟩), .int .i64 0]) ∧ Led w' x ab mb (initM l))

set_option maxRecDepth 20000 in
set_option maxHeartbeats 3200000 in
theorem new_any (w : World) (v : Value) (l : List Nat) (hv : Ns w v l) :
    Calls Try.prog 16 #[v] w (NewPost w l) := by
  obtain ⟨a, cap, rfl, h1, h2, h3⟩ := hv.form
  by_cases hbad : l.length < 1 ∨ 6 < l.length
  · have hpost : Hid (NewPost w l (.returned (.tuple #[.pointer none, .int .i64 1])) w) := by
      have he : newE l = 1 := by unfold newE; rw [if_pos hbad]
      exact ⟨Only.refl _ _, .inl ⟨by rw [he]; omega, by rw [he]; rfl⟩⟩
    by_cases h0 : l.length < 1
    · clear hbad
      go_enter Try.func16, Try.ntmps16
      go_wp2
      go_ret2
      exact hpost
    · have h6 : 6 < l.length := by omega
      clear hbad
      go_enter Try.func16, Try.ntmps16
      go_wp2
      go_ret2
      exact hpost
  · have hl1 : 1 ≤ l.length := by omega
    have hl6 : l.length ≤ 6 := by omega
    clear hbad
    have hmm := @run_makeMap Try.prog
    go_enter Try.func16, Try.ntmps16
    go_wp2_with fail
    obtain ⟨w1, hw1⟩ : ∃ w1, w1 = (w.alloc (.map #[] 0)).alloc (Obj.cells #[.slice none 0 0, .map (some w.heap.size), .int .u64 0] 76) := ⟨_, rfl⟩
    have ho1 : Only [] w w1 := by rw [hw1]; exact ((Only.refl [] w).alloc _).alloc _
    have hM1 : Mp Try.prog 3 w1 w.heap.size [] := by rw [hw1]; exact (mp_made _ _ w).kept0 ((Only.refl [] _).alloc _)
    have hsz1 : w1.heap.size = w.heap.size + 2 := by rw [hw1]; simp
    have x0 : w1.cell? ⟨w.heap.size + 1, 0, none⟩ = some (.slice none 0 0) ∧ w1.frozen? ⟨w.heap.size + 1, 0, none⟩ = false := by rw [hw1]; constructor <;> simp [go_sem]
    have x1 : w1.cell? ⟨w.heap.size + 1, 1, none⟩ = some (.map (some w.heap.size)) ∧ w1.frozen? ⟨w.heap.size + 1, 1, none⟩ = false := by rw [hw1]; constructor <;> simp [go_sem]
    have x2 : w1.cell? ⟨w.heap.size + 1, 2, none⟩ = some (.int .u64 0) ∧ w1.frozen? ⟨w.heap.size + 1, 2, none⟩ = false := by rw [hw1]; constructor <;> simp [go_sem]
    rw [← hw1]
    clear hw1 hmm
    obtain ⟨x, hx⟩ : ∃ x, x = w.heap.size + 1 := ⟨_, rfl⟩
    rw [← hx] at x0 x1 x2 ⊢
    have HX := hid hx
    clear hx
    go_loopw [5, 21] (fun lf i wr => ∃ (k : Nat) (L : Nat) (av : Value), k ≤ l.length ∧ i = .int .i64 k ∧ lf = .int .u64 (L : Int) ∧ Hid (L + (l.take k).sum = 1152921504606846976) ∧ L ≤ 1152921504606846976 ∧
        (wr.cell? ⟨x, 0, none⟩ = some av ∧ wr.frozen? ⟨x, 0, none⟩ = false) ∧ (wr.cell? ⟨x, 1, none⟩ = some (.map (some w.heap.size)) ∧ wr.frozen? ⟨x, 1, none⟩ = false) ∧ (wr.cell? ⟨x, 2, none⟩ = some (.int .u64 0) ∧ wr.frozen? ⟨x, 2, none⟩ = false) ∧
        wr.ownsRow (w.heap.size + 2) 78 2 av k (accs (l.take k)) ∧ Mp Try.prog 3 wr w.heap.size [] ∧ Only [] w wr ∧ w.heap.size + 2 ≤ wr.heap.size) (fun _ i _ => l.length - (intOf i).toNat)
    case atStart => exact ⟨0, 1152921504606846976, _, Nat.zero_le _, rfl, rfl, hid (by simp), by omega, x0, x1, x2, World.ownsRow_nil _ _ _ _, hM1, ho1, by omega⟩
    case round =>
      obtain ⟨k, L, av, hk, rfl, rfl, hL, hL6, ⟨y0, z0⟩, y1, y2, hown, hM, ho, hsz⟩ := hrel
      obtain ⟨aa, ac, rfl⟩ := own_form hown
      by_cases hlt : k < l.length
      · obtain ⟨vb, vo, rfl, c1⟩ := (hv.kept0 ho).at k hlt
        have hb64 := hv.2 l[k] (List.getElem_mem hlt)
        have hts : (l.take (k + 1)).sum = (l.take k).sum + l[k] := by rw [List.take_succ_eq_append_getElem hlt, List.sum_append]; simp
        have hac : accs (l.take (k + 1)) = accs (l.take k) ++ [u64 l[k], u64 0] := by rw [List.take_succ_eq_append_getElem hlt, accs_append]; rfl
        have htl := take_sum_le l (k + 1)
        obtain ⟨b, hb⟩ : ∃ b, b = l[k] := ⟨_, rfl⟩
        rw [← hb] at c1 hb64 hts hac
        simp only [u64] at c1
        by_cases hgt : L < b
        · have hpost : Hid (NewPost w l (.returned (.tuple #[.pointer none, .int .i64 10])) wr) := by
            have he : newE l = 10 := by unfold newE; rw [if_neg (by omega), if_pos (by have := hL.out; omega)]
            exact ⟨ho, .inl ⟨by rw [he]; omega, by rw [he]; rfl⟩⟩
          clear hb hts hac htl hL
          go_wp2
          go_ret2
          exact hpost
        · have hle : b ≤ L := by omega
          have hL' : Hid (L - b + (l.take (k + 1)).sum = 1152921504606846976) := by have := hL.out; show _ = _; omega
          have hac := hid hac
          clear hb hts htl hL hgt
          have hBs : w.heap.size + 2 ≤ wr.heap.size := hsz
          go_wp2_with (at_builtin; refine wpList_app1 (by rfl) _ _ 74 (by rfl) (w.heap.size + 2) 78 2 16 el_acc (by rfl) hown [_, _] (by rfl) rfl (by intro u hu; simp at hu; rcases hu with rfl | rfl <;> rfl) (by omega) (by omega) hBs ?_; intro v4 w4 hown4 happ4; obtain ⟨a4, c4, rfl⟩ := own_form hown4; have hp4 : Only (Value.slice aa k ac).ownBlock.toList wr w4 := (Only.refl _ wr).app happ4 (fun i hi => .inl (by simp [hi])); have hxn : x ∉ (Value.slice aa k ac).ownBlock.toList := (by intro hm; simp only [Option.mem_toList] at hm; have := (hown.lt x hm).1; have := HX.out; omega); obtain ⟨y0', z0'⟩ := cell_kept hp4 hxn ⟨y0, z0⟩)
          have hmn : w.heap.size ∉ (Value.slice aa k ac).ownBlock.toList := by
            intro hm
            simp only [Option.mem_toList] at hm
            have := (hown.lt _ hm).1
            omega
          have hox : Only [x] w4 (w4.setCell ⟨x, 0, none⟩ (.slice a4 (k + 1) c4)) := (Only.refl [x] w4).setCell (.inl (by simp)) _
          have how : Only [] w (w4.setCell ⟨x, 0, none⟩ (.slice a4 (k + 1) c4)) := ((ho.app happ4 (fun i hi => .inr (by have := (hown.lt i hi).1; omega)))).setCell (.inr (by have := HX.out; simp only; omega)) _
          have hfin := hid (show (∃ av, ((w4.setCell ⟨x, 0, none⟩ (.slice a4 (k + 1) c4)).cell? ⟨x, 0, none⟩ = some av ∧ (w4.setCell ⟨x, 0, none⟩ (.slice a4 (k + 1) c4)).frozen? ⟨x, 0, none⟩ = false) ∧ ((w4.setCell ⟨x, 0, none⟩ (.slice a4 (k + 1) c4)).cell? ⟨x, 1, none⟩ = some (.map (some w.heap.size)) ∧ (w4.setCell ⟨x, 0, none⟩ (.slice a4 (k + 1) c4)).frozen? ⟨x, 1, none⟩ = false) ∧ ((w4.setCell ⟨x, 0, none⟩ (.slice a4 (k + 1) c4)).cell? ⟨x, 2, none⟩ = some (.int .u64 0) ∧ (w4.setCell ⟨x, 0, none⟩ (.slice a4 (k + 1) c4)).frozen? ⟨x, 2, none⟩ = false) ∧
              (w4.setCell ⟨x, 0, none⟩ (.slice a4 (k + 1) c4)).ownsRow (w.heap.size + 2) 78 2 av (k + 1) (accs (l.take (k + 1))) ∧ Mp Try.prog 3 (w4.setCell ⟨x, 0, none⟩ (.slice a4 (k + 1) c4)) w.heap.size []) from
            ⟨_, ⟨World.cell?_setCell_same _ _ _ y0', by simpa [go_sem] using z0'⟩, set_cell _ ⟨y0', z0'⟩ (cell_kept hp4 hxn y1) (by simp), set_cell _ ⟨y0', z0'⟩ (cell_kept hp4 hxn y2) (by simp), by rw [hac.out]; exact own_only hown4 hox (fun i hi => by have := (hown4.lt i hi).1; have := HX.out; simp; omega), (hM.kept hp4 hmn).kept hox (by have := HX.out; simp; omega)⟩)
          have hsz4 : w.heap.size + 2 ≤ (w4.setCell ⟨x, 0, none⟩ (.slice a4 (k + 1) c4)).heap.size := by have := happ4.grown.size; simp [World.setCell]; omega
          clear hac hown hown4 hM y1 y2
          go_roundw
          case rel =>
            obtain ⟨av, f1, f2, f3, f4, f5⟩ := hfin.out
            exact ⟨k + 1, L - b, av, by omega, by go_num, by go_num, hL', by omega, f1, f2, f3, f4, f5, how, hsz4⟩
          case measure => simp [intOf]; omega
      · obtain rfl : k = l.length := by omega
        have hz : newE l = 0 := by
          unfold newE
          rw [if_neg (by omega), if_neg]
          have := hL.out
          rw [List.take_length] at this
          omega
        obtain ⟨g, hg⟩ : ∃ g, aa = some ⟨g, 0, none⟩ := by
          rcases hown.2 with ⟨e, _⟩ | ⟨g, _, _, e, _⟩
          · simp only [Value.slice.injEq] at e
            omega
          · simp only [Value.slice.injEq] at e
            exact ⟨g, e.1⟩
        subst hg
        have hgl := hown.lt g rfl
        have hcs := hown.cells (g := g) rfl
        have hcap : l.length ≤ ac ∧ ac ≤ maxLen := by
          rcases hown.2 with ⟨e, _⟩ | ⟨g', cap', _, e, _, _, e1, e2, _⟩
          · cases e
          · simp only [Value.slice.injEq] at e
            omega
        have hfrz : ∀ i, i < l.length * 2 → wr.frozen? ⟨g, i, none⟩ = false := by
          intro i hi
          rcases hown.2 with ⟨e, _⟩ | ⟨g', cap', cur, e, _, hgg, _⟩
          · cases e
          · simp only [Value.slice.injEq, Option.some.injEq, Addr.mk.injEq, and_true, true_and] at e
            obtain ⟨rfl, _⟩ := e
            simp [World.frozen?, hgg]
        rw [List.take_length] at hcs
        have hpost : Hid (NewPost w l (.returned (.tuple #[.pointer (some ⟨x, 0, none⟩), .int .i64 0])) wr) := by
          refine ⟨ho, .inr ⟨hz, x, g, w.heap.size, by have := HX.out; omega, rfl, ⟨ac, y0, hcap⟩, y1.1, y2, fun i hi => ?_, fun i hi => ?_, ⟨[], hM, by simp, by simp, fun i _ => rfl⟩, by have := HX.out; omega⟩⟩
          · have := hcs (i * 2) _ (accs_get l i hi).1
            rw [Addr.add_mid, Nat.zero_add] at this
            exact ⟨this, hfrz _ (by simp only [initM] at hi; omega)⟩
          · have := hcs (i * 2 + 1) _ (accs_get l i hi).2
            rw [Addr.add_mid, Nat.zero_add] at this
            exact ⟨this, hfrz _ (by simp only [initM] at hi; omega)⟩
        clear hown hM hcs hfrz hz hL y1 y2
        go_wp2
        go_ret2
        exact hpost
end Go.Proofs.Ytiinfiaemiaamaa.Sh
