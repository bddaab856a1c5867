/- All, walked. -/
import Derived.Test.YtnlmeaijnfjakaaCrcC
import Derived.Deep.RegionHeld3
import Derived.Deep.DeepMust
namespace Go.Proofs.Ytnlmeaijnfjakaa.Sh
set_option linter.unusedSimpArgs false
set_option linter.unusedVariables false
open Go Go.RowKit

theorem el_bss : El Try.prog 39 27 1 24 := el_mk (z := .slice none 0 0) Try.underlying39 (by kernel_rfl) rfl (by omega)

/-- All frames that are whole: their bodies, and how many bytes they take. -/
def allL (l : List UInt8) : List (List UInt8) × Nat :=
  if (firstL l).1 = 0 ∧ 6 + (firstL l).2 ≤ l.length then ((l.drop 6).take (firstL l).2 :: (allL (l.drop (6 + (firstL l).2))).1, 6 + (firstL l).2 + (allL (l.drop (6 + (firstL l).2))).2)
  else ([], 0)
termination_by l.length
decreasing_by all_goals simp; omega

/-- A slice of slices of bytes in new memory. -/
def OwnBss (B : Nat) (w : World) (v : Value) (ls : List (List UInt8)) : Prop :=
  ∃ vs, w.ownsRow B 27 1 v ls.length vs ∧ All2 (fun u x => w.ownsRow B 5 1 u x.length (bytes x) ∧ x.length ≤ 9223372036854775807) vs ls

theorem OwnBss.bss {B : Nat} {w : World} {v : Value} {ls : List (List UInt8)} (h : OwnBss B w v ls) (hl : ls.length ≤ 9223372036854775807) : Bss w v ls := by
  obtain ⟨vs, h1, h2⟩ := h
  exact ⟨vs, Cs.of_own h1 hl, h2.imp fun _ _ k => Cs.of_own k.1 k.2⟩

theorem OwnBss.kept0 {B : Nat} {w w' : World} {v : Value} {ls : List (List UInt8)} (h : OwnBss B w v ls) (ho : Only [] w w') : OwnBss B w' v ls := by
  obtain ⟨vs, h1, h2⟩ := h
  exact ⟨vs, own_only0 h1 ho, h2.imp fun _ _ k => ⟨own_only0 k.1 ho, k.2⟩⟩

theorem firstL_le (l : List UInt8) (h : (firstL l).1 = 0) : 6 + (firstL l).2 ≤ l.length ∧ 1 ≤ (firstL l).2 ∧ (firstL l).2 ≤ 1000 := by
  unfold firstL at *
  split at h
  · cases h
  split at h
  · cases h
  split at h
  · cases h
  split at h
  · rename_i h1 h2 h3 h4
    rw [if_neg h1, if_neg h2, if_neg h3, if_pos h4]
    simp; omega
  · cases h

theorem allL_good (l : List UInt8) (h : (firstL l).1 = 0) : allL l = ((l.drop 6).take (firstL l).2 :: (allL (l.drop (6 + (firstL l).2))).1, 6 + (firstL l).2 + (allL (l.drop (6 + (firstL l).2))).2) := by
  rw [allL, if_pos ⟨h, (firstL_le l h).1⟩]
theorem allL_bad (l : List UInt8) (h : (firstL l).1 ≠ 0) : allL l = ([], 0) := by
  rw [allL, if_neg (fun k => h k.1)]

theorem allL_le (n : Nat) : ∀ l : List UInt8, l.length ≤ n → (allL l).2 ≤ l.length ∧ 7 * (allL l).1.length ≤ l.length := by
  induction n with
  | zero =>
    intro l hl
    have : l = [] := List.eq_nil_of_length_eq_zero (by omega)
    subst this
    rw [allL_bad [] (by simp [firstL])]
    simp
  | succ n ih =>
    intro l hl
    by_cases h : (firstL l).1 = 0
    · have hb := firstL_le l h
      rw [allL_good l h]
      have := ih (l.drop (6 + (firstL l).2)) (by simp; omega)
      simp at this ⊢
      omega
    · rw [allL_bad l h]; simp

def AllPost (l : List UInt8) (w : World) (e : Ending) (w' : World) : Prop :=
  ∃ v', e = .returned (.tuple #[v', .int .i64 ((allL l).2 : Int)]) ∧ OwnBss w.heap.size w' v' (allL l).1 ∧ Only [] w w'

set_option maxHeartbeats 800000 in
theorem all_any (v : Value) (l : List UInt8) (w : World) (hB : Bs w v l) (hlen : l.length ≤ 1099511627776) :
    Calls Try.prog 58 #[v] w (AllPost l w) := by
  obtain ⟨_, a, cap, rfl, h1, h2, h3, _⟩ := id hB
  go_enter Try.func58, Try.ntmps58
  go_wp2_with fail
  refine (first_any _ l w hB).mono ?_
  rintro e w1 ⟨v1, rfl, ho1, hp⟩
  go_wp2_with fail
  go_loopw [4, 5, 6, 7] (fun out at_ x e wr => ∃ (k : Nat) (ls : List (List UInt8)), k ≤ l.length ∧ at_ = .int .i64 k ∧ e = .int .i64 ((firstL (l.drop k)).1 : Int) ∧ ((firstL (l.drop k)).1 = 0 → Bs wr x (((l.drop k).drop 6).take (firstL (l.drop k)).2)) ∧ Hid (allL l = (ls ++ (allL (l.drop k)).1, k + (allL (l.drop k)).2)) ∧ OwnBss w.heap.size wr out ls ∧ Only [] w wr ∧ 7 * ls.length ≤ k) (fun _ at_ _ _ _ => l.length - (intOf at_).toNat)
  case atStart => exact ⟨0, [], Nat.zero_le _, rfl, rfl, fun h => (hp h).1, by simp [Hid], ⟨[], World.ownsRow_nil _ _ _ _, .nil⟩, ho1, by simp⟩
  case round =>
    obtain ⟨k, ls, hk, rfl, rfl, hx, hall, hout, ho, hlk⟩ := hrel
    by_cases hE : (firstL (l.drop k)).1 = 0
    · have hb := firstL_le _ hE
      have hg := allL_good _ hE
      obtain ⟨n, hn⟩ : ∃ n, n = (firstL (l.drop k)).2 := ⟨_, rfl⟩
      have hx' := hx hE
      rw [← hn] at hx' hb hg
      simp only [List.length_drop, List.drop_drop] at hb hx' hg
      obtain ⟨b, o, cap', he, _, _, _, _⟩ := hB.form (by omega)
      obtain ⟨rfl, rfl⟩ : a = some ⟨b, o, none⟩ ∧ cap = cap' := by simpa using he
      clear he
      obtain ⟨hx0, xa, xc, rfl, hx1, hx2, hx3, hx4⟩ := id hx'
      have hxl : ((l.drop (k + 6)).take n).length = n := by simp; omega
      rw [hxl] at hx1 hx3
      have hx'' : Bs wr (.slice xa n xc) ((l.drop (k + 6)).take n) := by rw [hxl] at hx'; exact hx'
      rw [hxl, hE]
      have hall' := hid (show allL l = ((ls ++ [(l.drop (k + 6)).take n]) ++ (allL (l.drop (k + (6 + n)))).1, (k + (6 + n)) + (allL (l.drop (k + (6 + n)))).2) by
        rw [hall.out, hg]
        simp [Nat.add_assoc])
      have hwr : IntKind.i64.wrap (6 + (n : Int)) = 6 + (n : Int) := IntWalk.i64_in _ (by omega)
      have hwr2 : IntKind.i64.wrap ((k : Int) + (6 + (n : Int))) = (k : Int) + (6 + (n : Int)) := IntWalk.i64_in _ (by omega)
      have HXL := hid hxl
      clear hall hg hx hx' hx0 hx4 hxl hE hn
      obtain ⟨vs, hvs, hels⟩ := hout
      have hsz := ho.size
      by_cases hcap : cap = k + (6 + n)
      · subst hcap
        go_wp2_with fail
        refine (clone_any _ _ _ hx'' (by simp; omega)).mono ?_
        rintro e w2 ⟨v2, rfl, hf2, ho2⟩
        have hf2 := own_cast hf2 HXL.out rfl
        obtain ⟨a2, c2, rfl⟩ := own_form hf2
        have hsz2 := ho2.size
        go_wp2_with (at_builtin; refine wpList_app1 (by rfl) _ _ 39 (by rfl) w.heap.size 27 1 24 el_bss (by rfl) (own_only0 hvs ho2) [_] (by rfl) rfl (one1 rfl) (by omega) (by omega) (by omega) ?_; intro v3 w3 hown3 happ3)
        have ho3 : Only [] w w3 := (ho.trans0 ho2).app happ3 (fun i hi => by
          rcases hvs.2 with ⟨rfl, _⟩ | ⟨g, _, _, rfl, hg, _⟩
          · simp [Value.ownBlock] at hi
          · simp [Value.ownBlock] at hi; omega)
        have hB3 := hB.kept0 ho3
        have hels3 : All2 (fun u x => w3.ownsRow w.heap.size 5 1 u x.length (bytes x) ∧ x.length ≤ 9223372036854775807) (vs ++ [.slice a2 n c2]) (ls ++ [(l.drop (k + 6)).take n]) := by
          refine All2.snoc (hels.imp ?_) ⟨own_cast (happ3.other (own_lower hf2 (by omega)) (own_ne hf2 (own_only0 hvs ho2) (by omega))) HXL.out.symm rfl, by simp; omega⟩
          rintro u x ⟨h5, h6⟩
          exact ⟨happ3.other (own_only0 h5 ho2) (own_ne (own_only0 h5 ho2) (own_only0 hvs ho2) (by omega)), h6⟩
        have hout3 : OwnBss w.heap.size w3 v3 (ls ++ [(l.drop (k + 6)).take n]) := ⟨_, own_cast hown3 (by simp) rfl, hels3⟩
        have hz : l.length - (k + (6 + n)) = 0 := by omega
        have hd : l.drop (k + (6 + n)) = [] := List.drop_of_length_le (by omega)
        rw [hz]
        refine (first_any _ [] w3 (Bs.empty (by unfold maxLen; omega))).mono ?_
        rintro e w4 ⟨v4, rfl, ho4, hp4⟩
        rw [← hd]
        rw [← hd] at hp4
        have HD := hid hd
        have HZ := hid hz
        clear hd hz
        go_wp2
        go_roundw
        case rel => exact ⟨k + (6 + n), ls ++ [(l.drop (k + 6)).take n], by omega, by go_num, rfl, fun h => (hp4 h).1, hall', OwnBss.kept0 hout3 ho4, ho3.trans0 ho4, by simp; omega⟩
        case measure => simp [intOf]; omega
      · have hcap' : k + (6 + n) < cap := by omega
        clear hcap
        go_wp2_with fail
        refine (clone_any _ _ _ hx'' (by simp; omega)).mono ?_
        rintro e w2 ⟨v2, rfl, hf2, ho2⟩
        have hf2 := own_cast hf2 HXL.out rfl
        obtain ⟨a2, c2, rfl⟩ := own_form hf2
        have hsz2 := ho2.size
        go_wp2_with (at_builtin; refine wpList_app1 (by rfl) _ _ 39 (by rfl) w.heap.size 27 1 24 el_bss (by rfl) (own_only0 hvs ho2) [_] (by rfl) rfl (one1 rfl) (by omega) (by omega) (by omega) ?_; intro v3 w3 hown3 happ3)
        have ho3 : Only [] w w3 := (ho.trans0 ho2).app happ3 (fun i hi => by
          rcases hvs.2 with ⟨rfl, _⟩ | ⟨g, _, _, rfl, hg, _⟩
          · simp [Value.ownBlock] at hi
          · simp [Value.ownBlock] at hi; omega)
        have hB3 := hB.kept0 ho3
        have hels3 : All2 (fun u x => w3.ownsRow w.heap.size 5 1 u x.length (bytes x) ∧ x.length ≤ 9223372036854775807) (vs ++ [.slice a2 n c2]) (ls ++ [(l.drop (k + 6)).take n]) := by
          refine All2.snoc (hels.imp ?_) ⟨own_cast (happ3.other (own_lower hf2 (by omega)) (own_ne hf2 (own_only0 hvs ho2) (by omega))) HXL.out.symm rfl, by simp; omega⟩
          rintro u x ⟨h5, h6⟩
          exact ⟨happ3.other (own_only0 h5 ho2) (own_ne (own_only0 h5 ho2) (own_only0 hvs ho2) (by omega)), h6⟩
        have hout3 : OwnBss w.heap.size w3 v3 (ls ++ [(l.drop (k + 6)).take n]) := ⟨_, own_cast hown3 (by simp) rfl, hels3⟩
        refine (first_any _ (l.drop (k + (6 + n))) w3 (hB3.tail (k + (6 + n)) (by omega))).mono ?_
        rintro e w4 ⟨v4, rfl, ho4, hp4⟩
        go_wp2
        go_roundw
        case rel => exact ⟨k + (6 + n), ls ++ [(l.drop (k + 6)).take n], by omega, by go_num, rfl, fun h => (hp4 h).1, hall', OwnBss.kept0 hout3 ho4, ho3.trans0 ho4, by simp; omega⟩
        case measure => simp [intOf]; omega
    · have hE' : ((firstL (l.drop k)).1 : Int) ≠ 0 := by omega
      have hall' := hid (show allL l = (ls, k) by rw [hall.out, allL_bad _ hE]; simp)
      clear hall hE
      go_wp2
      go_ret2
      exact ⟨_, by rw [hall'.out]; rfl, by rw [hall'.out]; exact hout, ho⟩
end Go.Proofs.Ytnlmeaijnfjakaa.Sh
