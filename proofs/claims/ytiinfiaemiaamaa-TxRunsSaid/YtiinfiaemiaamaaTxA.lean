/- Orders: may one be? its bytes: walked. -/
import Derived.Test.YtiinfiaemiaamaaCodecU
import Derived.Test.YtiinfiaemiaamaaCodecK
namespace Go.Proofs.Ytiinfiaemiaamaa.Sh
open Go Go.RowKit

@[reducible] def txV (k to : Int) (am : Nat) (mv : Value) : Value := .agg #[.int .i64 k, .int .i64 to, .int .u64 (am : Int), mv]
/-- May an order be? -/
def rightB (k to : Int) (am n : Nat) : Bool := decide (n ≤ 16) && (decide (k = 1) && (decide (0 ≤ to) && decide (to < 6)) || decide (k = 2) && (decide (to = 0) && decide (am = 0)))

theorem bs_form' {w : World} {v : Value} {l : List UInt8} (h : Bs w v l) : ∃ a c, v = .slice a l.length c := by
  obtain ⟨_, a, c, rfl, _⟩ := h
  exact ⟨a, c, rfl⟩

set_option maxRecDepth 20000 in
set_option maxHeartbeats 1600000 in
theorem right_any (w : World) (k to : Int) (am : Nat) (mv : Value) (m : List UInt8) (hm : Bs w mv m) :
    Calls Try.prog 49 #[txV k to am mv] w fun e w' => e = .returned (.bool (rightB k to am m.length)) ∧ Only [] w w' := by
  obtain ⟨ma, mc, rfl⟩ := bs_form' hm
  have hO : Only [] w (w.alloc (Obj.cells #[.int .i64 k, .int .i64 to, .int .u64 (am : Int), .slice ma m.length mc] 40)) := (Only.refl [] w).alloc _
  obtain ⟨x, hx⟩ : ∃ x, x = rightB k to am m.length := ⟨_, rfl⟩
  rw [← hx]
  have go : ∀ b : Bool, x = b → (∃ n, n = m.length ∧ x = rightB k to am n) → True := fun _ _ _ => trivial
  clear go
  unfold rightB at hx
  by_cases h16 : 16 < m.length
  · have : x = false := by rw [hx]; simp; omega
    subst this
    clear hx
    go_enter Try.func49, Try.ntmps49
    go_wp2
    go_ret
    exact ⟨rfl, hO⟩
  · by_cases k1 : k = 1
    · subst k1
      by_cases t0 : to < 0
      · have : x = false := by rw [hx]; simp; omega
        subst this
        have t0' : ¬ 0 ≤ to := by omega
        clear hx
        go_enter Try.func49, Try.ntmps49
        go_wp2
        go_ret
        exact ⟨rfl, hO⟩
      · have t0' : 0 ≤ to := by omega
        by_cases t6 : to < 6
        · have : x = true := by rw [hx]; simp; omega
          subst this
          clear hx
          go_enter Try.func49, Try.ntmps49
          go_wp2
          go_ret
          exact ⟨rfl, hO⟩
        · have : x = false := by rw [hx]; simp; omega
          subst this
          clear hx
          go_enter Try.func49, Try.ntmps49
          go_wp2
          go_ret
          exact ⟨rfl, hO⟩
    · have k1' : (k == 1) = false := by simpa using k1
      by_cases k2 : k = 2
      · subst k2
        by_cases t0 : to = 0
        · subst t0
          by_cases a0 : am = 0
          · subst a0
            have : x = true := by rw [hx]; simp; omega
            subst this
            clear hx k1 k1'
            go_enter Try.func49, Try.ntmps49
            go_wp2
            go_ret
            exact ⟨rfl, hO⟩
          · have : x = false := by rw [hx]; simp; omega
            subst this
            have a0' : ((am : Int) == 0) = false := by rw [beq_eq_false_iff_ne]; omega
            clear hx k1 k1' a0
            go_enter Try.func49, Try.ntmps49
            go_wp2
            go_ret
            exact ⟨rfl, hO⟩
        · have : x = false := by rw [hx]; simp; omega
          subst this
          have t0' : (to == 0) = false := by rw [beq_eq_false_iff_ne]; omega
          clear hx k1 k1' t0
          go_enter Try.func49, Try.ntmps49
          go_wp2
          go_ret
          exact ⟨rfl, hO⟩
      · have k2' : (k == 2) = false := by simpa using k2
        have : x = false := by rw [hx]; simp; omega
        subst this
        clear hx k1 k2
        go_enter Try.func49, Try.ntmps49
        go_wp2
        go_ret
        exact ⟨rfl, hO⟩

set_option maxRecDepth 20000 in
set_option maxHeartbeats 1600000 in
theorem rright_any (w : World) (k to : Int) (am : Nat) (mv : Value) (m : List UInt8) (hm : Bs w mv m) :
    Calls Try.prog 34 #[txV k to am mv] w fun e w' => e = .returned (.bool (rightB k to am m.length)) ∧ Only [] w w' := by
  obtain ⟨ma, mc, rfl⟩ := bs_form' hm
  have hO : Only [] w (w.alloc (Obj.cells #[.int .i64 k, .int .i64 to, .int .u64 (am : Int), .slice ma m.length mc] 37)) := (Only.refl [] w).alloc _
  obtain ⟨x, hx⟩ : ∃ x, x = rightB k to am m.length := ⟨_, rfl⟩
  rw [← hx]
  unfold rightB at hx
  by_cases h16 : 16 < m.length
  · have : x = false := by rw [hx]; simp; omega
    subst this
    clear hx
    go_enter Try.func34, Try.ntmps34
    go_wp2
    go_ret
    exact ⟨rfl, hO⟩
  · by_cases k1 : k = 1
    · subst k1
      by_cases t0 : to < 0
      · have : x = false := by rw [hx]; simp; omega
        subst this
        have t0' : ¬ 0 ≤ to := by omega
        clear hx
        go_enter Try.func34, Try.ntmps34
        go_wp2
        go_ret
        exact ⟨rfl, hO⟩
      · have t0' : 0 ≤ to := by omega
        by_cases t6 : to < 6
        · have : x = true := by rw [hx]; simp; omega
          subst this
          clear hx
          go_enter Try.func34, Try.ntmps34
          go_wp2
          go_ret
          exact ⟨rfl, hO⟩
        · have : x = false := by rw [hx]; simp; omega
          subst this
          clear hx
          go_enter Try.func34, Try.ntmps34
          go_wp2
          go_ret
          exact ⟨rfl, hO⟩
    · have k1' : (k == 1) = false := by simpa using k1
      by_cases k2 : k = 2
      · subst k2
        by_cases t0 : to = 0
        · subst t0
          by_cases a0 : am = 0
          · subst a0
            have : x = true := by rw [hx]; simp; omega
            subst this
            clear hx k1 k1'
            go_enter Try.func34, Try.ntmps34
            go_wp2
            go_ret
            exact ⟨rfl, hO⟩
          · have : x = false := by rw [hx]; simp; omega
            subst this
            have a0' : ((am : Int) == 0) = false := by rw [beq_eq_false_iff_ne]; omega
            clear hx k1 k1' a0
            go_enter Try.func34, Try.ntmps34
            go_wp2
            go_ret
            exact ⟨rfl, hO⟩
        · have : x = false := by rw [hx]; simp; omega
          subst this
          have t0' : (to == 0) = false := by rw [beq_eq_false_iff_ne]; omega
          clear hx k1 k1' t0
          go_enter Try.func34, Try.ntmps34
          go_wp2
          go_ret
          exact ⟨rfl, hO⟩
      · have k2' : (k == 2) = false := by simpa using k2
        have : x = false := by rw [hx]; simp; omega
        subst this
        clear hx k1 k2
        go_enter Try.func34, Try.ntmps34
        go_wp2
        go_ret
        exact ⟨rfl, hO⟩

/-- What an order that may be is made of. -/
theorem right_nat {k to : Int} {am n : Nat} (h : rightB k to am n = true) : ∃ kn tn : Nat, k = (kn : Int) ∧ to = (tn : Int) ∧ 1 ≤ kn ∧ kn ≤ 2 ∧ tn ≤ 5 ∧ n ≤ 16 := by
  unfold rightB at h
  simp only [Bool.and_eq_true, Bool.or_eq_true, decide_eq_true_eq] at h
  exact ⟨k.toNat, to.toNat, by omega, by omega, by omega, by omega, by omega, by omega⟩

/-- An order's bytes. -/
def encB (k t a : Nat) (m : List UInt8) : List UInt8 := numB k ++ numB t ++ numB a ++ textB m
def partN (k t a : Nat) : Nat → Nat
  | 0 => k
  | 1 => t
  | _ => a
def partB (k t a : Nat) : Nat → List UInt8
  | 0 => []
  | 1 => numB k
  | 2 => numB k ++ numB t
  | _ => numB k ++ numB t ++ numB a
theorem partB_succ (k t a : Nat) (j : Nat) (h : j < 3) : partB k t a (j + 1) = partB k t a j ++ numB (partN k t a j) := by
  have : j = 0 ∨ j = 1 ∨ j = 2 := by omega
  rcases this with rfl | rfl | rfl <;> simp [partB, partN]
theorem partB_small (k t a : Nat) (hk : k < 18446744073709551616) (ht : t < 18446744073709551616) (ha : a < 18446744073709551616) (j : Nat) : (partB k t a j).length ≤ 30 := by
  have h1 := numB_length 10 k (by omega) (by omega)
  have h2 := numB_length 10 t (by omega) (by omega)
  have h3 := numB_length 10 a (by omega) (by omega)
  unfold partB
  split <;> simp <;> omega

set_option maxRecDepth 20000 in
set_option maxHeartbeats 1600000 in
theorem encode_good (w : World) (k t a : Nat) (mv : Value) (m : List UInt8) (hm : Bs w mv m) (hr : rightB (k : Int) (t : Int) a m.length = true) (ha : a < 18446744073709551616) :
    Calls Try.prog 28 #[txV (k : Int) (t : Int) a mv] w fun e w' => ∃ v', e = .returned (.tuple #[v', .int .i64 0]) ∧ Ob w.heap.size w' v' (encB k t a m) ∧ Only [] w w' := by
  obtain ⟨ma, mc, rfl⟩ := bs_form' hm
  have hb : k ≤ 2 ∧ t ≤ 5 ∧ m.length ≤ 16 := by
    obtain ⟨kn, tn, h1, h2, h3⟩ := right_nat hr
    omega
  obtain ⟨hk, ht, hml⟩ := hb
  have hps := partB_small k t a (by omega) (by omega) ha
  have hpb := fun j h => partB_succ k t a j h
  have hwk : IntKind.u64.wrap (k : Int) = (k : Int) := by rw [IntKind.wrap_u64]; omega
  have hwt : IntKind.u64.wrap (t : Int) = (t : Int) := by rw [IntKind.wrap_u64]; omega
  obtain ⟨w1, hw1⟩ : ∃ w1, w1 = w.alloc (Obj.cells #[.int .i64 (k : Int), .int .i64 (t : Int), .int .u64 (a : Int), .slice ma m.length mc] 40) := ⟨_, rfl⟩
  have ho1 : Only [] w w1 := by rw [hw1]; exact (Only.refl [] w).alloc _
  have c0 : w1.cell? ⟨w.heap.size, 0, none⟩ = some (.int .i64 (k : Int)) := by rw [hw1]; simp [go_sem]
  have c1 : w1.cell? ⟨w.heap.size, 1, none⟩ = some (.int .i64 (t : Int)) := by rw [hw1]; simp [go_sem]
  have c2 : w1.cell? ⟨w.heap.size, 2, none⟩ = some (.int .u64 (a : Int)) := by rw [hw1]; simp [go_sem]
  have c3 : w1.cell? ⟨w.heap.size, 3, none⟩ = some (.slice ma m.length mc) := by rw [hw1]; simp [go_sem]
  have hri := right_any w1 k t a _ m (hm.kept0 ho1)
  rw [hr] at hri
  replace hri := hid hri
  have HPS := hid hps
  have HPB := hid hpb
  have HK := hid (show k < 18446744073709551616 by omega)
  have HT := hid (show t < 18446744073709551616 by omega)
  have hs1 := hid ho1.size
  clear hr hps hpb hk ht
  go_enter Try.func28, Try.ntmps28
  go_wp2_with fail
  rw [← hw1]
  clear hw1
  with_reducible refine hri.out.mono ?_
  rintro e w2 ⟨rfl, ho2⟩
  have d0 := ho2.cell c0 (by simp)
  have d1 := ho2.cell c1 (by simp)
  have d2 := ho2.cell c2 (by simp)
  have d3 := ho2.cell c3 (by simp)
  have hO2 := ho1.trans0 ho2
  clear c0 c1 c2 c3
  go_wp2_with fail
  obtain ⟨w3, hw3⟩ : ∃ w3, w3 = w2.alloc (Obj.cells #[.int .u64 (k : Int), .int .u64 (t : Int), .int .u64 (a : Int)] 22) := ⟨_, rfl⟩
  have ho3 : Only [] w2 w3 := by rw [hw3]; exact (Only.refl [] w2).alloc _
  have hp : Hid (∀ j, j < 3 → w3.cell? ⟨w2.heap.size, j, none⟩ = some (.int .u64 (partN k t a j : Int))) := by
    intro j hj
    have : j = 0 ∨ j = 1 ∨ j = 2 := by omega
    rw [hw3]
    rcases this with rfl | rfl | rfl <;> simp [go_sem, partN]
  have e3 := ho3.cell d3 (by simp)
  have hO3 := hO2.trans0 ho3
  rw [← hw3]
  clear hw3 d0 d1 d2 d3 hwk hwt
  go_loopw [4, 20] (fun b i wr => ∃ (j : Nat), j ≤ 3 ∧ i = .int .i64 j ∧ Hid (Ob w3.heap.size wr b (partB k t a j)) ∧ Hid (Only [] w3 wr)) (fun _ i _ => 3 - (intOf i).toNat)
  case atStart => exact ⟨0, by omega, rfl, World.ownsRow_nil _ _ _ _, Only.refl _ _⟩
  case round =>
    obtain ⟨j, hj, rfl, hown, hor⟩ := hrel
    obtain ⟨ba, bc, rfl⟩ := own_form hown.out
    have hsz := hor.out.size
    have hs3 := hO3.size
    by_cases hlt : j < 3
    · have cj := hor.out.cell (hp.out j hlt) (by simp)
      obtain ⟨n, hn⟩ : ∃ n, n = partN k t a j := ⟨_, rfl⟩
      rw [← hn] at cj
      have hnb : n < 18446744073709551616 := by
        have := HK.out
        have := HT.out
        rw [hn]; unfold partN; split <;> omega
      have hput := putNum_any _ _ n w3.heap.size wr hown.out (by have := HPS.out j; omega) hnb (by omega)
      rw [hn, ← HPB.out j hlt, ← hn] at hput
      replace hput := hid hput
      have hle := hid (HPS.out (j + 1))
      have hownb := hid (fun i hi => (hown.out.lt i hi).1)
      obtain ⟨z, hz⟩ : ∃ z, z = partB k t a j := ⟨_, rfl⟩
      have hnn := hid hn
      rw [← hz] at hput hownb ⊢
      clear hz hn
      go_wp2_with fail
      with_reducible refine hput.out.mono ?_
      rintro e w4 ⟨v4, rfl, hown4, happ⟩
      go_wp2
      go_roundw
      case rel => exact ⟨j + 1, by omega, by go_num, hown4, hor.out.app happ (fun i hi => .inr (hownb.out i hi))⟩
      case measure => simp [intOf]; omega
    · obtain rfl : j = 3 := by omega
      have hmr := (hm.kept0 hO3).kept0 hor.out
      have hne : ∀ b', (Value.slice ma m.length mc).ownBlock = some b' → m = [] ∨ (Value.slice ba (partB k t a 3).length bc).ownBlock ≠ some b' := by
        intro b' hb'
        rcases hm.old b' hb' with h | h
        · exact .inl h
        · refine .inr (fun h2 => ?_)
          have := (hown.out.lt b' h2).1
          omega
      have hput := hid (putText_any _ _ (partB k t a 3) m w3.heap.size wr hown.out (by have := HPS.out 3; omega) (by omega) (by omega) hmr hne)
      have hfin := hid (show partB k t a 3 ++ textB m = encB k t a m from rfl)
      have e3' := hor.out.cell e3 (by simp)
      have hown2 := hid (fun i hi => (hown.out.lt i hi).1)
      clear hne
      obtain ⟨z, hz⟩ : ∃ z, z = partB k t a 3 := ⟨_, rfl⟩
      rw [← hz] at hput hfin hown2 ⊢
      clear hz
      go_wp2_with fail
      with_reducible refine hput.out.mono ?_
      rintro e w4 ⟨v4, rfl, hown4, happ⟩
      rw [hfin.out] at hown4
      have hO4 := hO3.trans0 (hor.out.app happ (fun i hi => .inr (hown2.out i hi)))
      obtain ⟨xa, xc, rfl⟩ := own_form hown4
      have hown5 := hid (own_lower hown4 (Nat.le_trans (Nat.le_refl _) hs3))
      obtain ⟨z, hz⟩ : ∃ z, z = encB k t a m := ⟨_, rfl⟩
      have HZ := hid hz
      rw [← hz] at hown5 ⊢
      clear hown4 hz hfin
      go_wp2
      go_ret2
      exact ⟨_, rfl, by rw [← HZ.out]; exact hown5.out, hO4⟩

set_option maxRecDepth 20000 in
set_option maxHeartbeats 1600000 in
theorem encode_bad (w : World) (k t : Int) (a : Nat) (mv : Value) (m : List UInt8) (hm : Bs w mv m) (hr : rightB k t a m.length = false) :
    Calls Try.prog 28 #[txV k t a mv] w fun e w' => e = .returned (.tuple #[.slice none 0 0, .int .i64 1]) ∧ Only [] w w' := by
  obtain ⟨ma, mc, rfl⟩ := bs_form' hm
  obtain ⟨w1, hw1⟩ : ∃ w1, w1 = w.alloc (Obj.cells #[.int .i64 k, .int .i64 t, .int .u64 (a : Int), .slice ma m.length mc] 40) := ⟨_, rfl⟩
  have ho1 : Only [] w w1 := by rw [hw1]; exact (Only.refl [] w).alloc _
  have hri := right_any w1 k t a _ m (hm.kept0 ho1)
  rw [hr] at hri
  replace hri := hid hri
  clear hr
  go_enter Try.func28, Try.ntmps28
  go_wp2_with fail
  rw [← hw1]
  clear hw1
  with_reducible refine hri.out.mono ?_
  rintro e w2 ⟨rfl, ho2⟩
  go_wp2
  go_ret2
  exact ⟨rfl, ho1.trans0 ho2⟩

theorem numB_small (n : Nat) (h : n < 128) : numB n = [UInt8.ofNat n] := by rw [numB, if_pos h]

set_option maxRecDepth 20000 in
set_option maxHeartbeats 1600000 in
theorem rencode_good (w : World) (k t a : Nat) (mv : Value) (m : List UInt8) (hm : Bs w mv m) (hr : rightB (k : Int) (t : Int) a m.length = true) (ha : a < 18446744073709551616) :
    Calls Try.prog 29 #[txV (k : Int) (t : Int) a mv] w fun e w' => ∃ v', e = .returned (.tuple #[v', .int .i64 0]) ∧ Ob w.heap.size w' v' (encB k t a m) ∧ Only [] w w' := by
  obtain ⟨ma, mc, rfl⟩ := bs_form' hm
  have hb : k ≤ 2 ∧ t ≤ 5 ∧ m.length ≤ 16 := by
    obtain ⟨kn, tn, h1, h2, h3⟩ := right_nat hr
    omega
  obtain ⟨hk, ht, hml⟩ := hb
  have hwk : (k : Int) % 256 = (k : Int) := by omega
  have hwt : (t : Int) % 256 = (t : Int) := by omega
  have hkn := byte_last k (by omega)
  have htn := byte_last t (by omega)
  have hn10 := numB_length 10 a (by omega) (by omega)
  have ht10 : (textB m).length ≤ 26 := by
    unfold textB
    have := numB_length 10 m.length (by omega) (by omega)
    simp; omega
  have hfin : encB k t a m = [UInt8.ofNat k, UInt8.ofNat t] ++ numB a ++ textB m := by
    unfold encB
    rw [numB_small k (by omega), numB_small t (by omega)]
    rfl
  obtain ⟨w1, hw1⟩ : ∃ w1, w1 = w.alloc (Obj.cells #[.int .i64 (k : Int), .int .i64 (t : Int), .int .u64 (a : Int), .slice ma m.length mc] 37) := ⟨_, rfl⟩
  have ho1 : Only [] w w1 := by rw [hw1]; exact (Only.refl [] w).alloc _
  have c0 : w1.cell? ⟨w.heap.size, 0, none⟩ = some (.int .i64 (k : Int)) := by rw [hw1]; simp [go_sem]
  have c1 : w1.cell? ⟨w.heap.size, 1, none⟩ = some (.int .i64 (t : Int)) := by rw [hw1]; simp [go_sem]
  have c2 : w1.cell? ⟨w.heap.size, 2, none⟩ = some (.int .u64 (a : Int)) := by rw [hw1]; simp [go_sem]
  have c3 : w1.cell? ⟨w.heap.size, 3, none⟩ = some (.slice ma m.length mc) := by rw [hw1]; simp [go_sem]
  have hri := rright_any w1 k t a _ m (hm.kept0 ho1)
  rw [hr] at hri
  replace hri := hid hri
  have hnum := hid (fun W => refNumB_any a W ha)
  have htxt := hid (fun W (h : Only [] w1 W) => refTextB_any _ m W (by omega) ((hm.kept0 ho1).kept0 h))
  obtain ⟨A, hA⟩ : ∃ A, A = numB a := ⟨_, rfl⟩
  obtain ⟨M, hM⟩ : ∃ M, M = textB m := ⟨_, rfl⟩
  rw [← hA, ← hM] at hfin
  rw [← hA] at hnum hn10
  rw [← hM] at htxt ht10
  have HF := hid hfin
  have HKN := hid hkn
  have HTN := hid htn
  clear hr hA hM hfin hkn htn
  go_enter Try.func29, Try.ntmps29
  go_wp2_with fail
  rw [← hw1]
  clear hw1
  with_reducible refine hri.out.mono ?_
  rintro e w2 ⟨rfl, ho2⟩
  have d0 := ho2.cell c0 (by simp)
  have d1 := ho2.cell c1 (by simp)
  have d2 := ho2.cell c2 (by simp)
  have d3 := ho2.cell c3 (by simp)
  have hO2 := ho1.trans0 ho2
  have hoA : Only [] w2 (w2.alloc (Obj.cells #[.int .u8 (k : Int), .int .u8 (t : Int)] 5)) := (Only.refl [] w2).alloc _
  have l2 := hoA.cell d2 (by simp)
  have l3 := hoA.cell d3 (by simp)
  have hownA : Hid (Ob w2.heap.size (w2.alloc (Obj.cells #[.int .u8 (k : Int), .int .u8 (t : Int)] 5)) (.slice (some ⟨w2.heap.size, 0, none⟩) 2 2) [UInt8.ofNat k, UInt8.ofNat t]) := by
    have := own_built w2 [.int .u8 (k : Int), .int .u8 (t : Int)] 5 1 2 rfl (by unfold maxLen; omega)
    exact own_cast this rfl (by rw [HKN.out, HTN.out]; rfl)
  have hcA := hid ((hm.kept0 hO2).kept0 hoA)
  clear c0 c1 c2 c3
  go_wp2_with fail
  obtain ⟨w3, hw3⟩ : ∃ w3, w3 = w2.alloc (Obj.cells #[.int .u8 (k : Int), .int .u8 (t : Int)] 5) := ⟨_, rfl⟩
  rw [← hw3] at hoA l2 l3 hownA hcA ⊢
  have hs3 : w3.heap.size = w2.heap.size + 1 := by rw [hw3]; simp
  have D3 := hid d3
  clear hw3 d0 d1 d2 d3
  with_reducible refine (hnum.out w3).mono ?_
  rintro e w4 ⟨v4, rfl, hown4, ho4⟩
  have l3' := ho4.cell l3 (by simp)
  have hB4 := Cs.of_own hown4 (by omega)
  have hA4 := own_only0 hownA.out ho4
  have hs4 := ho4.size
  obtain ⟨xa, xc, rfl⟩ := own_form hown4
  clear hownA hown4
  go_wp2_with (at_builtin; refine wpList_app (by rfl) _ _ 34 (by rfl) w2.heap.size 5 1 1 el_u8 (by rfl) hA4 (by rfl) hB4 (bytes_one _) (by simp; omega) (by simp; omega) (by omega) ?_; intro v5 w5 hown5 happ5; have hq5 : Only [] w2 w5 := (hoA.trans0 ho4).app happ5 (fun i hi => .inr (hA4.lt i hi).1); have l5 := hq5.cell D3.out (by simp); replace hown5 := hid hown5; replace happ5 := hid happ5)
  with_reducible refine (htxt.out w5 (ho2.trans0 hq5)).mono ?_
  rintro e w6 ⟨v6, rfl, hown6, ho6⟩
  have hB6 := Cs.of_own hown6 (by omega)
  have hA6 := own_only0 hown5.out ho6
  have hs6 := hq5.size
  have hs6' := ho6.size
  have hO6 := hid (hO2.trans0 (hq5.trans0 ho6))
  obtain ⟨ya, yc, rfl⟩ := own_form hown6
  obtain ⟨za, zc, rfl⟩ := own_form hA6
  have hlow := hid hO2.size
  clear hown5 happ5 hown6 l3' l5 hA4 hB4 hq5
  go_wp2_with (at_builtin; refine wpList_app (by rfl) _ _ 34 (by rfl) w2.heap.size 5 1 1 el_u8 (by rfl) hA6 (by rfl) hB6 (bytes_one _) (by simp; omega) (by simp; omega) (by omega) ?_; intro v7 w7 hown7 happ7; obtain ⟨ua, uc, rfl⟩ := own_form hown7; replace hown7 := hid hown7; replace happ7 := hid happ7)
  go_ret2
  have hlen : (encB k t a m).length = 2 + A.length + M.length := by rw [HF.out]; simp; omega
  refine ⟨_, rfl, own_lower (own_cast hown7.out ?_ ?_) hlow.out, ?_⟩
  · rw [hlen]; simp
  · rw [HF.out]; simp [bytes]
  · exact hO6.out.app happ7.out (fun i hi => .inr (Nat.le_trans hlow.out (hA6.lt i hi).1))

set_option maxRecDepth 20000 in
set_option maxHeartbeats 1600000 in
theorem rencode_bad (w : World) (k t : Int) (a : Nat) (mv : Value) (m : List UInt8) (hm : Bs w mv m) (hr : rightB k t a m.length = false) :
    Calls Try.prog 29 #[txV k t a mv] w fun e w' => e = .returned (.tuple #[.slice none 0 0, .int .i64 1]) ∧ Only [] w w' := by
  obtain ⟨ma, mc, rfl⟩ := bs_form' hm
  obtain ⟨w1, hw1⟩ : ∃ w1, w1 = w.alloc (Obj.cells #[.int .i64 k, .int .i64 t, .int .u64 (a : Int), .slice ma m.length mc] 37) := ⟨_, rfl⟩
  have ho1 : Only [] w w1 := by rw [hw1]; exact (Only.refl [] w).alloc _
  have hri := rright_any w1 k t a _ m (hm.kept0 ho1)
  rw [hr] at hri
  replace hri := hid hri
  clear hr
  go_enter Try.func29, Try.ntmps29
  go_wp2_with fail
  rw [← hw1]
  clear hw1
  with_reducible refine hri.out.mono ?_
  rintro e w2 ⟨rfl, ho2⟩
  go_wp2
  go_ret2
  exact ⟨rfl, ho1.trans0 ho2⟩
end Go.Proofs.Ytiinfiaemiaamaa.Sh
