/- What is held back, and freed, is as it was; paid it is less by the fee, slashed by the fee and the deposit: the law's walk. -/
import Derived.Test.YtiinfiaemiaamaaLedL
import Derived.Test.YtiinfiaemiaamaaRead
namespace Go.Proofs.Ytiinfiaemiaamaa.Sh
open Go Go.RowKit

theorem ns_two (w : World) (x y : Nat) (hx : x < 18446744073709551616) (hy : y < 18446744073709551616) : Ns (w.alloc (Obj.cells #[.int .u64 (x : Int), .int .u64 (y : Int)] 22)) (.slice (some ⟨w.heap.size, 0, none⟩) 2 2) [x, y] :=
  ⟨cs_built w [_, _] _ 1 2 _ rfl (by omega), by simp [hx, hy]⟩

def mB (b : Nat) : Lm := initM [b, 7]
theorem mB_is (b : Nat) : (mB b).is 0 := by
  have : (mB b).k = 2 := rfl
  unfold Lm.is; omega
theorem mB_hold (b fee : Nat) (h1 : 50 ≤ b) (h2 : fee ≤ b - 50) : holdE (mB b) 0 fee = (0, (mB b).hold 0 fee) := by
  unfold holdE
  rw [if_pos (mB_is b), if_neg]
  · rfl
  · have : (mB b).b (0 : Int).toNat = b := rfl
    omega
theorem mB_poor (b fee : Nat) (h : b < 50 ∨ b - 50 < fee) : holdE (mB b) 0 fee = (9, mB b) := by
  unfold holdE
  rw [if_pos (mB_is b), if_pos]
  exact h
theorem upd0 (g : Nat → Nat) (x : Nat) : upd g 0 x 0 = x ∧ upd g 0 x 1 = g 1 := ⟨upd_same _ _ _, upd_other _ _ (by omega)⟩
theorem mB_back (b fee : Nat) (x y : Bool) : backE ((mB b).hold 0 fee) 0 fee x y = (0, ((mB b).hold 0 fee).back 0 fee x y) := by
  have hf : ((mB b).hold 0 fee).f 0 = fee := by simp [Lm.hold, mB, initM, upd]
  have hd : ((mB b).hold 0 fee).d 0 = 50 := by simp [Lm.hold, mB, initM, upd]
  unfold backE
  rw [if_pos (show ((mB b).hold 0 fee).is 0 from mB_is b), if_neg]
  · rfl
  · rw [show (0 : Int).toNat = 0 from rfl, hf, hd]; omega

/-- What is left behind a call that took all that was held back. -/
theorem mB_end (b fee : Nat) (x y : Bool) : sumTo (((mB b).hold 0 fee).back 0 fee x y).k (((mB b).hold 0 fee).back 0 fee x y).f = 0 ∧ sumTo (((mB b).hold 0 fee).back 0 fee x y).k (((mB b).hold 0 fee).back 0 fee x y).d = 0 ∧
    backE (((mB b).hold 0 fee).back 0 fee x y) 0 0 true true = (9, ((mB b).hold 0 fee).back 0 fee x y) ∧ backE (((mB b).hold 0 fee).back 0 fee x y) 1 0 false true = (9, ((mB b).hold 0 fee).back 0 fee x y) := by
  have hk : (((mB b).hold 0 fee).back 0 fee x y).k = 2 := rfl
  have hf : ∀ i, i < 2 → (((mB b).hold 0 fee).back 0 fee x y).f i = 0 := by
    intro i hi
    have : i = 0 ∨ i = 1 := by omega
    rcases this with rfl | rfl <;> simp [Lm.back, Lm.hold, mB, initM, upd]
  have hd : ∀ i, i < 2 → (((mB b).hold 0 fee).back 0 fee x y).d i = 0 := by
    intro i hi
    have : i = 0 ∨ i = 1 := by omega
    rcases this with rfl | rfl <;> simp [Lm.back, Lm.hold, mB, initM, upd]
  refine ⟨?_, ?_, ?_, ?_⟩
  · rw [hk]; simp only [sumTo]; rw [hf 0 (by omega), hf 1 (by omega)]
  · rw [hk]; simp only [sumTo]; rw [hd 0 (by omega), hd 1 (by omega)]
  · unfold backE
    rw [if_pos (by unfold Lm.is; rw [hk]; omega), if_pos (.inr (hd 0 (by omega)))]
  · unfold backE
    rw [if_pos (by unfold Lm.is; rw [hk]; omega), if_pos (.inr (hd 1 (by omega)))]

set_option maxRecDepth 20000 in
set_option maxHeartbeats 6400000 in
theorem ledgerBack_walk (w : World) {bal fee how : Int} (hbal : (Lit.int .u64 bal).wf = true) (hfee : (Lit.int .u64 fee).wf = true) (hhow : (Lit.int .u8 how).wf = true) :
    Calls Try.prog 3 #[.int .u64 bal, .int .u64 fee, .int .u8 how] w fun e w' => e = .returned (.bool true) ∧ Only [] w w' := by
  obtain ⟨z, rfl⟩ := u8_of (wfu8 hhow)
  obtain ⟨b, rfl⟩ : ∃ b : Nat, bal = (b : Int) := ⟨bal.toNat, by have := wfu64 hbal; omega⟩
  obtain ⟨f, rfl⟩ : ∃ f : Nat, fee = (f : Int) := ⟨fee.toNat, by have := wfu64 hfee; omega⟩
  have hb64 : b < 18446744073709551616 := by have := wfu64 hbal; omega
  have hf64 : f < 18446744073709551616 := by have := wfu64 hfee; omega
  have hzb := u8_bound z
  clear hbal hfee hhow
  have hnew := hid (fun w v h => new_any w v [b, 7] h)
  by_cases hbig : 1152921504606846976 < b + 7
  · have hn : Hid (newE [b, 7] = 10) := by show _ = _; unfold newE; rw [if_neg (by simp), if_pos (by simp; omega)]
    have hgt : decide (1152921504606846969 < (b : Int)) = true := by simp; omega
    go_enter Try.func3, Try.ntmps3
    go_wp2_with fail
    refine (awake13_any _).mono ?_
    rintro e w1 ⟨rfl, ho1⟩
    go_wp2_with fail
    refine (hnew.out _ _ (ns_two w1 b 7 hb64 (by omega))).mono ?_
    rintro e w2 ⟨hp2, hcase⟩
    have ho2 : Only [] w w2 := ho1.trans0 (((Only.refl [] w1).alloc _).trans0 hp2)
    rw [hn.out] at hcase
    rcases hcase with ⟨_, rfl⟩ | ⟨h, _⟩
    · go_wp2
      go_ret
      exact ⟨rfl, ho2⟩
    · cases h
  have hn : newE [b, 7] = 0 := by unfold newE; rw [if_neg (by simp), if_neg (by simp; omega)]
  have hi0 : LInv (b + 7) (mB b) := by have := initM_inv [b, 7] hn; rw [show [b, 7].sum = b + 7 by simp] at this; exact this
  replace hn := hid hn
  by_cases hpoor : b < 50 ∨ b - 50 < f
  · have hh := fun w x ab mb (h : Led w x ab mb (mB b)) => hold_any w x ab mb _ _ h hi0 0 f (by unfold i64b; omega) hf64
    unfold HoldPost at hh
    rw [mB_poor b f hpoor] at hh
    have hb := fun w x ab mb (h : Led w x ab mb (mB b)) => balance_any w x ab mb _ _ h hi0 0
    rw [show balE (mB b) 0 = b from rfl] at hb
    replace hh := hid hh
    replace hb := hid hb
    have hbb : ((b : Int) == (b : Int)) = true := by simp
    clear hi0
    by_cases h50 : b < 50
    all_goals
      first
        | (have hq : b < 50 := h50
           clear hpoor)
        | (have hq : b - 50 < f := by omega
           have hsub : IntKind.u64.wrap ((b : Int) - 50) = ((b - 50 : Nat) : Int) := by rw [IntKind.wrap_u64]; omega
           clear hpoor)
      go_enter Try.func3, Try.ntmps3
      go_wp2_with fail
      refine (awake13_any _).mono ?_
      rintro e w1 ⟨rfl, ho1⟩
      go_wp2_with fail
      refine (hnew.out _ _ (ns_two w1 b 7 hb64 (by omega))).mono ?_
      rintro e w2 ⟨hp2, hcase⟩
      have ho2 : Only [] w w2 := ho1.trans0 (((Only.refl [] w1).alloc _).trans0 hp2)
      rcases hcase with ⟨h, _⟩ | ⟨_, x, ab, mb, ⟨n1, n2, n3⟩, rfl, hL⟩
      · exact absurd hn.out h
      have hs1 := ho1.size
      have hsz : w.heap.size ≤ x ∧ w.heap.size ≤ ab ∧ w.heap.size ≤ mb := by simp at n1 n2 n3; omega
      clear n1 n2 n3
      go_wp2_with fail
      refine (hh.out _ _ _ _ hL).mono ?_
      rintro e w3 ⟨rfl, hL3, ho3⟩
      go_wp2_with fail
      refine (hb.out _ _ _ _ hL3).mono ?_
      rintro e w' ⟨rfl, rfl⟩
      go_wp2
      go_ret
      exact ⟨rfl, ho2.trans ho3 (by simp) (by simp; omega)⟩
  have h50 : 50 ≤ b := by omega
  have hfb : f ≤ b - 50 := by omega
  have hh := fun w x ab mb (h : Led w x ab mb (mB b)) => hold_any w x ab mb _ _ h hi0 0 f (by unfold i64b; omega) hf64
  unfold HoldPost at hh
  rw [mB_hold b f h50 hfb] at hh
  have hi1 : LInv (b + 7) ((mB b).hold 0 f) := by have := holdE_inv hi0 0 f; rw [mB_hold b f h50 hfb] at this; exact this
  have hb1 := fun w x ab mb (h : Led w x ab mb ((mB b).hold 0 f)) => balance_any w x ab mb _ _ h hi1 0
  rw [show balE ((mB b).hold 0 f) 0 = b - f - 50 from rfl] at hb1
  have hf1 := fun w x ab mb (h : Led w x ab mb ((mB b).hold 0 f)) => fees_any w x ab mb _ _ h hi1
  rw [show sumTo ((mB b).hold 0 f).k ((mB b).hold 0 f).f = f by simp [Lm.hold, mB, initM, sumTo, upd]] at hf1
  have hd1 := fun w x ab mb (h : Led w x ab mb ((mB b).hold 0 f)) => deposits_any w x ab mb _ _ h hi1
  rw [show sumTo ((mB b).hold 0 f).k ((mB b).hold 0 f).d = 50 by simp [Lm.hold, mB, initM, sumTo, upd]] at hd1
  have hcall : ∀ (x y : Bool) (w0 : World) (p ab mb : Nat), (∀ r e w', HoldPost w0 p ab mb ((mB b).hold 0 f) r e w' → True) := fun _ _ _ _ _ _ _ _ _ _ => trivial
  clear hcall
  have hend : ∀ x y : Bool, LInv (b + 7) (((mB b).hold 0 f).back 0 f x y) := fun x y => by have := backE_inv hi1 0 f x y; rw [mB_back] at this; exact this
  have hfree := fun w x ab mb (h : Led w x ab mb ((mB b).hold 0 f)) => free_any w x ab mb _ _ h hi1 0 f hf64
  have hpay := fun w x ab mb (h : Led w x ab mb ((mB b).hold 0 f)) => pay_any w x ab mb _ _ h hi1 0 f hf64
  have hslash := fun w x ab mb (h : Led w x ab mb ((mB b).hold 0 f)) => slash_any w x ab mb _ _ h hi1 0 f hf64
  unfold HoldPost at hfree hpay hslash
  rw [mB_back] at hfree hpay hslash
  -- what is asked behind it
  have gb := fun xx yy w x ab mb (h : Led w x ab mb (((mB b).hold 0 f).back 0 f xx yy)) => balance_any w x ab mb _ _ h (hend xx yy) 0
  have gt := fun xx yy w x ab mb (h : Led w x ab mb (((mB b).hold 0 f).back 0 f xx yy)) => treasury_any w x ab mb _ h
  have gf := fun xx yy w x ab mb (h : Led w x ab mb (((mB b).hold 0 f).back 0 f xx yy)) => fees_any w x ab mb _ _ h (hend xx yy)
  have gd := fun xx yy w x ab mb (h : Led w x ab mb (((mB b).hold 0 f).back 0 f xx yy)) => deposits_any w x ab mb _ _ h (hend xx yy)
  have gr := fun xx yy w x ab mb (h : Led w x ab mb (((mB b).hold 0 f).back 0 f xx yy)) => free_any w x ab mb _ _ h (hend xx yy) 0 0 (by omega)
  have gp := fun xx yy w x ab mb (h : Led w x ab mb (((mB b).hold 0 f).back 0 f xx yy)) => pay_any w x ab mb _ _ h (hend xx yy) 1 0 (by omega)
  unfold HoldPost at gr gp
  simp only [(mB_end b f _ _).1] at gf
  simp only [(mB_end b f _ _).2.1] at gd
  simp only [(mB_end b f _ _).2.2.1] at gr
  simp only [(mB_end b f _ _).2.2.2] at gp
  replace hh := hid hh
  replace hb1 := hid hb1
  replace hf1 := hid hf1
  replace hd1 := hid hd1
  replace gf := hid gf
  replace gd := hid gd
  replace gr := hid gr
  replace gp := hid gp
  have hsub1 : (b : Int) - (f : Int) - 50 = ((b - f - 50 : Nat) : Int) := by omega
  have hbb : (((b - f - 50 : Nat) : Int) == ((b - f - 50 : Nat) : Int)) = true := by simp
  have hff : ((f : Int) == (f : Int)) = true := by simp
  have hx1 : IntKind.u64.wrap ((b : Int) - (f : Int)) = (b : Int) - (f : Int) := by rw [IntKind.wrap_u64]; omega
  obtain ⟨r, hr⟩ : ∃ r, r = z.toNat % 3 := ⟨_, rfl⟩
  have hr3 : r = 0 ∨ r = 1 ∨ r = 2 := by omega
  have hzm : (z.toNat : Int) % 3 = (r : Int) := by omega
  clear hi0 hi1 hpoor hbig hr hend
  go_enter Try.func3, Try.ntmps3
  go_wp2_with fail
  refine (awake13_any _).mono ?_
  rintro e w1 ⟨rfl, ho1⟩
  go_wp2_with fail
  refine (hnew.out _ _ (ns_two w1 b 7 hb64 (by omega))).mono ?_
  rintro e w2 ⟨hp2, hcase⟩
  have ho2 : Only [] w w2 := ho1.trans0 (((Only.refl [] w1).alloc _).trans0 hp2)
  rcases hcase with ⟨h, _⟩ | ⟨_, x, ab, mb, ⟨n1, n2, n3⟩, rfl, hL⟩
  · exact absurd hn.out h
  have hs1 := ho1.size
  have hsz : w.heap.size ≤ x ∧ w.heap.size ≤ ab ∧ w.heap.size ≤ mb := by simp at n1 n2 n3; omega
  clear n1 n2 n3
  go_wp2_with fail
  refine (hh.out _ _ _ _ hL).mono ?_
  rintro e w3 ⟨rfl, hL3, ho3⟩
  have how3 : Only [] w w3 := ho2.trans ho3 (by simp) (by simp; omega)
  go_wp2_with fail
  refine (hb1.out _ _ _ _ hL3).mono ?_
  rintro e w' ⟨rfl, rfl⟩
  go_wp2_with fail
  refine (hf1.out _ _ _ _ hL3).mono ?_
  rintro e w4 ⟨rfl, ho4⟩
  have hL4 := hL3.kept0 ho4
  go_wp2_with fail
  refine (hd1.out _ _ _ _ hL4).mono ?_
  rintro e w5 ⟨rfl, ho5⟩
  have hL5 := hL4.kept0 ho5
  have how5 : Only [] w w5 := (how3.trans0 ho4).trans0 ho5
  rcases hr3 with rfl | rfl | rfl
  · have gB : ∀ w x ab mb, Led w x ab mb (((mB b).hold 0 f).back 0 f true true) → Calls Try.prog 18 #[.pointer (some ⟨x, 0, none⟩), .int .i64 0] w fun e w' => e = .returned (.int .u64 ((b : Int))) ∧ w' = w := by
      intro w x ab mb h
      have := gb true true w x ab mb h
      rw [show balE (((mB b).hold 0 f).back 0 f true true) 0 = b - f - 50 + f + 50 from rfl, u64, show ((b - f - 50 + f + 50 : Nat) : Int) = (b : Int) by omega] at this
      exact this
    have gT : ∀ w x ab mb, Led w x ab mb (((mB b).hold 0 f).back 0 f true true) → Calls Try.prog 24 #[.pointer (some ⟨x, 0, none⟩)] w fun e w' => e = .returned (.int .u64 (0)) ∧ w' = w := by
      intro w x ab mb h
      have := gt true true w x ab mb h
      rw [show (((mB b).hold 0 f).back 0 f true true).t = 0 + 0 + 0 from rfl, u64, show ((0 + 0 + 0 : Nat) : Int) = 0 by omega] at this
      exact this
    replace gB := hid gB
    replace gT := hid gT
    replace hfree := hid hfree
    have gF := hid (gf.out true true)
    have gD := hid (gd.out true true)
    have gR := hid (gr.out true true)
    have gP := hid (gp.out true true)
    have q1 : (((b : Int) : Int) == ((b : Int) : Int)) = true := by simp
    have q2 : ((0 : Int) == (0 : Int)) = true := by simp
    clear gb gt hpay hslash
    go_wp2_with fail
    refine (hfree.out _ _ _ _ hL5).mono ?_
    rintro e w6 ⟨rfl, hL6, ho6⟩
    have how6 : Only [] w w6 := how5.trans ho6 (by simp) (by simp; omega)
    go_wp2_with fail
    refine (gB.out _ _ _ _ hL6).mono ?_
    rintro e w' ⟨rfl, rfl⟩
    go_wp2_with fail
    refine (gT.out _ _ _ _ hL6).mono ?_
    rintro e w' ⟨rfl, rfl⟩
    go_wp2_with fail
    refine (gF.out _ _ _ _ hL6).mono ?_
    rintro e w7 ⟨rfl, ho7⟩
    have hL7 := hL6.kept0 ho7
    go_wp2_with fail
    refine (gD.out _ _ _ _ hL7).mono ?_
    rintro e w8 ⟨rfl, ho8⟩
    have hL8 := hL7.kept0 ho8
    have how8 := (how6.trans0 ho7).trans0 ho8
    go_wp2_with fail
    refine (gR.out _ _ _ _ hL8).mono ?_
    rintro e w9 ⟨rfl, hL9, ho9⟩
    have how9 : Only [] w w9 := how8.trans ho9 (by simp) (by simp; omega)
    go_wp2_with fail
    refine (gP.out _ _ _ _ hL9).mono ?_
    rintro e w10 ⟨rfl, _, ho10⟩
    go_wp2
    go_ret
    exact ⟨rfl, how9.trans ho10 (by simp) (by simp; omega)⟩
  · have gB : ∀ w x ab mb, Led w x ab mb (((mB b).hold 0 f).back 0 f false true) → Calls Try.prog 18 #[.pointer (some ⟨x, 0, none⟩), .int .i64 0] w fun e w' => e = .returned (.int .u64 ((b : Int) - (f : Int))) ∧ w' = w := by
      intro w x ab mb h
      have := gb false true w x ab mb h
      rw [show balE (((mB b).hold 0 f).back 0 f false true) 0 = b - f - 50 + 0 + 50 from rfl, u64, show ((b - f - 50 + 0 + 50 : Nat) : Int) = (b : Int) - (f : Int) by omega] at this
      exact this
    have gT : ∀ w x ab mb, Led w x ab mb (((mB b).hold 0 f).back 0 f false true) → Calls Try.prog 24 #[.pointer (some ⟨x, 0, none⟩)] w fun e w' => e = .returned (.int .u64 ((f : Int))) ∧ w' = w := by
      intro w x ab mb h
      have := gt false true w x ab mb h
      rw [show (((mB b).hold 0 f).back 0 f false true).t = 0 + f + 0 from rfl, u64, show ((0 + f + 0 : Nat) : Int) = (f : Int) by omega] at this
      exact this
    replace gB := hid gB
    replace gT := hid gT
    replace hpay := hid hpay
    have gF := hid (gf.out false true)
    have gD := hid (gd.out false true)
    have gR := hid (gr.out false true)
    have gP := hid (gp.out false true)
    have q1 : (((b : Int) - (f : Int) : Int) == ((b : Int) - (f : Int) : Int)) = true := by simp
    have q2 : (((f : Int) : Int) == ((f : Int) : Int)) = true := by simp
    clear gb gt hfree hslash
    go_wp2_with fail
    refine (hpay.out _ _ _ _ hL5).mono ?_
    rintro e w6 ⟨rfl, hL6, ho6⟩
    have how6 : Only [] w w6 := how5.trans ho6 (by simp) (by simp; omega)
    go_wp2_with fail
    refine (gB.out _ _ _ _ hL6).mono ?_
    rintro e w' ⟨rfl, rfl⟩
    go_wp2_with fail
    refine (gT.out _ _ _ _ hL6).mono ?_
    rintro e w' ⟨rfl, rfl⟩
    go_wp2_with fail
    refine (gF.out _ _ _ _ hL6).mono ?_
    rintro e w7 ⟨rfl, ho7⟩
    have hL7 := hL6.kept0 ho7
    go_wp2_with fail
    refine (gD.out _ _ _ _ hL7).mono ?_
    rintro e w8 ⟨rfl, ho8⟩
    have hL8 := hL7.kept0 ho8
    have how8 := (how6.trans0 ho7).trans0 ho8
    go_wp2_with fail
    refine (gR.out _ _ _ _ hL8).mono ?_
    rintro e w9 ⟨rfl, hL9, ho9⟩
    have how9 : Only [] w w9 := how8.trans ho9 (by simp) (by simp; omega)
    go_wp2_with fail
    refine (gP.out _ _ _ _ hL9).mono ?_
    rintro e w10 ⟨rfl, _, ho10⟩
    go_wp2
    go_ret
    exact ⟨rfl, how9.trans ho10 (by simp) (by simp; omega)⟩
  · have gB : ∀ w x ab mb, Led w x ab mb (((mB b).hold 0 f).back 0 f false false) → Calls Try.prog 18 #[.pointer (some ⟨x, 0, none⟩), .int .i64 0] w fun e w' => e = .returned (.int .u64 ((b : Int) - (f : Int) - 50)) ∧ w' = w := by
      intro w x ab mb h
      have := gb false false w x ab mb h
      rw [show balE (((mB b).hold 0 f).back 0 f false false) 0 = b - f - 50 + 0 + 0 from rfl, u64, show ((b - f - 50 + 0 + 0 : Nat) : Int) = (b : Int) - (f : Int) - 50 by omega] at this
      exact this
    have gT : ∀ w x ab mb, Led w x ab mb (((mB b).hold 0 f).back 0 f false false) → Calls Try.prog 24 #[.pointer (some ⟨x, 0, none⟩)] w fun e w' => e = .returned (.int .u64 ((f : Int) + 50)) ∧ w' = w := by
      intro w x ab mb h
      have := gt false false w x ab mb h
      rw [show (((mB b).hold 0 f).back 0 f false false).t = 0 + f + 50 from rfl, u64, show ((0 + f + 50 : Nat) : Int) = (f : Int) + 50 by omega] at this
      exact this
    replace gB := hid gB
    replace gT := hid gT
    replace hslash := hid hslash
    have gF := hid (gf.out false false)
    have gD := hid (gd.out false false)
    have gR := hid (gr.out false false)
    have gP := hid (gp.out false false)
    have q1 : (((b : Int) - (f : Int) - 50 : Int) == ((b : Int) - (f : Int) - 50 : Int)) = true := by simp
    have q2 : (((f : Int) + 50 : Int) == ((f : Int) + 50 : Int)) = true := by simp
    clear gb gt hfree hpay
    go_wp2_with fail
    refine (hslash.out _ _ _ _ hL5).mono ?_
    rintro e w6 ⟨rfl, hL6, ho6⟩
    have how6 : Only [] w w6 := how5.trans ho6 (by simp) (by simp; omega)
    go_wp2_with fail
    refine (gB.out _ _ _ _ hL6).mono ?_
    rintro e w' ⟨rfl, rfl⟩
    go_wp2_with fail
    refine (gT.out _ _ _ _ hL6).mono ?_
    rintro e w' ⟨rfl, rfl⟩
    go_wp2_with fail
    refine (gF.out _ _ _ _ hL6).mono ?_
    rintro e w7 ⟨rfl, ho7⟩
    have hL7 := hL6.kept0 ho7
    go_wp2_with fail
    refine (gD.out _ _ _ _ hL7).mono ?_
    rintro e w8 ⟨rfl, ho8⟩
    have hL8 := hL7.kept0 ho8
    have how8 := (how6.trans0 ho7).trans0 ho8
    go_wp2_with fail
    refine (gR.out _ _ _ _ hL8).mono ?_
    rintro e w9 ⟨rfl, hL9, ho9⟩
    have how9 : Only [] w w9 := how8.trans ho9 (by simp) (by simp; omega)
    go_wp2_with fail
    refine (gP.out _ _ _ _ hL9).mono ?_
    rintro e w10 ⟨rfl, _, ho10⟩
    go_wp2
    go_ret
    exact ⟨rfl, how9.trans ho10 (by simp) (by simp; omega)⟩
end Go.Proofs.Ytiinfiaemiaamaa.Sh
