/- What is told is memory of its own; a nil log has no records: the law's walk. -/
import Derived.Test.YtlcfmocojakhpaaJouL
namespace Go.Proofs.Ytlcfmocojakhpaa.Sh
open Go Go.RowKit

theorem field_nil (W : World) : (Instr.field 26 (dskV (.slice none 0 0) (.slice none 0 0)) 0).run Try.prog W = .ok (.slice none 0 0) W := by kernel_rfl

set_option maxRecDepth 20000 in
set_option maxHeartbeats 3200000 in
theorem journalOwn_mid (w : World) {v : Value} {b : List UInt8} {x : UInt8} (hb : Bs w v b) (q2 : ¬ b.length < 1) (q3 : ¬ 60 < b.length) :
    Calls Try.prog 8 #[v, .int .u8 (x.toNat : Int)] w fun e w' => e = .returned (.bool true) ∧ Only [] w w' := by
  obtain ⟨ba, bc, rfl⟩ := bs_form hb
  have hn0 : ∀ W : World, Bs W (.slice none 0 0) [] := fun W => Bs.empty (by unfold maxLen; omega)
  have hop := fun W => nopen_any W W (Only.refl [] W) _ _ [] [] (hn0 W) (hn0 W) (by simp)
  rw [show allL ([] ++ []) = ([], 0) from allL_bad _ (by simp [firstL])] at hop
  simp only [List.append_nil, List.take_nil] at hop
  obtain ⟨F, hF⟩ : ∃ F, F = frameL b := ⟨_, rfl⟩
  have lF : F.length = 6 + b.length := by rw [hF, frameL_length]
  have hall : allL F = ([b], 6 + b.length) := by rw [hF, allL_one' b (by omega) (by omega)]
  have ap := fun w W x bv (h : LgN w W x [] [] []) (hb : Bs w bv b) => nappend_good w W x [] [] b [] h bv hb (by omega) (by omega) (by simp) (by simp)
  rw [← hF] at ap
  simp only [List.nil_append] at ap
  have re := fun w W x f l (h : LgN w W x f l [b]) => nrecords_any w W x f l [b] h (by simp) (by simp; omega)
  have di := fun w W x (h : LgN w W x [] F [b]) => ndisk_any w W x [] F [b] h (by simp; omega)
  have di2 := fun w W x (h : LgN w W x F [] [b]) => ndisk_any w W x F [] [b] h (by simp; omega)
  have sy := fun w W x (h : LgN w W x [] F [b]) => nsync_any w W x [] F [b] h (by simp; omega)
  simp only [List.nil_append] at sy
  have o2 := fun W fv lv (hf : Bs W fv F) (hl : Bs W lv []) => nopen_any W W (Only.refl [] W) fv lv F [] hf hl (by simp; omega)
  simp only [List.append_nil, hall] at o2
  have htk : F.take (6 + b.length) = F := List.take_of_length_le (by omega)
  simp only [htk] at o2
  have LF := hid lF
  have HN0 := hid hn0
  replace hop := hid hop
  replace ap := hid ap
  replace re := hid re
  replace di := hid di
  replace di2 := hid di2
  replace sy := hid sy
  replace o2 := hid o2
  have hF66 : F.length ≤ 66 := by omega
  have hF7 : 7 ≤ F.length := by omega
  clear hn0 hF lF hall htk
  go_enter Try.func8, Try.ntmps8
  go_wp2_with fail
  refine (awake12_any _).mono ?_
  rintro e w1 ⟨rfl, ho1⟩
  have hownA := own_built w1 [] 5 1 0 rfl (by unfold maxLen; omega)
  have hbA := (hb.kept0 ho1).kept0 ((Only.refl [] w1).alloc (Obj.cells #[] 5))
  go_wp2_with (at_builtin; refine wpList_app (by rfl) _ _ 22 (by rfl) w1.heap.size 5 1 1 el_u8 (by rfl) hownA (by rfl) hbA (bytes_one b) (by omega) (by omega) (by simp) ?_; intro v2 w2 hown2 happ2; obtain ⟨g, gc, rfl, hg1, hg2, hg3, hg4, hcells⟩ := own_at (own_cast hown2 (show 0 + b.length = b.length by omega) (show [] ++ bytes b = bytes b by simp)) (by omega); have hBo : Bs w2 (.slice (some ⟨g, 0, none⟩) b.length gc) b := Cs.of_own (own_cast hown2 (show 0 + b.length = b.length by omega) (show [] ++ bytes b = bytes b by simp)) (by omega))
  have h02 : Only [] w w2 := (ho1.trans0 ((Only.refl [] w1).alloc _)).app happ2 (fun k hk => .inr (by have := (hownA.lt k hk).1; have := ho1.size; omega))
  obtain ⟨f0, f0'⟩ := hcells 0 (vU8 b[0]) (bytes_get (by omega))
  have HG := hid (And.intro hg1 hg2)
  clear hown2 happ2 hownA hcells hbA
  with_reducible refine (hop.out w2).mono ?_
  rintro e w3 ⟨lx, rfl, g3, o3⟩
  go_wp2_with fail
  with_reducible refine (ap.out _ _ _ _ g3 hBo).mono ?_
  rintro e w4 ⟨rfl, g4⟩
  have c4 := g4.o.cell f0 (by simp)
  have d4 : w4.frozen? ⟨g, 0, none⟩ = false := by rw [g4.o.frozen' (by have := HG.out; simp only; omega) (by simp)]; exact f0'
  have g5 : LgN w (w4.setCell ⟨g, 0, none⟩ (.int .u8 (bits .xor .u8 (b[0].toNat : Int) 1))) lx [] F [b] := g4.below h02 ((Only.refl [g] w4).setCell (.inl (by simp)) _) (by have := HG.out; have := ho1.size; omega) HG.out.2
  go_wp2_with fail
  obtain ⟨w5, hw5⟩ : ∃ w5, w5 = w4.setCell ⟨g, 0, none⟩ (.int .u8 (bits .xor .u8 (b[0].toNat : Int) 1)) := ⟨_, rfl⟩
  rw [← hw5] at g5 ⊢
  clear hw5 g4 g3 c4 d4 f0 f0' hBo HG
  with_reducible refine (re.out _ _ _ _ _ g5).mono ?_
  rintro e w6 ⟨v6, rfl, r6, o6⟩
  have g6 := g5.kept0 o6
  obtain ⟨vs, r6a, r6b⟩ := r6
  obtain ⟨rv, rfl⟩ : ∃ rv, vs = [rv] := by
    have := r6b.length
    match vs, this with
    | [rv], _ => exact ⟨rv, rfl⟩
  obtain ⟨hrow, _⟩ : (w6.ownsRow w5.heap.size 5 1 rv b.length (bytes b) ∧ b.length ≤ 9223372036854775807) := by
    cases r6b with
    | cons h _ => exact h
  clear r6b
  obtain ⟨rg, rc, rfl, _, rg2, rg3, rg4, rcell⟩ := own_at r6a (by simp)
  obtain ⟨ig, ic, rfl, ig1, ig2, ig3, ig4, icell⟩ := own_at hrow (by omega)
  obtain ⟨rc0, _⟩ := rcell 0 _ rfl
  obtain ⟨ic0, ic1⟩ := icell 0 (vU8 b[0]) (bytes_get (by omega))
  clear r6a hrow rcell icell
  go_wp2_with fail
  with_reducible refine (di.out _ _ _ g6).mono ?_
  rintro e w7 ⟨v7, u7, rfl, f7, l7, o7⟩
  have g7 := g6.kept0 o7
  obtain ⟨va, vc, rfl⟩ := own_form f7
  obtain ⟨lg, lc, rfl, lg1, lg2, lg3, lg4, _⟩ := own_at l7 (by omega)
  obtain ⟨w8, hw8⟩ : ∃ w8, w8 = w7.alloc (Obj.cells #[.slice va ([] : List UInt8).length vc, .slice (some ⟨lg, 0, none⟩) F.length lc] 26) := ⟨_, rfl⟩
  have o8 : Only [] w7 w8 := by rw [hw8]; exact (Only.refl [] w7).alloc _
  have d8 : w8.cell? ⟨w7.heap.size, 1, none⟩ = some (.slice (some ⟨lg, 0, none⟩) F.length lc) := by rw [hw8]; simp [go_sem]
  have l8 := own_only0 l7 o8
  have rc8 := (o7.trans0 o8).cell rc0 (by simp)
  have ic8 := (o7.trans0 o8).cell ic0 (by simp)
  have id8 : w8.frozen? ⟨ig, 0, none⟩ = false := by rw [(o7.trans0 o8).frozen' (by simpa using ig2) (by simp)]; exact ic1
  have g8 := g7.kept0 o8
  simp only [List.length_nil] at hw8
  go_wp2_with fail
  rw [← hw8]
  have hw7s : w7.heap.size < w8.heap.size := by rw [hw8]; simp
  have hl7 : lg < w7.heap.size := lg2
  have hi6 : ig < lg := by omega
  have hr6 : rg < lg := by omega
  have hgl : Hid (w6.heap.size ≤ lg) := lg1
  clear hw8 f7 l7
  go_loopw [45] (fun i wr => ∃ (k : Nat) (xs : List Value), k ≤ F.length ∧ i = .int .i64 k ∧ wr.ownsRow w6.heap.size 5 1 (.slice (some ⟨lg, 0, none⟩) F.length lc) F.length xs ∧ Only [lg] w8 wr) (fun i _ => F.length - (intOf i).toNat)
  case atStart => exact ⟨0, _, Nat.zero_le _, rfl, l8, Only.refl _ _⟩
  case round =>
    obtain ⟨k, xs, hk, rfl, hown, ho⟩ := hrel
    have dr := ho.cell d8 (by simp; omega)
    by_cases hlt : k < F.length
    · obtain ⟨lg', lc', he, _, _, _, _, hcell⟩ := own_at hown (by omega)
      simp only [Value.slice.injEq, Option.some.injEq, Addr.mk.injEq, and_true, true_and] at he
      obtain ⟨rfl, rfl⟩ := he
      obtain ⟨old, p1, p2⟩ : ∃ old, wr.cell? ⟨lg, k, none⟩ = some old ∧ wr.frozen? ⟨lg, k, none⟩ = false := ⟨_, hcell k _ (List.getElem?_eq_getElem (by have := hown.1; omega))⟩
      have hset := hid (own_set hown hlt (.int .u8 (x.toNat : Int)))
      clear hcell hown
      go_wp2
      go_roundw
      case rel => exact ⟨k + 1, _, by omega, by go_num, hset.out, ho.setCell (.inl (by simp)) _⟩
      case measure => simp [intOf]; omega
    · obtain rfl : k = F.length := by omega
      have hrc := ho.cell rc8 (by simp; omega)
      have hic := ho.cell ic8 (by simp; omega)
      have hid' : wr.frozen? ⟨ig, 0, none⟩ = false := by rw [ho.frozen' (by have := o8.size; have := o7.size; simp only; omega) (by simp; omega)]; exact id8
      have gr : LgN w wr lx [] F [b] := by
        refine g6.away (W1 := w8) (o7.trans0 o8) ho (fun k hk => ?_)
        obtain rfl : k = lg := by simpa using hk
        exact hgl.out
      have gp : LgN w (wr.setCell ⟨ig, 0, none⟩ (.int .u8 (bits .xor .u8 (b[0].toNat : Int) 1))) lx [] F [b] := by
        refine g5.away (W1 := w8) (ks := [lg, ig]) ((o6.trans0 o7).trans0 o8) ((ho.mono (by simp)).setCell (.inl (by simp)) _) (fun k hk => ?_)
        have := hgl.out
        have := o6.size
        simp at hk
        omega
      have hle2 : ((b.length : Int) == 0) = false := by rw [beq_eq_false_iff_ne]; omega
      clear hown dr gr
      go_wp2_with fail
      obtain ⟨w9, hw9⟩ : ∃ w9, w9 = wr.setCell ⟨ig, 0, none⟩ (.int .u8 (bits .xor .u8 (b[0].toNat : Int) 1)) := ⟨_, rfl⟩
      rw [← hw9] at gp ⊢
      clear hw9 hrc hic hid' ho rc8 ic8 id8 d8
      with_reducible refine (sy.out _ _ _ gp).mono ?_
      rintro e w10 ⟨rfl, g10⟩
      go_wp2_with fail
      with_reducible refine (di2.out _ _ _ g10).mono ?_
      rintro e w11 ⟨v11, u11, rfl, f11, l11, o11⟩
      have g11 := g10.kept0 o11
      go_wp2_with fail
      with_reducible refine (o2.out _ _ _ (f11.bs (by omega)) (l11.bs (by simp))).mono ?_
      rintro e w12 ⟨y, rfl, k12, o12⟩
      have g12 := g11.kept0 o12
      have k12 := k12.rebase g11.o
      clear f11 l11
      go_wp2_with fail
      with_reducible refine (nil_sync w12).mono ?_
      rintro e w' ⟨rfl, rfl⟩
      go_wp2_with fail
      with_reducible refine (re.out _ _ _ _ _ g12).mono ?_
      rintro e w13 ⟨v13, rfl, r13, o13⟩
      have k13 := k12.kept0 o13
      have b13 := r13.bss (by simp)
      obtain ⟨pa, pc, rfl⟩ : ∃ a c, v13 = .slice a 1 c := by obtain ⟨vs, h, _⟩ := r13; exact own_form h
      have hoA := (Only.refl [] w13).alloc (Obj.cells #[.slice ba b.length bc] 22)
      have hb13 := hb.kept0 (g12.o.trans0 o13)
      have bw : Bss (w13.alloc (Obj.cells #[.slice ba b.length bc] 22)) (.slice (some ⟨w13.heap.size, 0, none⟩) 1 1) [b] :=
        ⟨_, cs_built w13 [.slice ba b.length bc] 22 1 1 (0, 0) rfl (by omega), .cons (hb13.kept0 hoA) .nil⟩
      have li := lists_any _ _ [b] [b] _ (b13.kept0 hoA) bw
      rw [decide_eq_true rfl] at li
      replace li := hid li
      clear r13 b13 bw
      go_wp2_with fail
      with_reducible refine li.out.mono ?_
      rintro e w14 ⟨rfl, o14⟩
      have k14 := (k13.kept0 hoA).kept0 o14
      clear li
      go_wp2_with fail
      with_reducible refine (re.out _ _ _ _ _ k14).mono ?_
      rintro e w15 ⟨v15, rfl, r15, o15⟩
      have b15 := r15.bss (by simp)
      obtain ⟨qa, qc, rfl⟩ : ∃ a c, v15 = .slice a 1 c := by obtain ⟨vs, h, _⟩ := r15; exact own_form h
      have hoB := (Only.refl [] w15).alloc (Obj.cells #[.slice ba b.length bc] 22)
      have O15 := k14.o.trans0 o15
      have hb15 := hb.kept0 O15
      have bw : Bss (w15.alloc (Obj.cells #[.slice ba b.length bc] 22)) (.slice (some ⟨w15.heap.size, 0, none⟩) 1 1) [b] :=
        ⟨_, cs_built w15 [.slice ba b.length bc] 22 1 1 (0, 0) rfl (by omega), .cons (hb15.kept0 hoB) .nil⟩
      have li := lists_any _ _ [b] [b] _ (b15.kept0 hoB) bw
      rw [decide_eq_true rfl] at li
      replace li := hid li
      clear r15 b15 bw
      go_wp2_with fail
      with_reducible refine li.out.mono ?_
      rintro e w16 ⟨rfl, o16⟩
      have O16 := (O15.trans0 hoB).trans0 o16
      have na := hid (nil_append w16 _ b (hb.kept0 O16) (by omega) (by omega))
      clear li
      go_wp2_with fail
      with_reducible refine na.out.mono ?_
      rintro e w17 ⟨rfl, o17⟩
      have O17 := O16.trans0 o17
      have nc := hid (nil_compact w17 _ b (hb.kept0 O17) (by omega) (by omega))
      go_wp2_with fail
      with_reducible refine nc.out.mono ?_
      rintro e w18 ⟨rfl, o18⟩
      have O18 := O17.trans0 o18
      go_wp2_with fail
      with_reducible refine (nil_records w18).mono ?_
      rintro e w' ⟨rfl, rfl⟩
      go_wp2_with fail
      with_reducible refine (nil_fast _).mono ?_
      rintro e w' ⟨rfl, rfl⟩
      go_wp2_with fail
      with_reducible refine (nil_disk _).mono ?_
      rintro e w19 ⟨rfl, o19⟩
      have hfd := field_nil
      go_wp2
      go_ret
      exact ⟨rfl, O18.trans0 o19⟩

set_option maxRecDepth 20000 in
set_option maxHeartbeats 3200000 in
theorem journalOwn_walk (w : World) {v : Value} {b : List UInt8} {xz : Int} (hb : Bs w v b) (hx : (Lit.int .u8 xz).wf = true) :
    Calls Try.prog 8 #[v, .int .u8 xz] w fun e w' => e = .returned (.bool true) ∧ Only [] w w' := by
  obtain ⟨x, rfl⟩ := u8_of (wfu8 hx)
  clear hx
  by_cases q0 : b.length = 0
  · obtain ⟨ba, bc, rfl⟩ := bs_form hb
    go_enter Try.func8, Try.ntmps8
    go_wp2_with fail
    refine (awake12_any _).mono ?_
    rintro e w1 ⟨rfl, ho1⟩
    go_wp2_with fail
    refine (awake12_any _).mono ?_
    rintro e w2 ⟨rfl, ho2⟩
    go_wp2
    go_ret
    exact ⟨rfl, ho1.trans0 ho2⟩
  have q2 : ¬ b.length < 1 := by omega
  by_cases q3 : 60 < b.length
  · obtain ⟨ba, bc, rfl⟩ := bs_form hb
    clear q0
    go_enter Try.func8, Try.ntmps8
    go_wp2_with fail
    refine (awake12_any _).mono ?_
    rintro e w1 ⟨rfl, ho1⟩
    go_wp2_with fail
    refine (awake12_any _).mono ?_
    rintro e w2 ⟨rfl, ho2⟩
    go_wp2
    go_ret
    exact ⟨rfl, ho1.trans0 ho2⟩
  exact journalOwn_mid w hb q2 q3
end Go.Proofs.Ytlcfmocojakhpaa.Sh
