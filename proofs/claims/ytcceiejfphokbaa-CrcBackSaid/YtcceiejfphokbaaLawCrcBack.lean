/- Frames laid one behind the other are read, in order; cut off anywhere the ones ahead are: the law's walk. -/
import Derived.Test.YtcceiejfphokbaaLawCrcAll
namespace Go.Proofs.Ytcceiejfphokbaa.Sh
open Go Go.RowKit

theorem flatL_cons (x : List UInt8) (r : List (List UInt8)) : flatL (x :: r) = frameL x ++ flatL r := by simp [flatL]
theorem flatL_append (x r : List (List UInt8)) : flatL (x ++ r) = flatL x ++ flatL r := by simp [flatL]

theorem allL_pre (ls : List (List UInt8)) (r : List UInt8) (h : ∀ x ∈ ls, 1 ≤ x.length ∧ x.length ≤ 1000) : allL (flatL ls ++ r) = (ls ++ (allL r).1, (flatL ls).length + (allL r).2) := by
  induction ls with
  | nil => simp [flatL]
  | cons x t ih =>
    have hx := h x (by simp)
    rw [flatL_cons, List.append_assoc, allL_append _ _ hx.1 hx.2, ih (fun y hy => h y (by simp [hy]))]
    simp [frameL_length, Nat.add_assoc]

/-- What is whole of frames cut off. -/
theorem allL_cutAt (ls : List (List UInt8)) (h : ∀ x ∈ ls, 1 ≤ x.length ∧ x.length ≤ 1000) (k m : Nat) (hm : (flatL (ls.take m)).length ≤ k) (hn : m < ls.length → k < (flatL (ls.take (m + 1))).length) :
    allL ((flatL ls).take k) = (ls.take m, (flatL (ls.take m)).length) := by
  have e : flatL ls = flatL (ls.take m) ++ flatL (ls.drop m) := by rw [← flatL_append, List.take_append_drop]
  rw [e, List.take_append, List.take_of_length_le hm, allL_pre _ _ (fun x hx => h x (List.mem_of_mem_take hx))]
  by_cases hl : m < ls.length
  · have hx := h _ (List.getElem_mem hl)
    have := hn hl
    rw [flatL_succ ls m hl, List.length_append, frameL_length] at this
    rw [List.drop_eq_getElem_cons hl, flatL_cons, allL_bad _ (firstL_cut _ _ _ hx.1 hx.2 (by omega))]
    simp
  · rw [List.drop_of_length_le (by omega)]
    simp [flatL, allL_bad [] (by simp [firstL])]

/-- Where the first frames end. -/
def endsL (ls : List (List UInt8)) (k : Nat) : List Nat := (List.range k).map fun i => (flatL (ls.take (i + 1))).length
def intsV (l : List Nat) : List Value := l.map fun n : Nat => Value.int .i64 (n : Int)
theorem endsL_succ (ls : List (List UInt8)) (k : Nat) : endsL ls (k + 1) = endsL ls k ++ [(flatL (ls.take (k + 1))).length] := by simp [endsL, List.range_succ]
theorem endsL_length (ls : List (List UInt8)) (k : Nat) : (endsL ls k).length = k := by simp [endsL]
theorem endsL_get (ls : List (List UInt8)) (k i : Nat) (h : i < k) : (intsV (endsL ls k))[i]? = some (.int .i64 ((flatL (ls.take (i + 1))).length : Int)) := by
  simp [endsL, intsV, h]

theorem el_int : El Try.prog 46 3 1 8 := el_mk (z := .int .i64 0) Try.underlying46 (by kernel_rfl) rfl (by omega)

theorem Bss.pre {w : World} {a : Option Addr} {cap n : Nat} {ls : List (List UInt8)} (h : Bss w (.slice a n cap) ls) (m : Nat) (hm : m ≤ ls.length) : Bss w (.slice a m cap) (ls.take m) := by
  obtain ⟨vs, ⟨hl, a', cap', he, h1, h2, h3, h4⟩, hall⟩ := h
  simp only [Value.slice.injEq] at he
  obtain ⟨rfl, _, rfl⟩ := he
  have hml : (ls.take m).length = m := by simp; omega
  refine ⟨vs.take m, ⟨by simp; omega, a, cap, by rw [hml], by omega, h2, by omega, ?_⟩, hall.take m⟩
  rcases h4 with h4 | ⟨b, o, rfl, h4⟩
  · left; simp [h4]
  · right
    refine ⟨b, o, rfl, fun j u hj => h4 j u ?_⟩
    rw [List.getElem?_take] at hj
    split at hj
    · exact hj
    · cases hj

theorem flatL_small (ls : List (List UInt8)) (h : ∀ x ∈ ls, 1 ≤ x.length ∧ x.length ≤ 60) : (flatL ls).length ≤ 66 * ls.length := by
  induction ls with
  | nil => simp [flatL]
  | cons x t ih =>
    have := ih (fun y hy => h y (by simp [hy]))
    have hx := h x (by simp)
    rw [flatL_cons, List.length_append, frameL_length, List.length_cons]
    omega

/-- The end of the last frame that is whole, as the law's own loop finds it. -/
def Whole (ls : List (List UInt8)) (k j m : Nat) : Prop := m ≤ j ∧ (flatL (ls.take m)).length ≤ k ∧ (m < j → k < (flatL (ls.take (m + 1))).length)

set_option maxHeartbeats 3200000 in
theorem crcBack_mid (w : World) {v : Value} {ls : List (List UInt8)} {cut : Nat} (hv : Bss w v ls) (hl : ls.length ≤ 12) (hcut : cut < 18446744073709551616) :
    Calls Try.prog 9 #[v, .int .u64 cut] w fun e w' => e = .returned (.bool true) ∧ Only [] w w' := by
  obtain ⟨a, cap, rfl, h1, h2, h3⟩ := hv.form
  have hA1 : ¬ 12 < ls.length := by omega
  go_enter Try.func9, Try.ntmps9
  go_wp2_with fail
  refine (awake09_any w).mono ?_
  rintro e w1 ⟨rfl, ho1⟩
  go_wp2_with fail
  go_loopw [5, 6, 28] (fun b ends i wr => ∃ k : Nat, k ≤ ls.length ∧ i = .int .i64 k ∧ Only [] w1 wr ∧ Hid (∀ x ∈ ls.take k, 1 ≤ x.length ∧ x.length ≤ 60) ∧ wr.ownsRow w1.heap.size 5 1 b (flatL (ls.take k)).length (bytes (flatL (ls.take k))) ∧ wr.ownsRow w1.heap.size 3 1 ends k (intsV (endsL ls k))) (fun _ _ i _ => ls.length - (intOf i).toNat)
  case atStart => exact ⟨0, Nat.zero_le _, rfl, Only.refl _ _, by simp [Hid], World.ownsRow_nil _ _ _ _, World.ownsRow_nil _ _ _ _⟩
  case round =>
    obtain ⟨k, hk, rfl, ho, hsm, hb, hends⟩ := hrel
    by_cases hlt : k < ls.length
    · obtain ⟨b', o', x, rfl, hd, hxB⟩ := ((hv.kept0 ho1).kept0 ho).at k hlt
      have hsucc := hid (flatL_succ ls k hlt)
      have hes := hid (endsL_succ ls k)
      have hmem := hid (List.take_succ_eq_append_getElem hlt)
      have hfs := flatL_small _ hsm.out
      rw [List.length_take] at hfs
      obtain ⟨l, hl⟩ : ∃ l, l = ls[k] := ⟨_, rfl⟩
      rw [← hl] at hxB hsucc hmem
      obtain ⟨_, xa, xc, rfl, hx1, hx2, hx3, _⟩ := id hxB
      obtain ⟨f, hf⟩ : ∃ f, f = flatL (ls.take k) := ⟨_, rfl⟩
      rw [← hf] at hb hfs hsucc
      clear hl hf
      by_cases hz : l.length < 1 ∨ 1000 < l.length
      · go_wp2_with fail
        refine (frame_bad _ l _ hxB hz).mono ?_
        rintro e w5 ⟨rfl, rfl⟩
        rcases hz with hz | hz
        · have hz' : ((l.length : Int) == 0) = true := by rw [beq_iff_eq]; omega
          go_wp2
          go_ret
          exact ⟨rfl, ho1.trans0 ho⟩
        · have hne : ((l.length : Int) == 0) = false := by rw [beq_eq_false_iff_ne]; omega
          have hgt : (60 : Int) < (l.length : Int) := by omega
          go_wp2
          go_ret
          exact ⟨rfl, ho1.trans0 ho⟩
      · go_wp2_with fail
        refine (frame_good _ l _ hxB (by omega) (by omega)).mono ?_
        rintro e w5 ⟨v5, rfl, hf5, hp5⟩
        have ho5 := ho.trans0 hp5
        have hs5 := ho5.size
        have hd5 := hp5.cell hd (by simp)
        by_cases hgt : 60 < l.length
        · have hne : ((l.length : Int) == 0) = false := by rw [beq_eq_false_iff_ne]; omega
          go_wp2
          go_ret
          exact ⟨rfl, ho1.trans0 ho5⟩
        · have hfl : (frameL l).length = 6 + l.length := frameL_length l
          have HFL := hid hfl
          have hb5 := own_only0 hb hp5
          have hends5 := own_only0 hends hp5
          clear hfl
          go_wp2_with (first
            | (at_builtin; refine wpList_app (by rfl) _ _ 22 (by rfl) w1.heap.size 5 1 1 el_u8 (by rfl) hb5 (by rfl) (Cs.cast (hf5.bs (by rw [HFL.out]; omega)) HFL.out rfl) (bytes_one _) (by omega) (by omega) (by omega) ?_; intro v6 w6 hown6 happ6; have hends6 := happ6.other hends5 (own_ne hends5 hb5 (by decide)); have hown6 := own_cast hown6 (show _ = f.length + (6 + l.length) by omega) rfl; obtain ⟨a6, c6, rfl⟩ := own_form hown6; have hs6 := happ6.grown.size; have ho6 : Only [] w1 w6 := ho5.app happ6 (fun i hi => .inr (hb5.lt i hi).1); clear hb5)
            | (at_builtin; refine wpList_app1 (by rfl) _ _ 46 (by rfl) w1.heap.size 3 1 8 el_int (by rfl) hends6 [_] (by rfl) rfl (one1 rfl) (by omega) (by omega) (by omega) ?_; intro v7 w7 hown7 happ7))
          have ho7 : Only [] w1 w7 := ho6.app happ7 (fun i hi => .inr (hends6.lt i hi).1)
          have hown67 := happ7.other hown6 (own_ne hown6 hends6 (by decide))
          go_roundw
          case rel =>
            refine ⟨k + 1, by omega, by go_num, ho7, ?_, ?_, ?_⟩
            · intro x hx
              rw [hmem.out, List.mem_append, List.mem_singleton] at hx
              rcases hx with hx | rfl
              · exact hsm.out x hx
              · omega
            · rw [hsucc.out]
              exact own_cast hown67 (by rw [List.length_append, HFL.out]) (by simp [bytes])
            · rw [hes.out]
              exact own_cast hown7 rfl (by simp [intsV, hsucc.out, HFL.out])
          case measure => simp [intOf]; omega
    · obtain rfl : k = ls.length := by omega
      rw [List.take_length] at hsm hb
      have hfs := flatL_small _ hsm.out
      have HSM : Hid (∀ x ∈ ls, 1 ≤ x.length ∧ x.length ≤ 1000) := fun x hx => by have := hsm.out x hx; omega
      obtain ⟨f, hf⟩ : ∃ f, f = flatL ls := ⟨_, rfl⟩
      rw [← hf] at hb hfs
      have HF := hid hf
      have hbB : Bs wr _ f := Cs.of_own hb (by omega)
      obtain ⟨ba, bc, rfl⟩ := own_form hb
      obtain ⟨K, hK⟩ : ∃ K, K = cut % (f.length + 1) := ⟨_, rfl⟩
      have hKl : K ≤ f.length := by have := Nat.mod_lt cut (show 0 < f.length + 1 by omega); omega
      have hKe : (cut : Int) % ((f.length : Int) + 1) = (K : Int) := by
        rw [hK, show ((f.length : Int) + 1) = ((f.length + 1 : Nat) : Int) by omega]
        exact (Int.natCast_emod _ _).symm
      obtain ⟨ea, ec, rfl⟩ := own_form hends
      obtain ⟨_, _, hbc1, hbc2, _⟩ : ∃ b o, f.length ≤ bc ∧ bc ≤ maxLen ∧ True := by
        obtain ⟨_, _, _, he, h6, h7, _, _⟩ := hbB
        simp only [Value.slice.injEq] at he
        obtain ⟨_, _, rfl⟩ := he
        exact ⟨0, 0, h6, h7, trivial⟩
      have ho' := ho1.trans0 ho
      clear hK hf hsm
      go_wp2_with fail
      clear hKe
      go_loopw [11, 12, 81] (fun wh n i ws => ∃ j m : Nat, j ≤ ls.length ∧ i = .int .i64 j ∧ wh = .int .i64 m ∧ n = .int .i64 ((flatL (ls.take m)).length : Int) ∧ Hid (Whole ls K j m) ∧ Only [] wr ws) (fun _ _ i _ => ls.length - (intOf i).toNat)
      case atStart => exact ⟨0, 0, Nat.zero_le _, rfl, rfl, by simp [flatL], ⟨Nat.le_refl _, by simp [flatL], by simp⟩, Only.refl _ _⟩
      case round =>
        obtain ⟨j, m, hj, rfl, rfl, rfl, hW, hos⟩ := hrel
        have hfm := flatL_le ls m
        rw [← HF.out] at hfm
        by_cases hjl : j < ls.length
        · obtain ⟨g, ec', he, _, _, _, _, hcells⟩ := own_at hends (by omega)
          obtain ⟨rfl, rfl⟩ : ea = some ⟨g, 0, none⟩ ∧ ec = ec' := by simpa using he
          obtain ⟨hc, _⟩ := hcells j _ (endsL_get ls ls.length j hjl)
          have hc := hos.cell hc (by simp)
          have hfj := flatL_le ls (j + 1)
          rw [← HF.out] at hfj
          have hw := hW.out
          obtain ⟨e, hee⟩ : ∃ e, e = (flatL (ls.take (j + 1))).length := ⟨_, rfl⟩
          rw [← hee] at hc hfj
          have hfe := hid hee
          have hj0 : (0 : Int) ≤ (j : Int) := by omega
          have hjl' : (j : Int) < (ls.length : Int) := by omega
          have hwr : IntKind.i64.wrap ((j : Int) + 1) = (j : Int) + 1 := IntWalk.i64_in _ (by omega)
          by_cases hle : e ≤ K
          · have HW := hid (show Whole ls K (j + 1) (j + 1) from ⟨Nat.le_refl _, by rw [← hee]; exact hle, fun h => absurd h (Nat.lt_irrefl _)⟩)
            clear hw hee hcells he
            go_wp2_with fail
            go_region_held3 (fun w' => w'.cell? ⟨g, j, none⟩ = some (.int .i64 e)) (exact hc) (fail)
            go_wp2
            go_roundw
            case rel => exact ⟨j + 1, j + 1, by omega, by go_num, by go_num, by rw [hfe.out], HW, hos.drew⟩
            case measure => simp [intOf]; omega
          · have HW := hid (show Whole ls K (j + 1) m from ⟨by have := hw.1; omega, hw.2.1, fun h => by
              by_cases hmj : m < j
              · exact hw.2.2 hmj
              · obtain rfl : m = j := by have := hw.1; omega
                omega⟩)
            clear hw hee hcells he
            go_wp2
            go_roundw
            case rel => exact ⟨j + 1, m, by omega, by go_num, rfl, rfl, HW, hos⟩
            case measure => simp [intOf]; omega
        · obtain rfl : j = ls.length := by omega
          have hw := hW.out
          have hml : m ≤ ls.length := hw.1
          have hall := hid (allL_frames ls HSM.out)
          have hcutA := hid (allL_cutAt ls HSM.out K m hw.2.1 hw.2.2)
          obtain ⟨q, hq⟩ : ∃ q, q = (flatL (ls.take m)).length := ⟨_, rfl⟩
          rw [← hq] at hfm hcutA ⊢
          have HL : Hid (allL f = (ls, f.length)) := by have := hall.out; rw [HF.out]; exact this
          have HC : Hid (allL (f.take K) = (ls.take m, q)) := by rw [HF.out]; exact hcutA.out
          have hos' := ho'.trans0 hos
          have hff : ((f.length : Int) == (f.length : Int)) = true := by simp
          have hqq : ((q : Int) == (q : Int)) = true := by simp
          clear hw hall hcutA hq
          go_wp2_with fail
          refine (all_any _ f _ (hbB.kept0 hos) (by omega)).mono ?_
          rintro e w6 ⟨v6, rfl, hown6, hp6⟩
          rw [HL.out] at hown6
          rw [HL.out]
          have ho6 := hos.trans0 hp6
          have hsub := (hbB.kept0 ho6).pre K hKl
          go_wp2_with fail
          refine (all_any _ _ _ hsub (by rw [List.length_take]; omega)).mono ?_
          rintro e w7 ⟨v7, rfl, hown7, hp7⟩
          rw [HC.out] at hown7
          rw [HC.out]
          have ho7 := ho6.trans0 hp7
          have hB6 := (hown6.bss (by omega)).kept0 hp7
          have hB7 := hown7.bss (by simp only [List.length_take]; omega)
          go_wp2_with fail
          refine (lists_any _ _ ls ls _ hB6 (((hv.kept0 ho1).kept0 ho).kept0 ho7)).mono ?_
          rintro e w8 ⟨rfl, hp8⟩
          rw [decide_eq_true (rfl : ls = ls)]
          have hpre := ((((hv.kept0 ho1).kept0 ho).kept0 ho7).kept0 hp8).pre m hml
          go_wp2_with fail
          refine (lists_any _ _ (ls.take m) (ls.take m) _ (hB7.kept0 hp8) hpre).mono ?_
          rintro e w9 ⟨rfl, hp9⟩
          rw [decide_eq_true (rfl : ls.take m = ls.take m)]
          go_wp2
          go_ret
          exact ⟨rfl, ((ho'.trans0 ho7).trans0 hp8).trans0 hp9⟩

theorem crcBack_any (w : World) {v : Value} {ls : List (List UInt8)} {cut : Nat} (hv : Bss w v ls) (h : ¬ ls.length ≤ 12) (hcut : cut < 18446744073709551616) :
    Calls Try.prog 9 #[v, .int .u64 cut] w fun e w' => e = .returned (.bool true) ∧ Only [] w w' := by
  obtain ⟨xa, xc, rfl, h1, h2, h3⟩ := hv.form
  have hA1 : (12 : Int) < (ls.length : Int) := by omega
  go_enter Try.func9, Try.ntmps9
  go_wp2_with fail
  refine (awake09_any w).mono ?_
  rintro e w1 ⟨rfl, ho1⟩
  go_wp2_with fail
  refine (awake09_any w1).mono ?_
  rintro e w2 ⟨rfl, ho2⟩
  go_wp2
  go_ret
  exact ⟨rfl, ho1.trans0 ho2⟩

theorem crcBack_walk (w : World) {v : Value} {ls : List (List UInt8)} {cut : Int} (hv : Bss w v ls) (hc : (Lit.int .u64 cut).wf = true) :
    Calls Try.prog 9 #[v, .int .u64 cut] w fun e w' => e = .returned (.bool true) ∧ Only [] w w' := by
  obtain ⟨c, rfl, hc'⟩ : ∃ c : Nat, cut = c ∧ c < 18446744073709551616 := by
    simp only [Lit.wf, Bool.and_eq_true, decide_eq_true_eq] at hc
    have h1 : IntKind.u64.min = 0 := rfl
    have h2 : IntKind.u64.max = 18446744073709551615 := rfl
    exact ⟨cut.toNat, by omega, by omega⟩
  by_cases h : ls.length ≤ 12
  · exact crcBack_mid w hv h hc'
  · exact crcBack_any w hv h hc'
end Go.Proofs.Ytcceiejfphokbaa.Sh
