/- Of any bytes all frames that are whole are the document's: the law's walk. -/
import Derived.Test.YtcceiejfphokbaaCrcAwake
import Derived.Test.YtcceiejfphokbaaRefC
import Derived.Test.YtcceiejfphokbaaPlAll
import Derived.Test.YtcceiejfphokbaaLists
namespace Go.Proofs.Ytcceiejfphokbaa.Sh
open Go Go.RowKit

/-- The frames of the first bodies, one behind the other. -/
def flatL (ls : List (List UInt8)) : List UInt8 := (ls.map frameL).flatten
theorem flatL_succ (ls : List (List UInt8)) (k : Nat) (h : k < ls.length) : flatL (ls.take (k + 1)) = flatL (ls.take k) ++ frameL ls[k] := by
  unfold flatL
  rw [List.take_succ_eq_append_getElem h, List.map_append, List.flatten_append]
  simp
theorem flatL_le (ls : List (List UInt8)) (k : Nat) : (flatL (ls.take k)).length ≤ (flatL ls).length := by
  have : flatL ls = flatL (ls.take k) ++ flatL (ls.drop k) := by
    unfold flatL
    rw [← List.flatten_append, ← List.map_append, List.take_append_drop]
  rw [this, List.length_append]; omega

set_option maxHeartbeats 1600000 in
theorem crcAll_mid (w : World) {v : Value} {b : List UInt8} (hv : Bs w v b) (hb : b.length ≤ 1200) :
    Calls Try.prog 8 #[v] w fun e w' => e = .returned (.bool true) ∧ Only [] w w' := by
  obtain ⟨_, a, cap, rfl, h1, h2, h3, _⟩ := id hv
  have hA1 : ¬ 1200 < b.length := by omega
  have hle := allL_le _ b (Nat.le_refl _)
  have hfl := allL_flat _ b (Nat.le_refl _)
  go_enter Try.func8, Try.ntmps8
  go_wp2_with fail
  refine (awake09_any w).mono ?_
  rintro e w1 ⟨rfl, ho1⟩
  go_wp2_with fail
  refine (all_any _ b _ (hv.kept0 ho1) (by omega)).mono ?_
  rintro e w2 ⟨v2, rfl, hown2, hp2⟩
  have ho2 := ho1.trans0 hp2
  go_wp2_with fail
  refine (refAll_any _ b _ (hv.kept0 ho2) (by omega)).mono ?_
  rintro e w3 ⟨v3, rfl, hown3, hp3⟩
  have ho3 := ho2.trans0 hp3
  obtain ⟨ls, hls⟩ : ∃ ls, ls = (allL b).1 := ⟨_, rfl⟩
  obtain ⟨n, hn⟩ : ∃ n, n = (allL b).2 := ⟨_, rfl⟩
  rw [← hls, ← hn] at hle hfl
  rw [← hls] at hown2 hown3
  rw [← hn]
  have HF := hid hfl.1
  have HG := hid hfl.2
  clear hfl hls hn
  have hB2 := hown2.bss (by omega)
  go_wp2_with fail
  refine (lists_any _ _ ls ls _ (hB2.kept0 hp3) (hown3.bss (by omega))).mono ?_
  rintro e w4 ⟨rfl, hp4⟩
  rw [decide_eq_true (rfl : ls = ls)]
  have ho4 := ho3.trans0 hp4
  have hl2 : Bss w4 v2 ls := (hB2.kept0 hp3).kept0 hp4
  obtain ⟨a2, cap2, rfl, _, _, _⟩ := hl2.form
  have hnn : ((n : Int) != (n : Int)) = false := by simp
  have hfe : (flatL ls).length = n := by
    rw [flatL, HF.out]; simp; omega
  have HE := hid hfe
  clear hB2 hown2 hown3 hfe hp3 hp4 hp2 ho1
  go_wp2_with fail
  go_loopw [7, 40] (fun out i wr => ∃ k : Nat, k ≤ ls.length ∧ i = .int .i64 k ∧ Only [] w4 wr ∧ wr.ownsRow w4.heap.size 5 1 out (flatL (ls.take k)).length (bytes (flatL (ls.take k)))) (fun _ i _ => ls.length - (intOf i).toNat)
  case atStart => exact ⟨0, Nat.zero_le _, rfl, Only.refl _ _, World.ownsRow_nil _ _ _ _⟩
  case round =>
    obtain ⟨k, hk, rfl, ho, hout⟩ := hrel
    by_cases hlt : k < ls.length
    · obtain ⟨b', o', x, rfl, hd, hxB⟩ := (hl2.kept0 ho).at k hlt
      have hs := HG.out _ (List.getElem_mem hlt)
      have hsucc := hid (flatL_succ ls k hlt)
      have hlen := flatL_le ls k
      have hlen2 := flatL_le ls (k + 1)
      have hfe := HE.out
      rw [hsucc.out] at hlen2
      obtain ⟨l, hl⟩ : ∃ l, l = ls[k] := ⟨_, rfl⟩
      rw [← hl] at hs hxB hlen2 hsucc
      obtain ⟨f, hf⟩ : ∃ f, f = flatL (ls.take k) := ⟨_, rfl⟩
      rw [← hf] at hout hlen hlen2 hsucc
      rw [List.length_append] at hlen2
      clear hl hf
      go_wp2_with fail
      refine (frame_good _ l _ hxB hs.1 hs.2).mono ?_
      rintro e w5 ⟨v5, rfl, hf5, hp5⟩
      have ho5 := ho.trans0 hp5
      have hs5 := ho5.size
      go_wp2_with (at_builtin; refine wpList_app (by rfl) _ _ 22 (by rfl) w4.heap.size 5 1 1 el_u8 (by rfl) (own_only0 hout hp5) (by rfl) (hf5.bs (by omega)) (bytes_one _) (by omega) (by omega) (by omega) ?_; intro v6 w6 hown6 happ6)
      have ho6 : Only [] w4 w6 := ho5.app happ6 (fun i hi => .inr ((own_only0 hout hp5).lt i hi).1)
      go_roundw
      case rel => exact ⟨k + 1, by omega, by go_num, ho6, own_cast hown6 (by rw [hsucc.out]; simp) (by rw [hsucc.out]; simp [bytes])⟩
      case measure => simp [intOf]; omega
    · obtain rfl : k = ls.length := by omega
      have hout' : Bs wr _ _ := Cs.of_own hout (by rw [List.take_length, HE.out]; omega)
      rw [List.take_length] at hout'
      have hsub := (hv.kept0 (ho4.trans0 ho)).pre n (by omega)
      go_wp2_with fail
      refine (same_any _ _ _ _ _ hout' hsub).mono ?_
      rintro e w7 ⟨rfl, hp7⟩
      rw [decide_eq_true (show flatL ls = b.take n from HF.out)]
      go_wp2
      go_ret
      exact ⟨rfl, (ho4.trans0 ho).trans0 hp7⟩
theorem crcAll_any (w : World) {v : Value} {b : List UInt8} (hv : Bs w v b) (h : ¬ b.length ≤ 1200) :
    Calls Try.prog 8 #[v] w fun e w' => e = .returned (.bool true) ∧ Only [] w w' := by
  obtain ⟨_, xa, xc, rfl, h1, h2, h3, _⟩ := id hv
  have hA1 : (1200 : Int) < (b.length : Int) := by omega
  go_enter Try.func8, Try.ntmps8
  go_wp2_with fail
  refine (awake09_any w).mono ?_
  rintro e w1 ⟨rfl, ho1⟩
  go_wp2_with fail
  refine (awake09_any w1).mono ?_
  rintro e w2 ⟨rfl, ho2⟩
  go_wp2
  go_ret
  exact ⟨rfl, ho1.trans0 ho2⟩
theorem crcAll_walk (w : World) {v : Value} {b : List UInt8} (hv : Bs w v b) :
    Calls Try.prog 8 #[v] w fun e w' => e = .returned (.bool true) ∧ Only [] w w' := by
  by_cases h : b.length ≤ 1200
  · exact crcAll_mid w hv h
  · exact crcAll_any w hv h
end Go.Proofs.Ytcceiejfphokbaa.Sh
