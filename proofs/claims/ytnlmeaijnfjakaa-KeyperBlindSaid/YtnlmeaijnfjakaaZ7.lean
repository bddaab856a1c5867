/- Texts of this proof, merged: KqB. -/
import Derived.Test.YtnlmeaijnfjakaaZ6
/- What both laws of a keyper alone need: a crash and what is opened behind it; the orders that were told. -/
namespace Go.Proofs.Ytnlmeaijnfjakaa.Sh
set_option linter.unusedSimpArgs false
set_option linter.unusedVariables false
open Go Go.RowKit
open Go.Maps (Keyed)

theorem crashL_none (f : List UInt8) (keep : Int) (torn : UInt8) : crashL f [] keep torn = f := by
  have h : keepN keep ([] : List UInt8).length = 0 := by unfold keepN; simp; omega
  unfold crashL
  rw [h]
  simp
theorem open_flat (rs : List (List UInt8)) (h : ∀ r ∈ rs, 1 ≤ r.length ∧ r.length ≤ 1000) : (allL (flatL rs ++ [])).1 = rs := by
  rw [List.append_nil]
  have := allL_frames rs h
  show (allL (rs.map frameL).flatten).1 = rs
  rw [this]

section
variable (w W : World) (k : Nat) (rs : List (List UInt8)) (B : List Nat) (n : Nat)
theorem ky_disk (h : Ky w W k rs B) (hn : Few n rs) (hn2 : n ≤ 200) :
    Calls Try.prog 19 #[.pointer (some ⟨k, 0, none⟩)] W fun e w' => ∃ fv lv, e = .returned (dskV fv lv) ∧ Fresh W w' fv (flatL rs) ∧ Fresh W w' lv [] ∧ Only [] W w' := by
  have h1 := hn.1
  exact mdisk_any W k rs B h.kb (by omega)
theorem ky_crash (hn : Few n rs) (hn2 : n ≤ 200) (fv lv : Value) (hf : Bs W fv (flatL rs)) (hl : Bs W lv []) (keep : Int) (hk : -9223372036854775808 ≤ keep ∧ keep ≤ 9223372036854775807) (torn : UInt8) :
    Calls Try.prog 27 #[dskV fv lv, .int .i64 keep, .int .u8 (torn.toNat : Int)] W fun e w' => ∃ fv', e = .returned (dskV fv' (.slice none 0 0)) ∧ Bs w' fv' (flatL rs) ∧ Only [] W w' := by
  have h1 := hn.1
  refine (dcrash_any W fv lv (flatL rs) [] keep torn hf hl hk (by simp; omega)).mono ?_
  rintro e w' ⟨fv', rfl, h2, h3⟩
  rw [crashL_none] at h2
  exact ⟨fv', rfl, h2.bs (by omega), h3⟩
theorem ky_reopen (ho : Only [] w W) (hn : Few n rs) (hn2 : n ≤ 200) (h1 : ∀ r ∈ rs, 1 ≤ r.length ∧ r.length ≤ 1000) (fv : Value) (hf : Bs W fv (flatL rs)) :
    Calls Try.prog 11 #[dskV fv (.slice none 0 0)] W fun e w' => ∃ k B, e = .returned (.pointer (some ⟨k, 0, none⟩)) ∧ Ky w w' k rs B ∧ (∀ i ∈ B, W.heap.size ≤ i) ∧ Only [] W w' := by
  have h2 := hn.1
  have := ky_open w W ho fv (.slice none 0 0) (flatL rs) [] hf (Bs.empty (by unfold maxLen; omega)) (by simp; omega)
  rwa [open_flat rs h1] at this
end

/-! the orders that were told -/
def encO (p : Nat × List UInt8) : Value × Value := (.int .u64 (p.1 : Int), .string (strB p.2))
structure OrdI (m : Km) (os : List (Nat × List UInt8)) : Prop where
  nodup : (os.map (·.1)).Nodup
  all : ∀ p ∈ os, p.1 < 18446744073709551616 ∧ p.1 ≤ m.slot ∧ m.told = true ∧ (p.1 = m.slot → p.2.map nm = m.ids)
theorem keyed_u64 : Keyed Try.prog 30 := Go.Maps.int_keyed Try.underlying30
theorem key_u64 (a : Nat) (h : a < 18446744073709551616) : keyOf Try.prog 30 (.int .u64 (a : Int)) = some (.int .u64 (a : Int)) :=
  Go.Maps.keyOf_int_mk Try.underlying30 (WalkArith.wf_u64 (by omega))
theorem zero_str (w : World) : (zeroValue 9).run Try.prog w = .ok (.string ByteArray.empty) w := by kernel_rfl
theorem encO_keys {os : List (Nat × List UInt8)} (h : (os.map (·.1)).Nodup) : ((os.map encO).map (·.1)).Nodup := by
  rw [List.map_map]
  have : os.map ((fun x => x.1) ∘ encO) = (os.map (·.1)).map (fun (a : Nat) => Value.int .u64 (a : Int)) := by rw [List.map_map]; rfl
  rw [this]
  refine List.Pairwise.map _ (fun a b hne e => hne ?_) h
  simp only [Value.int.injEq, true_and] at e
  omega
theorem commitK_ok {m : Km} {slot : Nat} {ids : List (List UInt8)} (h : (commitK m slot ids).1.2 = 0) :
    ¬ (m.told = true ∧ slot < m.slot) ∧ ((m.told = true ∧ slot = m.slot ∧ ids = m.ids ∧ (commitK m slot ids).2 = m) ∨ (¬ (m.told = true ∧ slot = m.slot) ∧ (commitK m slot ids).2 = { m with slot := slot, ids := ids, told := true })) := by
  unfold commitK at h ⊢
  split at h
  · simp at h
  · rename_i h1
    split at h
    · simp at h
    · rename_i h2
      rw [if_neg h1, if_neg h2]
      refine ⟨h2, ?_⟩
      split at h
      · rename_i h3
        rw [if_pos h3]
        split at h
        · rename_i h4
          rw [if_pos h4]
          exact .inl ⟨h3.1, h3.2, h4, rfl⟩
        · simp at h
      · rename_i h3
        rw [if_neg h3]
        exact .inr ⟨h3, rfl⟩
theorem commitK_bad {m : Km} {slot : Nat} {ids : List (List UInt8)} (h : (commitK m slot ids).1.2 ≠ 0) : (commitK m slot ids).2 = m := by
  apply commitK_ne
  unfold commitK at h ⊢
  split
  · rfl
  · rename_i h1
    rw [if_neg h1] at h
    split
    · rfl
    · rename_i h2
      rw [if_neg h2] at h
      split
      · split <;> rfl
      · rename_i h3
        rw [if_neg h3] at h
        simp at h

theorem OrdI.step {w : World} {mb : Nat} {m : Km} {os : List (Nat × List UInt8)} (hm : Mp Try.prog 30 w mb (os.map encO)) (h : OrdI m os) (slot : Nat) (hs : slot < 18446744073709551616) (L : List UInt8) (hc : (commitK m slot (L.map nm)).1.2 = 0) :
    ∃ (v : ByteArray) (ok : Bool), (∀ W, Only [] w W → (Instr.lookup 62 (.map (some mb)) (.int .u64 (slot : Int)) true).run Try.prog W = .ok (.tuple #[.string v, .bool ok]) W) ∧ (ok = true → v = strB L ∧ m.told = true) ∧ ¬ (m.told = true ∧ slot < m.slot) ∧
      ∀ W, Only [] w W → ∃ W' os', (Instr.mapUpdate 62 (.map (some mb)) (.int .u64 (slot : Int)) (.string (strB L))).run Try.prog W = .ok () W' ∧ Mp Try.prog 30 W' mb (os'.map encO) ∧ OrdI (commitK m slot (L.map nm)).2 os' ∧ Only [mb] W W' ∧ W'.heap.size = W.heap.size := by
  obtain ⟨hlt, hcase⟩ := commitK_ok hc
  have ht := Try.underlying62
  by_cases hin : slot ∈ os.map (·.1)
  · obtain ⟨p, hp, hpe⟩ := List.mem_map.1 hin
    obtain ⟨q1, q2, q3, q4⟩ := h.all p hp
    have hsl : slot = m.slot := by
      rcases Nat.lt_or_ge slot m.slot with h9 | h9
      · exact absurd ⟨q3, h9⟩ hlt
      · omega
    have hL : p.2 = L ∧ (commitK m slot (L.map nm)).2 = m := by
      rcases hcase with ⟨_, _, h3, h4⟩ | ⟨h3, _⟩
      · exact ⟨nms_inj (by rw [q4 (by omega), ← h3]), h4⟩
      · exact absurd ⟨q3, hsl⟩ h3
    obtain ⟨i, hi⟩ := List.getElem?_of_mem hp
    have hpp : p = (slot, L) := by rw [← hpe, ← hL.1]
    have hie : (os.map encO)[i]? = some (.int .u64 (slot : Int), .string (strB L)) := by rw [List.getElem?_map, hi, hpp]; rfl
    refine ⟨strB L, true, fun W hW => ?_, fun _ => ⟨rfl, q3⟩, hlt, fun W hW => ?_⟩
    · have := (hm.kept0 hW).look_some keyed_u64 ht (key_u64 slot hs) (encO_keys h.nodup) hie true
      simpa using this
    · obtain ⟨W', h1, h2, h3, h4⟩ := (hm.kept0 hW).put_old keyed_u64 ht (key_u64 slot hs) (encO_keys h.nodup) hie (.string (strB L))
      refine ⟨W', os, h1, ?_, by rw [hL.2]; exact h, h3, h4⟩
      obtain ⟨hil, hie'⟩ := List.getElem?_eq_some_iff.1 hie
      rw [← hie', List.set_getElem_self] at h2
      exact h2
  · have hnot : ∀ p ∈ os.map encO, p.1 ≠ .int .u64 (slot : Int) := by
      intro p hp e
      obtain ⟨q, hq, rfl⟩ := List.mem_map.1 hp
      simp only [encO, Value.int.injEq, true_and] at e
      exact hin (List.mem_map.2 ⟨q, hq, by omega⟩)
    refine ⟨ByteArray.empty, false, fun W hW => ?_, (by simp), hlt, fun W hW => ?_⟩
    · have := (hm.kept0 hW).look_none keyed_u64 ht (zero_str W) (key_u64 slot hs) hnot true
      simpa using this
    · obtain ⟨W', h1, h2, h3, h4⟩ := (hm.kept0 hW).put_new keyed_u64 ht (key_u64 slot hs) hnot (.string (strB L))
      refine ⟨W', os ++ [(slot, L)], h1, by rw [List.map_append]; exact h2, ⟨?_, ?_⟩, h3, h4⟩
      · rw [List.map_append]
        refine List.nodup_append.2 ⟨h.nodup, by simp, ?_⟩
        intro a ha b hb
        simp only [List.map_cons, List.map_nil, List.mem_singleton] at hb
        subst hb
        intro e
        subst e
        exact hin ha
      · rcases hcase with ⟨c1, c2, c3, c4⟩ | ⟨c1, c2⟩
        · rw [c4]
          intro p hp
          rcases List.mem_append.1 hp with hp | hp
          · exact h.all p hp
          · obtain rfl : p = (slot, L) := by simpa using hp
            exact ⟨hs, by simp only; omega, c1, fun _ => c3⟩
        · rw [c2]
          intro p hp
          rcases List.mem_append.1 hp with hp | hp
          · obtain ⟨q1, q2, q3, q4⟩ := h.all p hp
            have hne : p.1 ≠ slot := fun e => hin (List.mem_map.2 ⟨p, hp, e⟩)
            have h9 : ¬ slot < m.slot := fun h9 => hlt ⟨q3, h9⟩
            have h8 : slot ≠ m.slot := fun h8 => c1 ⟨q3, h8⟩
            exact ⟨q1, by simp only; omega, rfl, fun e => absurd e (by simp only; omega)⟩
          · obtain rfl : p = (slot, L) := by simpa using hp
            exact ⟨hs, by simp, rfl, fun _ => rfl⟩
theorem OrdI.same {m m' : Km} {os : List (Nat × List UInt8)} (h : OrdI m os) (h1 : m'.slot = m.slot) (h2 : m'.told = m.told) (h3 : m'.ids = m.ids) : OrdI m' os := ⟨h.nodup, fun p hp => by rw [h1, h2, h3]; exact h.all p hp⟩
theorem keepK_rest (m : Km) (d s : List UInt8) : (keepK m d s).2.slot = m.slot ∧ (keepK m d s).2.told = m.told ∧ (keepK m d s).2.ids = m.ids := by
  unfold keepK
  split
  · exact ⟨rfl, rfl, rfl⟩
  · cases getS m.sh d with
    | some t => simp only; split <;> exact ⟨rfl, rfl, rfl⟩
    | none => simp only; split <;> exact ⟨rfl, rfl, rfl⟩
theorem forget_rest (rs ids : List (List UInt8)) (hd : ∀ d ∈ ids, d.length = 32) : (openK (mforgetE rs ids).2).slot = (openK rs).slot ∧ (openK (mforgetE rs ids).2).told = (openK rs).told ∧ (openK (mforgetE rs ids).2).ids = (openK rs).ids := by
  rw [openK_forget rs ids hd]
  split <;> exact ⟨rfl, rfl, rfl⟩
end Go.Proofs.Ytnlmeaijnfjakaa.Sh
