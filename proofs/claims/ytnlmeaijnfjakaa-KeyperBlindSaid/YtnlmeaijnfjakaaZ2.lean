/- Texts of this proof, merged: KpE, KpF, KpG, KpH. -/
import Derived.Test.YtnlmeaijnfjakaaZ1
import Derived.Test.YtnlmeaijnfjakaaJouC
import Derived.Test.YtnlmeaijnfjakaaBytes
import Derived.Test.YtnlmeaijnfjakaaJouG
import Derived.Laws.BytesArg
import Derived.Lib.Strings
import Derived.StillTailTactics
/- The keyper's shares in memory: a map by name: asked, written, struck. -/
namespace Go.Proofs.Ytnlmeaijnfjakaa.Sh
set_option linter.unusedSimpArgs false
set_option linter.unusedVariables false
open Go Go.RowKit

@[reducible] def T75 : TypeId := 75
/-- Block mb is the map of the shares, whose bytes lie in blocks of a list. -/
def Shs (w : World) (bs : List Nat) (mb : Nat) (sh : List (List UInt8 × List UInt8)) : Prop :=
  ∃ H : List ((List UInt8 × List UInt8) × Value), H.map (·.1) = sh ∧ Mp Try.prog 35 w mb (H.map fun p => (vD p.1.1, p.2)) ∧ ∀ p ∈ H, Yb w bs p.2 p.1.2

section
variable {w w' : World} {bs ds : List Nat} {mb : Nat} {sh : List (List UInt8 × List UInt8)}
theorem Shs.lt (h : Shs w bs mb sh) : mb < w.heap.size := by
  obtain ⟨H, _, hm, _⟩ := h
  exact hm.lt
theorem Shs.only (h : Shs w bs mb sh) (ho : Only ds w w') (hn : mb ∉ ds) (hd : ∀ k ∈ ds, k ∉ bs ∨ ¬ TyAt w k 5) : Shs w' bs mb sh := by
  obtain ⟨H, h1, hm, h3⟩ := h
  exact ⟨H, h1, hm.kept ho hn, fun p hp => (h3 p hp).only ho hd⟩
theorem Shs.kept0 (h : Shs w bs mb sh) (ho : Only [] w w') : Shs w' bs mb sh := h.only ho (by simp) (by simp)
theorem Shs.mono (h : Shs w bs mb sh) (hs : ∀ k ∈ bs, k ∈ ds) : Shs w ds mb sh := by
  obtain ⟨H, h1, hm, h3⟩ := h
  exact ⟨H, h1, hm, fun p hp => (h3 p hp).mono hs⟩
theorem shs_made (w : World) (bs : List Nat) : Shs (w.alloc (.map #[] 0)) bs w.heap.size [] := ⟨[], rfl, mp_made _ _ w, by simp⟩

theorem keys_of {H : List ((List UInt8 × List UInt8) × Value)} (hn : ((H.map (·.1)).map (·.1)).Nodup) : ((H.map fun p => (vD p.1.1, p.2)).map (·.1)).Nodup := by
  rw [List.map_map] at hn ⊢
  have : H.map ((fun x => x.1) ∘ fun p => (vD p.1.1, p.2)) = (H.map ((fun x => x.1) ∘ fun x => x.1)).map vD := by rw [List.map_map]; rfl
  rw [this]
  exact List.Pairwise.map vD (fun a b hne e => hne (vD_inj e)) hn
theorem keys_not {H : List ((List UInt8 × List UInt8) × Value)} {id : List UInt8} (hn : id ∉ (H.map (·.1)).map (·.1)) : ∀ p ∈ H.map (fun p => (vD p.1.1, p.2)), p.1 ≠ vD id := by
  intro p hp e
  obtain ⟨q, hq, rfl⟩ := List.mem_map.1 hp
  have := vD_inj e
  exact hn (List.mem_map.2 ⟨q.1, List.mem_map.2 ⟨q, hq, rfl⟩, this⟩)

theorem zero75 (w : World) : (zeroValue 27).run Try.prog w = .ok (.slice none 0 0) w := by kernel_rfl

theorem Shs.look_none (h : Shs w bs mb sh) {id : List UInt8} (hd : id.length = 32) (hg : getS sh id = none) (c : Bool) :
    (Instr.lookup T75 (.map (some mb)) (vD id) c).run Try.prog w = .ok (if c then .tuple #[.slice none 0 0, .bool false] else .slice none 0 0) w := by
  obtain ⟨H, rfl, hm, h3⟩ := h
  obtain ⟨l, hl⟩ := key_dig id hd
  exact hm.look_none keyed_dig Try.underlying75 (zero75 w) hl (keys_not (getS_none.1 hg)) c
theorem Shs.look_some (h : Shs w bs mb sh) (hk : (sh.map (·.1)).Nodup) {id s : List UInt8} (hd : id.length = 32) (hg : getS sh id = some s) :
    ∃ v, Yb w bs v s ∧ ∀ W, Only [] w W → ∀ c, (Instr.lookup T75 (.map (some mb)) (vD id) c).run Try.prog W = .ok (if c then .tuple #[v, .bool true] else v) W := by
  obtain ⟨H, rfl, hm, h3⟩ := h
  obtain ⟨l, hl⟩ := key_dig id hd
  have hmem := getS_some hg
  obtain ⟨q, hq, hqe⟩ := List.mem_map.1 hmem
  obtain ⟨i, hi⟩ := List.getElem?_of_mem hq
  have hy := h3 q hq
  rw [hqe] at hy
  refine ⟨q.2, hy, fun W hW c => ?_⟩
  have := (hm.kept0 hW).look_some keyed_dig Try.underlying75 hl (keys_of hk) (i := i) (v := q.2) (by rw [List.getElem?_map, hi]; simp [hqe]) c
  exact this
theorem Shs.len (h : Shs w bs mb sh) (ty : TypeId) : (Builtin.len_ #[T75] ty #[.map (some mb)]).run Try.prog w = .ok (.int .i64 (sh.length : Int)) w := by
  obtain ⟨H, rfl, hm, h3⟩ := h
  have := hm.len Try.underlying75 ty
  simpa using this
theorem Shs.put (h : Shs w bs mb sh) {id s : List UInt8} (hd : id.length = 32) (hg : getS sh id = none) {v : Value} (hv : Yb w bs v s) (hmt : ¬ TyAt w mb 5) :
    ∃ w', (Instr.mapUpdate T75 (.map (some mb)) (vD id) v).run Try.prog w = .ok () w' ∧ Shs w' bs mb (sh ++ [(id, s)]) ∧ Only [mb] w w' ∧ w'.heap.size = w.heap.size := by
  obtain ⟨H, rfl, hm, h3⟩ := h
  obtain ⟨l, hl⟩ := key_dig id hd
  obtain ⟨w', h1, h2, ho, hs⟩ := hm.put_new keyed_dig Try.underlying75 hl (keys_not (getS_none.1 hg)) v
  have hdd : ∀ k ∈ [mb], k ∉ bs ∨ ¬ TyAt w k 5 := fun k hk => .inr (by rw [List.mem_singleton.1 hk]; exact hmt)
  refine ⟨w', h1, ⟨H ++ [((id, s), v)], by simp, by simpa using h2, fun p hp => ?_⟩, ho, hs⟩
  rcases List.mem_append.1 hp with hp | hp
  · exact (h3 p hp).only ho hdd
  · obtain rfl : p = ((id, s), v) := by simpa using hp
    exact hv.only ho hdd
theorem filter_ne_erase {α β : Type} [BEq α] [LawfulBEq α] (f : β → α) : ∀ (l : List β) (i : Nat) (x : α), (l.map f).Nodup → (l.map f)[i]? = some x → l.filter (fun p => f p != x) = l.eraseIdx i
  | [], i, x, _, h => by simp at h
  | p :: l, 0, x, hn, h => by
    simp only [List.map_cons, List.nodup_cons] at hn
    simp only [List.map_cons, List.getElem?_cons_zero, Option.some.injEq] at h
    subst h
    simp only [List.eraseIdx_cons_zero, List.filter_cons, bne_self_eq_false, Bool.false_eq_true, if_false]
    refine List.filter_eq_self.2 (fun q hq => ?_)
    rw [bne_iff_ne]
    intro e
    exact hn.1 (by rw [← e]; exact List.mem_map.2 ⟨q, hq, rfl⟩)
  | p :: l, i + 1, x, hn, h => by
    simp only [List.map_cons, List.nodup_cons] at hn
    have h' : (l.map f)[i]? = some x := by simpa using h
    have hne : (f p != x) = true := by
      rw [bne_iff_ne]
      intro e
      exact hn.1 (by rw [e]; exact List.mem_of_getElem? h')
    simp only [List.eraseIdx_cons_succ, List.filter_cons, hne, if_true]
    rw [filter_ne_erase f l i x hn.2 h']
theorem map_eraseIdx {α β : Type} (f : α → β) : ∀ (l : List α) (i : Nat), (l.eraseIdx i).map f = (l.map f).eraseIdx i
  | [], _ => rfl
  | _ :: _, 0 => rfl
  | a :: l, i + 1 => by simp [map_eraseIdx f l i]
theorem Shs.del (h : Shs w bs mb sh) (hk : (sh.map (·.1)).Nodup) {id : List UInt8} (hd : id.length = 32) (hmt : ¬ TyAt w mb 5) (ty : TypeId) :
    ∃ w', (Builtin.delete_ #[T75, 35] ty #[.map (some mb), vD id]).run Try.prog w = .ok (.tuple #[]) w' ∧ Shs w' bs mb (dropS sh id) ∧ Only [mb] w w' ∧ w'.heap.size = w.heap.size := by
  obtain ⟨H, rfl, hm, h3⟩ := h
  obtain ⟨l, hl⟩ := key_dig id hd
  have hdd : ∀ k ∈ [mb], k ∉ bs ∨ ¬ TyAt w k 5 := fun k hk => .inr (by rw [List.mem_singleton.1 hk]; exact hmt)
  by_cases hmem : id ∈ (H.map (·.1)).map (·.1)
  · obtain ⟨i, hi⟩ := List.getElem?_of_mem hmem
    obtain ⟨q, hq, hqe⟩ : ∃ q, H[i]? = some q ∧ q.1.1 = id := by
      rw [List.getElem?_map, List.getElem?_map] at hi
      obtain ⟨x, hx, hxe⟩ := Option.map_eq_some_iff.1 hi
      obtain ⟨q, hq, rfl⟩ := Option.map_eq_some_iff.1 hx
      exact ⟨q, hq, hxe⟩
    obtain ⟨w', h1, h2, ho, hs⟩ := hm.del_some keyed_dig Try.underlying75 hl (keys_of hk) (i := i) (v := q.2) (by rw [List.getElem?_map, hq, ← hqe]; rfl) ty
    refine ⟨w', h1, ⟨H.eraseIdx i, ?_, ?_, fun p hp => (h3 p (List.mem_of_mem_eraseIdx hp)).only ho hdd⟩, ho, hs⟩
    · unfold dropS
      exact (map_eraseIdx (fun x => x.1) H i).trans (filter_ne_erase (fun (p : List UInt8 × List UInt8) => p.1) (H.map (fun x => x.1)) i id hk hi).symm
    · rw [map_eraseIdx]; exact h2
  · obtain ⟨w', h1, h2, ho, hs⟩ := hm.del_none keyed_dig Try.underlying75 hl (keys_not hmem) ty
    refine ⟨w', h1, ⟨H, ?_, h2, fun p hp => (h3 p hp).only ho hdd⟩, ho, hs⟩
    unfold dropS
    refine (List.filter_eq_self.2 (fun q hq => ?_)).symm
    rw [bne_iff_ne]
    intro e
    exact hmem (by rw [← e]; exact List.mem_map.2 ⟨q, hq, rfl⟩)
end
end Go.Proofs.Ytnlmeaijnfjakaa.Sh
/- Bytes held against bytes (bytes.Equal): walked. -/
namespace Go.Proofs.Ytnlmeaijnfjakaa.Sh
set_option linter.unusedSimpArgs false
set_option linter.unusedVariables false
open Go Go.RowKit

/-- Bytes as a string. -/
def strB (l : List UInt8) : ByteArray := ⟨l.toArray⟩
theorem strB_inj {l m : List UInt8} (h : strB l = strB m) : l = m := by
  have h1 : l.toArray = m.toArray := congrArg ByteArray.data h
  simpa using h1
set_option maxRecDepth 20000 in
theorem conv_bs (w : World) (v : Value) (l : List UInt8) (hv : Bs w v l) : (convert 27 9 v).run Try.prog w = .ok (.string (strB l)) w := by
  obtain ⟨hl, a, cap, rfl, h1, h2, h3, h4⟩ := hv
  by_cases h0 : l = []
  · subst h0
    rw [show ([] : List UInt8).length = 0 from rfl]
    rw [run_convert_bytes_string w 27 9 5 _ 0 cap Try.underlying27 Try.underlying5 Try.underlying9]
    cases a <;> simp [Conv.bytesToString, loadCells]
    all_goals rfl
  · rcases h4 with h4 | ⟨b, o, rfl, h4⟩
    · exact absurd (by simpa [bytes] using h4) h0
    · have := run_convert_bytes_arg (P := Try.prog) w 27 5 Try.underlying27 Try.underlying5 b o l.length cap (l.map fun x => (x.toNat : Int)) (by simp) (fun i hi => by
        rw [h4 i (vU8 l[i]) (bytes_get hi)]
        simp [List.getD, hi]) 9 Try.underlying9
      rw [this]
      have : strOfNums (l.map fun x => (x.toNat : Int)) = strB l := by
        unfold strOfNums strB
        congr 1
        rw [List.map_map]
        congr 1
        conv => rhs; rw [← List.map_id l]
        refine List.map_congr_left (fun x _ => ?_)
        simp
      rw [this]

theorem strB_toList (l : List UInt8) : (strB l).toList = l := by rw [Lib.toList_data]; simp [strB]

set_option maxRecDepth 20000 in
theorem bequal_any (w : World) (v u : Value) (l m : List UInt8) (hv : Bs w v l) (hu : Bs w u m) :
    Calls Try.prog 68 #[v, u] w fun e w' => e = .returned (.bool (decide (l = m))) ∧ w' = w := by
  have c1 := conv_bs w v l hv
  have c2 := conv_bs w u m hu
  obtain ⟨x, hx⟩ : ∃ x, x = strB l := ⟨_, rfl⟩
  obtain ⟨y, hy⟩ : ∃ y, y = strB m := ⟨_, rfl⟩
  have hxy : Hid (x.toList = y.toList ↔ l = m) := by
    show _ ↔ _
    rw [hx, hy, strB_toList, strB_toList]
  rw [← hx] at c1
  rw [← hy] at c2
  clear hx hy
  go_enter Try.func68, Try.ntmps68
  go_wp2
  go_ret
  refine ⟨?_, rfl⟩
  congr 2
  by_cases h : l = m
  · have h2 := hxy.out.2 h
    simp [h, h2]
  · have h2 : ¬ x.toList = y.toList := fun e => h (hxy.out.1 e)
    simp [h, h2]
end Go.Proofs.Ytnlmeaijnfjakaa.Sh
/- The keyper in memory; keep: walked. -/
namespace Go.Proofs.Ytnlmeaijnfjakaa.Sh
set_option linter.unusedSimpArgs false
set_option linter.unusedVariables false
open Go Go.RowKit

/-- A keyper at k: its log at x (own blocks ls), the map of its shares mb; the bytes of these, and the names of its order, in blocks ss. -/
structure Kp (w : World) (k x mb : Nat) (ls ss : List Nat) (m : Km) (f : List UInt8) (rs : List (List UInt8)) : Prop where
  ty : TyAt w k 77
  c0 : w.cell? ⟨k, 0, none⟩ = some (.pointer (some ⟨x, 0, none⟩))
  c1 : w.cell? ⟨k, 1, none⟩ = some (.map (some mb))
  c2 : ∃ ov, (w.cell? ⟨k, 2, none⟩ = some ov ∧ w.frozen? ⟨k, 2, none⟩ = false) ∧ Dgs w ov m.ids ∧ ∀ i, ov.ownBlock = some i → i ∈ ss ∧ TyAt w i 35
  c3 : w.cell? ⟨k, 3, none⟩ = some (.int .u64 (m.slot : Int)) ∧ w.frozen? ⟨k, 3, none⟩ = false
  c4 : w.cell? ⟨k, 4, none⟩ = some (.bool m.told) ∧ w.frozen? ⟨k, 4, none⟩ = false
  log : Lg w x f [] rs ls
  shs : Shs w ss mb m.sh
  nk : k ∉ ls ∧ k ∉ ss ∧ mb ∉ ls ∧ mb ∉ ss ∧ mb ≠ k
  ns : ∀ i ∈ ss, i ∉ ls

section
variable {w w' : World} {k x mb : Nat} {ls ss : List Nat} {m : Km} {f : List UInt8} {rs : List (List UInt8)}
theorem Kp.only (h : Kp w k x mb ls ss m f rs) {ds : List Nat} (ho : Only ds w w') (hd : ∀ i ∈ ds, i ≠ k ∧ i ≠ mb ∧ i ∉ ls ∧ i ∉ ss) : Kp w' k x mb ls ss m f rs := by
  have hk : k ∉ ds := fun hm => (hd k hm).1 rfl
  have hmb : mb ∉ ds := fun hm => (hd mb hm).2.1 rfl
  obtain ⟨ov, o1, o2, o3⟩ := h.c2
  refine ⟨h.ty.only ho hk, ho.cell h.c0 hk, ho.cell h.c1 hk, ⟨ov, cell_kept ho hk o1, o2.kept ho (fun b hb hm => (hd b hm).2.2.2 (o3 b hb).1), fun i hi => ⟨(o3 i hi).1, (o3 i hi).2.only ho (fun hm => (hd i hm).2.2.2 (o3 i hi).1)⟩⟩, cell_kept ho hk h.c3, cell_kept ho hk h.c4,
    h.log.only ho (fun i hi => (hd i hi).2.2.1), h.shs.only ho hmb (fun i hi => .inl (hd i hi).2.2.2), h.nk, h.ns⟩
theorem Kp.kept0 (h : Kp w k x mb ls ss m f rs) (ho : Only [] w w') : Kp w' k x mb ls ss m f rs := h.only ho (by simp)
/-- More blocks. -/
theorem Kp.more (h : Kp w k x mb ls ss m f rs) {ts : List Nat} (hs : ∀ i ∈ ss, i ∈ ts) (ht : ∀ i ∈ ts, i ∉ ls ∧ i ≠ k ∧ i ≠ mb) : Kp w k x mb ls ts m f rs := by
  obtain ⟨ov, o1, o2, o3⟩ := h.c2
  exact ⟨h.ty, h.c0, h.c1, ⟨ov, o1, o2, fun i hi => ⟨hs i (o3 i hi).1, (o3 i hi).2⟩⟩, h.c3, h.c4, h.log, h.shs.mono hs, ⟨h.nk.1, fun hm => (ht k hm).2.1 rfl, h.nk.2.2.1, fun hm => (ht mb hm).2.2 rfl, h.nk.2.2.2.2⟩, fun i hi => (ht i hi).1⟩
theorem Shs.ty {sh : List (List UInt8 × List UInt8)} {bs : List Nat} (h : Shs w bs mb sh) {t : TypeId} : ¬ TyAt w mb t := by
  obtain ⟨H, _, hm, _⟩ := h
  obtain ⟨arr, clock, hb, _⟩ := hm.blk
  rintro ⟨cur, hc⟩
  rw [hb] at hc
  cases hc
/-- The shares went on. -/
theorem Kp.setShs (h : Kp w k x mb ls ss m f rs) (ho : Only [mb] w w') {sh : List (List UInt8 × List UInt8)} (hs : Shs w' ss mb sh) : Kp w' k x mb ls ss { m with sh := sh } f rs := by
  have hk : k ∉ [mb] := by simpa using Ne.symm h.nk.2.2.2.2
  obtain ⟨ov, o1, o2, o3⟩ := h.c2
  refine ⟨h.ty.only ho hk, ho.cell h.c0 hk, ho.cell h.c1 hk, ⟨ov, cell_kept ho hk o1, o2.kept ho (fun b hb hm => h.nk.2.2.2.1 (by rw [← List.mem_singleton.1 hm]; exact (o3 b hb).1)), fun i hi => ⟨(o3 i hi).1, (o3 i hi).2.only ho (fun hm => h.nk.2.2.2.1 (by rw [← List.mem_singleton.1 hm]; exact (o3 i hi).1))⟩⟩, cell_kept ho hk h.c3, cell_kept ho hk h.c4,
    h.log.only ho (fun i hi => by rw [List.mem_singleton.1 hi]; exact h.nk.2.2.1), hs, h.nk, h.ns⟩
end

def KeepPost (w : World) (k x mb : Nat) (ls ss : List Nat) (f : List UInt8) (rs : List (List UInt8)) (r : Nat × Km) (e : Ending) (w' : World) : Prop :=
  e = .returned (.int .i64 (r.1 : Int)) ∧ Kp w' k x mb ls (ss ++ newBs w w') r.2 f rs ∧ Only [mb] w w'

theorem Kp.lt {w : World} {k x mb : Nat} {ls ss : List Nat} {m : Km} {f : List UInt8} {rs : List (List UInt8)} (h : Kp w k x mb ls ss m f rs) : k < w.heap.size ∧ mb < w.heap.size := ⟨h.ty.lt, h.shs.lt⟩
theorem Kp.grow {w w' : World} {k x mb : Nat} {ls ss : List Nat} {m : Km} {f : List UInt8} {rs : List (List UInt8)} {w0 : World} (h : Kp w k x mb ls ss m f rs) (h0 : Kp w0 k x mb ls ss m f rs) (hl : ∀ i ∈ ls, i < w0.heap.size) : Kp w k x mb ls (ss ++ newBs w0 w') m f rs := by
  refine h.more (fun i hi => List.mem_append_left _ hi) (fun i hi => ?_)
  rcases List.mem_append.1 hi with hi | hi
  · exact ⟨h.ns i hi, fun e => h.nk.2.1 (by rw [← e]; exact hi), fun e => h.nk.2.2.2.1 (by rw [← e]; exact hi)⟩
  · have h1 := (mem_newBs.1 hi).1
    have h2 := h0.lt
    exact ⟨fun hm => by have := hl i hm; omega, by omega, by omega⟩

set_option maxRecDepth 20000 in
set_option maxHeartbeats 3200000 in
theorem keep_any (w : World) (k x mb : Nat) (ls ss : List Nat) (m : Km) (f : List UInt8) (rs : List (List UInt8)) (h : Kp w k x mb ls ss m f rs) (hl : ∀ i ∈ ls, i < w.heap.size) (hi : KInv m) (d : List UInt8) (hd : d.length = 32) (sv : Value) (s : List UInt8) (hs : Bs w sv s) (hsl : s.length ≤ 100000) :
    Calls Try.prog 32 #[.pointer (some ⟨k, 0, none⟩), vD d, sv] w (KeepPost w k x mb ls ss f rs (keepK m d s)) := by
  obtain ⟨sa, sc, rfl⟩ := bs_form hs
  have hD := Dv.boxed w d hd 35
  obtain ⟨w1, hw1⟩ : ∃ w1, w1 = w.alloc (Obj.cells (bytes d).toArray 35) := ⟨_, rfl⟩
  have o1 : Only [] w w1 := by rw [hw1]; exact (Only.refl [] w).alloc _
  rw [← hw1] at hD
  obtain ⟨g, hg⟩ : ∃ g, g = w.heap.size := ⟨_, rfl⟩
  rw [← hg] at hD
  have hgl : g < w1.heap.size := by rw [hg, hw1]; simp
  have HG := hid hg
  have od : Only [] w1 w1.drew := (Only.refl [] w1).drew
  have h1 := (h.kept0 o1).kept0 od
  have hs1 := (hs.kept0 o1).kept0 od
  have hrg := hD.range
  have hu := Try.underlying35
  have hin : (Try.prog.info? 35).map (·.size) = some (bytes d).length := by rw [dig_info]; simp [bytes, hd]
  have k1 := (h.kept0 o1).c1
  have hsame : Hid (∀ r : Nat × Km, r.2 = m → ∀ e : Ending, e = .returned (.int .i64 (r.1 : Int)) → KeepPost w k x mb ls ss f rs r e w1.drew) := by
    rintro ⟨c, m'⟩ rfl e rfl
    exact ⟨rfl, h1.grow h hl, (o1.trans0 od).mono (by simp)⟩
  have HI := hid hi
  have HD := hid hd
  rw [show vD d = .agg (bytes d).toArray from rfl]
  unfold keepK
  cases hgs : getS m.sh d with
  | none =>
    have lk := hid (fun W (hW : Only [] w1 W) => (show (Instr.lookup 75 (.map (some mb)) (.agg (bytes d).toArray) true).run Try.prog W = .ok (.tuple #[.slice none 0 0, .bool false]) W from ((h.kept0 o1).shs.kept0 hW).look_none hd hgs true))
    by_cases hbad : s.length < 1 ∨ 32 < s.length
    · rw [if_pos hbad]
      have hpost := hid (hsame.out (1, m) rfl _ rfl)
      clear hgs hd hi
      by_cases h01 : s.length < 1
      all_goals
        first
          | (have hq : s.length < 1 := h01
             clear hbad)
          | (have hq : 32 < s.length := by omega
             clear hbad)
        go_enter Try.func32, Try.ntmps32
        go_wp2_with fail
        rw [← hw1, ← hg]
        clear hw1 hg
        go_region_held3 (fun W => W.cell? ⟨k, 1, none⟩ = some (.map (some mb)) ∧ W.rangeAt g 0 (bytes d) ∧ (Instr.lookup 75 (.map (some mb)) (.agg (bytes d).toArray) true).run Try.prog W = .ok (.tuple #[.slice none 0 0, .bool false]) W) (exact ⟨k1, hrg, lk.out _ od⟩) (fail)
        go_wp2
        go_ret
        exact hpost
    · rw [if_neg hbad]
      have hs1' : 1 ≤ s.length := by omega
      have hs32 : s.length ≤ 32 := by omega
      have hlen := fun ty => h1.shs.len ty
      obtain ⟨N, hN⟩ : ∃ N, N = m.sh.length := ⟨_, rfl⟩
      rw [← hN] at hlen
      rw [← hN]
      have hNf : N ≤ 32 := by rw [hN]; exact hi.few
      have HN := hid hN
      have HGS := hid hgs
      simp only
      clear hgs hd hi hbad hN
      by_cases hfull : 32 ≤ N
      · rw [if_pos hfull]
        have hpost := hid (hsame.out (6, m) rfl _ rfl)
        go_enter Try.func32, Try.ntmps32
        go_wp2_with fail
        rw [← hw1, ← hg]
        clear hw1 hg
        go_region_held3 (fun W => W.cell? ⟨k, 1, none⟩ = some (.map (some mb)) ∧ W.rangeAt g 0 (bytes d) ∧ (Instr.lookup 75 (.map (some mb)) (.agg (bytes d).toArray) true).run Try.prog W = .ok (.tuple #[.slice none 0 0, .bool false]) W) (exact ⟨k1, hrg, lk.out _ od⟩) (fail)
        have k1' := od.cell k1 (by simp)
        go_wp2
        go_ret
        exact hpost
      · rw [if_neg hfull]
        have odd : Only [] w1 w1.drew.drew := od.drew
        have cl := hid (clone_any _ s w1.drew.drew (hs1.kept0 (Only.refl [] _).drew) (by omega))
        have hput := hid (fun W v (hW : Only [] w1 W) (hF : Fresh w1.drew.drew W v s) => (show ∃ W', (Instr.mapUpdate 75 (.map (some mb)) (.agg (bytes d).toArray) v).run Try.prog W = .ok () W' ∧ KeepPost w k x mb ls ss f rs (0, { m with sh := m.sh ++ [(d, s)] }) (.returned (.int .i64 0)) W' ∧ Only [mb] W W' by
          have hk := (h.kept0 o1).kept0 hW
          have howW := o1.trans0 hW
          have hk2 : Kp W k x mb ls (ss ++ newBs w W) m f rs := hk.grow h hl
          have hy : Yb W (ss ++ newBs w W) v s := Yb.own hF (by omega) (fun j hj1 hj2 => List.mem_append_right _ (mem_newBs.2 ⟨by have := o1.size; simp at hj1; omega, hj2⟩))
          obtain ⟨W', hr, hS, hO, hz⟩ := hk2.shs.put HD.out HGS.out hy hk2.shs.ty
          refine ⟨W', hr, ⟨rfl, ?_, howW.trans hO (by simp) (by simp)⟩, hO⟩
          have hnb : newBs w W' = newBs w W := by unfold newBs; rw [hz]
          rw [hnb]
          exact hk2.setShs hO hS))
        clear hsame
        go_enter Try.func32, Try.ntmps32
        go_wp2_with fail
        rw [← hw1, ← hg]
        clear hw1 hg
        go_region_held3 (fun W => W.cell? ⟨k, 1, none⟩ = some (.map (some mb)) ∧ W.rangeAt g 0 (bytes d) ∧ (Instr.lookup 75 (.map (some mb)) (.agg (bytes d).toArray) true).run Try.prog W = .ok (.tuple #[.slice none 0 0, .bool false]) W) (exact ⟨k1, hrg, lk.out _ od⟩) (fail)
        have k1' := od.cell k1 (by simp)
        have HLK := lk
        clear lk
        go_wp2_with fail
        have k2 := odd.cell k1 (by simp)
        have rg : ∀ W, Only [] w1 W → W.rangeAt g 0 (bytes d) := fun W hW j u hj => hW.cell (hrg j u hj) (by simp)
        replace rg := hid rg
        have hmbg : mb ≠ g := by have := h.lt.2; have := HG.out; omega
        have hmbk : k ≠ mb := Ne.symm h.nk.2.2.2.2
        go_region_held3 (fun W => W.cell? ⟨k, 1, none⟩ = some (.map (some mb)) ∧ W.rangeAt g 0 (bytes d)) (first | exact ⟨k2, rg.out _ odd⟩ | exact ⟨p2.cell k1 (by simp), rg.out _ p2⟩ | exact ⟨hO3.cell (p2.cell k1 (by simp)) (by simpa using hmbk), fun j u hj => hO3.cell (rg.out _ p2 j u hj) (by simpa using Ne.symm hmbg)⟩)
          (first
          | (go_at_call 39; refine cl.out.mono ?_; rintro e w2 ⟨v2, rfl, hF2, q2⟩; have p2 : Only [] w1 w2 := odd.trans0 q2; obtain ⟨va, vc, rfl⟩ := own_form hF2; have hp3 := hput.out _ _ p2 hF2; obtain ⟨w3, hr3, hP3, hO3⟩ := hp3; replace hP3 := hid hP3))
        clear hput hr3 hO3
        go_wp2
        go_ret
        exact hP3.out
  | some t =>
    obtain ⟨v, hY, hlk⟩ := (h.kept0 o1).shs.look_some hi.keys hd hgs
    obtain ⟨va, vc, rfl⟩ := bs_form hY.1
    have lk := hid (fun W (hW : Only [] w1 W) => (show (Instr.lookup 75 (.map (some mb)) (.agg (bytes d).toArray) true).run Try.prog W = .ok (.tuple #[.slice va t.length vc, .bool true]) W from hlk W hW true))
    have beq := bequal_any w1.drew _ _ t s (hY.1.kept0 od) hs1
    obtain ⟨tl, htl⟩ : ∃ tl, tl = t.length := ⟨_, rfl⟩
    rw [← htl] at lk beq
    have hsm := hid (hsame.out (1, m) rfl _ rfl)
    have hs8 := hid (hsame.out (8, m) rfl _ rfl)
    have hs16 := hid (hsame.out (16, m) rfl _ rfl)
    clear hlk hY htl hsame hgs hd hi
    by_cases hbad : s.length < 1 ∨ 32 < s.length
    · rw [if_pos hbad]
      clear beq
      by_cases h01 : s.length < 1
      all_goals
        first
          | (have hq : s.length < 1 := h01
             clear hbad)
          | (have hq : 32 < s.length := by omega
             clear hbad)
        go_enter Try.func32, Try.ntmps32
        go_wp2_with fail
        rw [← hw1, ← hg]
        clear hw1 hg
        go_region_held3 (fun W => W.cell? ⟨k, 1, none⟩ = some (.map (some mb)) ∧ W.rangeAt g 0 (bytes d) ∧ (Instr.lookup 75 (.map (some mb)) (.agg (bytes d).toArray) true).run Try.prog W = .ok (.tuple #[.slice va tl vc, .bool true]) W) (exact ⟨k1, hrg, lk.out _ od⟩) (fail)
        go_wp2
        go_ret
        exact hsm
    · rw [if_neg hbad]
      have hs1' : 1 ≤ s.length := by omega
      have hs32 : s.length ≤ 32 := by omega
      simp only
      clear hbad hsm
      by_cases hts : t = s
      all_goals
        first
          | (rw [if_pos hts]; rw [decide_eq_true hts] at beq; have hpost := hs8)
          | (rw [if_neg hts]; rw [decide_eq_false hts] at beq; have hpost := hs16)
        replace beq := hid beq
        clear hts hs8 hs16
        go_enter Try.func32, Try.ntmps32
        go_wp2_with fail
        rw [← hw1, ← hg]
        clear hw1 hg
        go_region_held3 (fun W => W.cell? ⟨k, 1, none⟩ = some (.map (some mb)) ∧ W.rangeAt g 0 (bytes d) ∧ (Instr.lookup 75 (.map (some mb)) (.agg (bytes d).toArray) true).run Try.prog W = .ok (.tuple #[.slice va tl vc, .bool true]) W) (exact ⟨k1, hrg, lk.out _ od⟩) (fail)
        go_wp2_with fail
        refine beq.out.mono ?_
        rintro e w' ⟨rfl, rfl⟩
        go_wp2
        go_ret
        exact hpost
end Go.Proofs.Ytnlmeaijnfjakaa.Sh
/- The keyper: forget: walked. -/
namespace Go.Proofs.Ytnlmeaijnfjakaa.Sh
set_option linter.unusedSimpArgs false
set_option linter.unusedVariables false
open Go Go.RowKit

theorem step_del {P : Program} {ops : Array Oper} {o : Oper} {a : Act} {K : Act → World → Prop} {Q : Exit → Act → World → Prop} {E : Prop} {w w' : World} (hgd : o.guard = none) (m x : Operand) (t k : TypeId)
    (ho : o.op = .call { callee := .builtin .delete, args := #[m, x], argTypes := #[t, k] }) {mv xv : Value} (hm : a.eval m = mv) (hx : a.eval x = xv) (hr : (Builtin.delete_ #[t, k] o.type #[mv, xv]).run P w = .ok (.tuple #[]) w')
    (h : K (a.put o.dst (.tuple #[])) w') : if Region.wanted o (yielded ops a.tmps) = true then Oper.wp P o a w K Q else E := by
  have hw : Region.wanted o (yielded ops a.tmps) = true := by simp [Region.wanted, hgd]
  rw [if_pos hw]
  unfold Oper.wp execOp
  simp only [ho, resolve, invoke, builtin, Sem.run_bind, Sem.run_pure, Result.andThen_ok, List.map_toArray, List.map_cons, List.map_nil, hm, hx, hr]
  exact h

theorem Shs.cell {w : World} {bs : List Nat} {mb : Nat} {sh : List (List UInt8 × List UInt8)} (h : Shs w bs mb sh) {b o : Nat} {v : Value} (hc : w.cell? ⟨b, o, none⟩ = some v) : b ≠ mb := by
  obtain ⟨H, _, hm, _⟩ := h
  obtain ⟨arr, clock, hb, _⟩ := hm.blk
  rintro rfl
  simp [World.cell?, hb] at hc
theorem Dgs.map {w w' : World} {bs : List Nat} {mb : Nat} {sh : List (List UInt8 × List UInt8)} (hs : Shs w bs mb sh) {v : Value} {l : List (List UInt8)} (h : Dgs w v l) (ho : Only [mb] w w') : Dgs w' v l := by
  obtain ⟨⟨hl, a, cap, rfl, h1, h2, h3, h4⟩, h5⟩ := h
  refine ⟨⟨hl, a, cap, rfl, h1, h2, h3, h4.imp (fun h => h) (fun ⟨b, o, e, h⟩ => ⟨b, o, e, fun j u hu => ho.cell (h j u hu) ?_⟩)⟩, h5⟩
  have := hs.cell (h j u hu)
  simpa using this
theorem forgetS_next (sh : List (List UInt8 × List UInt8)) (ids : List (List UInt8)) (k : Nat) (hk : k < ids.length) : forgetS sh (ids.take (k + 1)) = dropS (forgetS sh (ids.take k)) ids[k] := by
  unfold forgetS
  rw [List.take_succ_eq_append_getElem hk, List.foldl_append]
  rfl

def ForgetPost (w : World) (k x mb : Nat) (ls ss : List Nat) (f : List UInt8) (rs : List (List UInt8)) (r : Nat × Km) (e : Ending) (w' : World) : Prop :=
  e = .returned (.int .i64 (r.1 : Int)) ∧ Kp w' k x mb ls ss r.2 f rs ∧ Only [mb] w w'

set_option maxRecDepth 20000 in
set_option maxHeartbeats 3200000 in
theorem forget_any (w : World) (k x mb : Nat) (ls ss : List Nat) (m : Km) (f : List UInt8) (rs : List (List UInt8)) (h : Kp w k x mb ls ss m f rs) (hi : KInv m) (v : Value) (ids : List (List UInt8)) (hv : Dgs w v ids) :
    Calls Try.prog 40 #[.pointer (some ⟨k, 0, none⟩), v] w (ForgetPost w k x mb ls ss f rs (forgetK m ids)) := by
  obtain ⟨a, cap, rfl, h1, h2, h3⟩ := hv.form
  have k1 := h.c1
  have hlen := fun ty => h.shs.len ty
  obtain ⟨N, hN⟩ : ∃ N, N = m.sh.length := ⟨_, rfl⟩
  rw [← hN] at hlen
  have hN32 : N ≤ 32 := by rw [hN]; exact hi.few
  have HN := hid hN
  have HI := hid hi
  have hu := Try.underlying35
  have hmbk : k ≠ mb := Ne.symm h.nk.2.2.2.2
  clear hN hi
  go_enter Try.func40, Try.ntmps40
  go_wp2_with fail
  go_loopw [15] (fun i wr => ∃ j : Nat, j ≤ ids.length ∧ i = .int .i64 j ∧ Hid (Kp wr k x mb ls ss { m with sh := forgetS m.sh (ids.take j) } f rs) ∧ Only [mb] w wr) (fun i _ => ids.length - (intOf i).toNat)
  case atStart => exact ⟨0, Nat.zero_le _, rfl, hid h, Only.refl _ _⟩
  case round =>
    obtain ⟨j, hj, rfl, hK, ho⟩ := hrel
    have kr := ho.cell k1 (by simpa using hmbk)
    by_cases hlt : j < ids.length
    · obtain ⟨b, o, rfl, hr⟩ := (hv.map h.shs ho).at j hlt
      have hl32 := hv.2 ids[j] (List.getElem_mem hlt)
      have hnx := forgetS_next m.sh ids j hlt
      obtain ⟨d, hd⟩ : ∃ d, d = ids[j] := ⟨_, rfl⟩
      rw [← hd] at hr hl32 hnx
      have hin : (Try.prog.info? 35).map (·.size) = some (bytes d).length := by rw [dig_info]; simp [bytes, hl32]
      have HNX := hid hnx
      clear hnx hd
      have oz : Only [] wr (wr.alloc (Obj.cells Z32 35)) := (Only.refl [] wr).alloc _
      have hth := (Dv.fresh wr 35).there
      go_wp2_with (first
        | (refine wpList_load_mid (by rfl) 35 _ (by rfl) b (o + j * 32) (by rfl) _ _ hr hu rfl hin ?_)
        | (refine wpList_alloc_run (by rfl) 35 (by rfl) (alloc_dig _) ?_)
        | (refine wpList_store_dig (by rfl) _ _ (by rfl) wr.heap.size d (bytes d).toArray (by rfl) (by rfl) rfl hl32 hth ?_; intro w2 hD2 q2))
      simp only [Act.put, List.setIfInBounds_toArray, List.set_cons_zero, List.set_cons_succ]
      have q3 : Only [] wr w2 := oz.trans q2 (by simp) (fun y hy => .inr (by rw [List.mem_singleton.1 hy]; exact Nat.le_refl _))
      have od : Only [] wr w2.drew := q3.drew
      have hK2 := hK.out.kept0 od
      obtain ⟨w3, hr3, hS3, hO3, hz3⟩ := hK2.shs.del (sub_inv HI.out (forgetS_sub (ids.take j) m.sh)).keys hl32 hK2.shs.ty 0
      rw [← HNX.out] at hS3
      have hK3 := hid (hK2.setShs hO3 hS3)
      have ho3 : Only [mb] w w3 := (ho.trans od (ds := [mb]) (by simp) (by simp)).trans hO3 (by simp) (by simp)
      have kd := od.cell kr (by simp)
      have hrd : w2.drew.rangeAt wr.heap.size 0 (bytes d) := hD2.range
      have hgm : wr.heap.size ≠ mb := by have := hK.out.lt.2; omega
      have hr3' : (Builtin.delete_ #[75, 35] 0 #[.map (some mb), .agg (bytes d).toArray]).run Try.prog w2.drew = .ok (.tuple #[]) w3 := hr3
      replace hr3' := hid hr3'
      clear hr3 hS3 hK2 hK hr hth hD2 q2
      go_region_held3 (fun W => W.cell? ⟨k, 1, none⟩ = some (.map (some mb)) ∧ W.rangeAt wr.heap.size 0 (bytes d)) (first | exact ⟨kd, hrd⟩ | exact ⟨hO3.cell kd (by simpa using hmbk), fun j u hj => hO3.cell (hrd j u hj) (by simpa using hgm)⟩)
        ((refine step_del (by rfl) _ _ 75 35 (by rfl) (by rfl) (by rfl) hr3'.out ?_))
      go_wp2
      go_roundw
      case rel => exact ⟨j + 1, by omega, by go_num, hK3, ho3⟩
      case measure => simp [intOf]; omega
    · obtain rfl : j = ids.length := by omega
      rw [List.take_length] at hK
      have hlen2 := fun ty => hK.out.shs.len ty
      have hle : (forgetS m.sh ids).length ≤ N := by rw [HN.out]; exact (forgetS_sub ids m.sh).length_le
      obtain ⟨M, hM⟩ : ∃ M, M = (forgetS m.sh ids).length := ⟨_, rfl⟩
      simp only at hlen2
      rw [← hM] at hlen2 hle
      have hpost := hid (show ForgetPost w k x mb ls ss f rs (forgetK m ids) (.returned (.int .i64 ((N - M : Nat) : Int))) wr from ⟨by unfold forgetK; rw [HN.out, hM], hK.out, ho⟩)
      have hsub : IntKind.i64.wrap ((N : Int) - (M : Int)) = ((N - M : Nat) : Int) := by rw [IntKind.wrap_i64]; omega
      clear hM hK
      go_wp2
      go_ret
      exact hpost.out
end Go.Proofs.Ytnlmeaijnfjakaa.Sh
