/- Arguments, read: from the form's reading to the words of the walks. -/
import Derived.Test.YtejilfhoeljhkaaBase
import Derived.ProofKit
import Derived.Deep.Slices
namespace Go.Proofs.Ytejilfhoeljhkaa.Sh
open Go Go.RowKit Go.ChangeShapes Go.WideShapes Go.Deep

section
variable {H : Type} {enc : TypeId × Value → H} {P : Program} {w : World} {base : Nat} {spare : Nat → Bool} {held : Bool}

theorem wf_u8_bound {n : Int} (h : (Lit.int .u8 n).wf = true) : 0 ≤ n ∧ n < 256 := by
  simp only [Lit.wf, Bool.and_eq_true, decide_eq_true_eq] at h
  have h1 : IntKind.u8.min = 0 := rfl
  have h2 : IntKind.u8.max = 255 := rfl
  omega

theorem spot_none {a : Addr} {v : Value} (h : w.cell? a = some v) : a.spot = none := World.cell?_spot h

theorem read_bs {t e : TypeId} {fuel : Nat} {v : Value} {x : DataW H × List MemPlace} (ht : P.underlying t = some (.slice e)) (he : P.underlying e = some (.int .u8)) (hc : P.cellsOf e = 1)
    (h : DataW.trod enc P w base spare held fuel t [v] = some x) : ∃ l, Bs w v l := by
  rcases open_ints ht he hc h with ⟨hcs, _⟩ | ⟨a, len, cap, zs, hcs, _, hl, hm, hz, _, hcell, hwz⟩
  · obtain rfl : v = .slice none 0 0 := by simpa using hcs
    exact ⟨[], by simp [bytes], none, 0, rfl, by simp, by unfold maxLen; omega, by simp, .inl rfl⟩
  · obtain rfl : v = .slice (some a) len cap := by simpa using hcs
    have hzl : len ≤ zs.length := by rw [hz]; split <;> omega
    have hlen : ((zs.take len).map fun z => UInt8.ofNat z.toNat).length = len := by simp; omega
    refine ⟨(zs.take len).map fun z => UInt8.ofNat z.toNat, by simp [bytes], some a, cap, by rw [hlen], by omega, hm, by unfold maxLen at hm; omega, ?_⟩
    by_cases h0 : len = 0
    · left; subst h0; simp [bytes]
    · right
      obtain ⟨b, o, sp⟩ := a
      have hs : sp = none := by simpa [Addr.add] using spot_none (hcell 0 (by omega))
      subst hs
      refine ⟨b, o, rfl, ?_⟩
      intro j u hj
      have hjl : j < len := by
        have := (List.getElem?_eq_some_iff.1 hj).1
        simp [bytes] at this
        omega
      have h1 := hcell j (by omega)
      rw [Addr.add_mid] at h1
      rw [h1]
      have hzj : zs[j]? = some (zs[j]'(by omega)) := List.getElem?_eq_getElem (by omega)
      have hw := wf_u8_bound (hwz (zs[j]'(by omega)) (List.getElem_mem _))
      have hg : zs.getD j 0 = zs[j]'(by omega) := by simp [List.getD, hzj]
      simp only [bytes, List.map_map, List.getElem?_map, List.getElem?_take, if_pos hjl, hzj, Option.map_some, Option.some.injEq, Function.comp] at hj
      rw [← hj, hg]
      congr 2
      rw [UInt8.toNat_ofNat']
      omega

theorem all2_of {α β : Type} {R : α → β → Prop} : ∀ (as : List α), (∀ a ∈ as, ∃ b, R a b) → ∃ bs, All2 R as bs
  | [], _ => ⟨[], .nil⟩
  | a :: as, h => by
    obtain ⟨b, hb⟩ := h a (by simp)
    obtain ⟨bs, hbs⟩ := all2_of as (fun x hx => h x (by simp [hx]))
    exact ⟨b :: bs, .cons hb hbs⟩

theorem read_bss {t s e : TypeId} {fuel : Nat} {v : Value} {x : DataW H × List MemPlace} (ht : P.underlying t = some (.slice s)) (hcs : P.cellsOf s = 1) (hs : P.underlying s = some (.slice e)) (he : P.underlying e = some (.int .u8)) (hc : P.cellsOf e = 1)
    (h : DataW.trod enc P w base spare held fuel t [v] = some x) : ∃ ls, Bss w v ls := by
  rcases open_slice1 ht hcs h with ⟨h0, _⟩ | ⟨a, len, cap, m, n, V, D, Pl, h0, _, hl, hm, hmm, _, hx⟩
  · obtain rfl : v = .slice none 0 0 := by simpa using h0
    exact ⟨[], [], ⟨by simp, none, 0, rfl, by simp, by unfold maxLen; omega, by simp, .inl rfl⟩, .nil⟩
  · obtain rfl : v = .slice (some a) len cap := by simpa using h0
    have hml : len ≤ m := by rw [hmm]; split <;> omega
    obtain ⟨ls, hls⟩ := all2_of (R := Bs w) ((List.range len).map V) (fun y hy => by
      obtain ⟨i, hi, rfl⟩ := List.mem_map.1 hy
      simp only [List.mem_range] at hi
      exact read_bs hs he hc (hx i (by omega)).2)
    have hlen : ls.length = len := by
      have := hls.length
      simpa using this.symm
    refine ⟨ls, _, ⟨by simp [hlen], some a, cap, by rw [hlen], by omega, hm, by unfold maxLen at hm; omega, ?_⟩, hls⟩
    by_cases h0 : len = 0
    · left; subst h0; simp
    · right
      obtain ⟨b, o, sp⟩ := a
      have hsp : sp = none := by simpa [Addr.add] using spot_none (hx 0 (by omega)).1
      subst hsp
      refine ⟨b, o, rfl, ?_⟩
      intro j u hj
      have hjl : j < len := by
        have := (List.getElem?_eq_some_iff.1 hj).1
        simpa using this
      have h1 := (hx j (by omega)).1
      rw [Addr.add_mid] at h1
      rw [h1]
      simpa [List.getElem?_map, hjl] using hj
end
end Go.Proofs.Ytejilfhoeljhkaa.Sh
