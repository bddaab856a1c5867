/- An append leaves other lists as they were; how many records are fast. -/
import Derived.Test.YtlcfmocojakhpaaJouI
import Derived.Test.YtlcfmocojakhpaaPlJou
namespace Go.Proofs.Ytlcfmocojakhpaa.Sh
open Go Go.RowKit

/-- An append leaves slices of slices that are new since the log was looked at. -/
theorem nappend_keep (w W V : World) (x : Nat) (f l b : List UInt8) (rs : List (List UInt8)) (h : LgN w W x f l rs) (hV : Only [] W V) (bv : Value) (hb : Bs w bv b) (hl1 : 1 ≤ b.length) (hl2 : b.length ≤ 1000) (hlen : f.length + l.length ≤ 400000) (hrs : rs.length ≤ 1000000) :
    Calls Try.prog 17 #[.pointer (some ⟨x, 0, none⟩), bv] V fun e w' => e = .returned (.int .i64 0) ∧ LgN w w' x f (l ++ frameL b) (rs ++ [b]) ∧ ∀ v ls, OwnBss W.heap.size V v ls → OwnBss W.heap.size w' v ls := by
  obtain ⟨bs, h1, h2, h3⟩ := h
  have hs := h3.size
  have hs2 := hV.size
  have hold : ∀ k, bv.ownBlock = some k → b = [] ∨ k ∉ bs := by
    intro k hk
    refine .inr (fun hm => ?_)
    obtain ⟨b', o, c, rfl, _, _, _, h4⟩ := hb.form (by omega)
    simp [Value.ownBlock] at hk
    subst hk
    have h5 := h4 0 (vU8 b[0]) (bytes_get (by omega))
    have := lt_cell (by simpa using h5)
    have := (h2 _ hm).1
    omega
  refine (lappend_good V x f l b rs bs (h1.kept0 hV) bv ((hb.kept0 h3).kept0 hV) hold hl1 hl2 hlen hrs).mono ?_
  rintro e w' ⟨rfl, hL, hp⟩
  refine ⟨rfl, LgN.went hL (fun k hk => by have := h2 k hk; omega) (h3.trans0 hV) hp, ?_⟩
  rintro v ls ⟨vs, g1, g2⟩
  have hn : ∀ (u : Value) (e n : Nat) (xs : List Value), V.ownsRow W.heap.size e 1 u n xs → ∀ k, u.ownBlock = some k → k ∉ bs := fun u e n xs hu k hk hm => by
    have := (hu.lt k hk).1
    have := (h2 k hm).2
    omega
  exact ⟨vs, own_only g1 hp (hn _ _ _ _ g1), g2.imp fun u y k => ⟨own_only k.1 hp (hn _ _ _ _ k.1), k.2⟩⟩

/-- How many of the first k records are fast, where the s-th was the last one ahead of a sync. -/
def fastAt (s k : Nat) : Nat := if 1 ≤ s ∧ s ≤ k then s else 0

end Go.Proofs.Ytlcfmocojakhpaa.Sh
