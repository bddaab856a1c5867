/- Two logs, one new since the other: appended to. -/
import Derived.Test.YtlcfmocojakhpaaJouH
namespace Go.Proofs.Ytlcfmocojakhpaa.Sh
open Go Go.RowKit

theorem nappend_two (w W V : World) (x y : Nat) (f l b : List UInt8) (rs : List (List UInt8)) (f2 l2 : List UInt8) (rs2 : List (List UInt8)) (h : LgN w W x f l rs) (hy : LgN W V y f2 l2 rs2) (bv : Value) (hb : Bs w bv b) (hl1 : 1 ≤ b.length) (hl2 : b.length ≤ 1000) (hlen : f.length + l.length ≤ 400000) (hrs : rs.length ≤ 1000000) :
    Calls Try.prog 17 #[.pointer (some ⟨x, 0, none⟩), bv] V fun e w' => e = .returned (.int .i64 0) ∧ LgN w w' x f (l ++ frameL b) (rs ++ [b]) ∧ LgN w w' y f2 l2 rs2 := by
  obtain ⟨bs, h1, h2, h3⟩ := h
  obtain ⟨cs, k1, k2, k3⟩ := hy
  have hs := h3.size
  have hs2 := k3.size
  have hold : ∀ k, bv.ownBlock = some k → b = [] ∨ k ∉ bs := by
    intro k hk
    refine .inr (fun hm => ?_)
    obtain ⟨b', o, c, rfl, _, _, _, h4⟩ := hb.form (by omega)
    simp [Value.ownBlock] at hk
    subst hk
    have h5 := h4 0 (vU8 b[0]) (bytes_get (by omega))
    have := lt_cell (by simpa using h5)
    have := (h2 _ hm).1
    omega
  refine (lappend_good V x f l b rs bs (h1.kept0 k3) bv ((hb.kept0 h3).kept0 k3) hold hl1 hl2 hlen hrs).mono ?_
  rintro e w' ⟨rfl, hL, hp⟩
  have hs3 := hp.size
  refine ⟨rfl, LgN.went hL (fun k hk => by have := h2 k hk; omega) (h3.trans0 k3) hp, cs, k1.only hp (fun k hk hm => ?_), fun k hk => by have := k2 k hk; omega, (h3.trans0 k3).own hp (fun k hk => (h2 k hk).1)⟩
  have := h2 k hk
  have := k2 k hm
  omega
end Go.Proofs.Ytlcfmocojakhpaa.Sh
