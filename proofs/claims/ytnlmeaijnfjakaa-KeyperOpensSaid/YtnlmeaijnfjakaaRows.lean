/-
  No cell of these rows narrows 'for every input' (looked for: loops, veiled, ifaces, maps, wideKeys, modest, calm, conditions, laid).
  DERIVED. THE GIVEN ROWS OF THIS SEAT. 6 by the template 'for every input the law returns true; each argument reads behind the call as it read before'; 0 by the template 'total and deterministic' (their statements: YtnlmeaijnfjakaaTotals.lean).
  GIVEN WITH THE SEED: the statements are not yours to turn. If you find one false, say at which input.
  Laid BY PROGRAM, IN A SANDBOX (cutbox-rows.mjs): the forced cells as the released guide's own fill.sh prints them over the translation 6ea25b1a907ff31f… (all of the seat's roots in one cut). By AI agents, Wed Nov 11 2026. No macro, syntax, notation, axiom, sorry.
-/
import Derived.Test.YtnlmeaijnfjakaaChecked
import GoSem.Claim
import GoSem.ClaimJoined
import GoSem.ClaimMapViews
import Derived.JoinedTies
import Derived.KernelRfl
namespace Go.Proofs.Ytnlmeaijnfjakaa
/- THE CELL 'sum', in the pinned program and in every row, IS THE sha256 OF THE DUMP (.gsa) THAT YtnlmeaijnfjakaaProg.lean LOADS. Nothing in Lean hashes anything: it is a label: what it is worth is what the hold of that sum in a sandbox is worth. -/
noncomputable def Try.pinned : Pinned := { name := "ytnlmeaijnfjakaa", sum := "6ea25b1a907ff31f197e71f14edb3818b8467a1a71a28dd3657eb504df957f6c", checked := Try.checked }
namespace Rows
def none {H : Type} : Left H := { results := [], args := [] }

/-- 'shroudlaw20.KeyperBlind': WHATEVER THE INPUT: true; the input reads as it did. -/
def keyperBlindSpec : ChangeSpec := { name := "keyperBlind", fn := fun _ => fun
  | [d1, d2] => { results := [.lit (.bool true)], args := [d1, d2] }
  | _ => none }
def keyperBlindRow : OpenClaim := { program := "ytnlmeaijnfjakaa", sum := "6ea25b1a907ff31f197e71f14edb3818b8467a1a71a28dd3657eb504df957f6c", func := "shroud/shroudlaw20.KeyperBlind", spec := "keyperBlind", unfollowed := true, recurses := true, plainKeys := false, apart := false }
def KeyperBlindSaid : Prop := keyperBlindRow.holds Try.pinned (OpenSpec.ofChange keyperBlindSpec)

/-- ITS FALSE NEIGHBOUR: 'it returns false'. Refute it at one input. -/
def keyperBlindWrong : ChangeSpec := { name := "keyperBlind", fn := fun _ => fun
  | [d1, d2] => { results := [.lit (.bool false)], args := [d1, d2] }
  | _ => none }
def KeyperBlindWrongFalsely : Prop := keyperBlindRow.holds Try.pinned (OpenSpec.ofChange keyperBlindWrong)

/-- 'shroudlaw20.KeyperOpens': WHATEVER THE INPUT: true; the input reads as it did. -/
def keyperOpensSpec : ChangeSpec := { name := "keyperOpens", fn := fun _ => fun
  | [d1, d2, d3] => { results := [.lit (.bool true)], args := [d1, d2, d3] }
  | _ => none }
def keyperOpensRow : OpenClaim := { program := "ytnlmeaijnfjakaa", sum := "6ea25b1a907ff31f197e71f14edb3818b8467a1a71a28dd3657eb504df957f6c", func := "shroud/shroudlaw20.KeyperOpens", spec := "keyperOpens", unfollowed := true, recurses := true, plainKeys := false, apart := false }
def KeyperOpensSaid : Prop := keyperOpensRow.holds Try.pinned (OpenSpec.ofChange keyperOpensSpec)

/-- ITS FALSE NEIGHBOUR: 'it returns false'. Refute it at one input. -/
def keyperOpensWrong : ChangeSpec := { name := "keyperOpens", fn := fun _ => fun
  | [d1, d2, d3] => { results := [.lit (.bool false)], args := [d1, d2, d3] }
  | _ => none }
def KeyperOpensWrongFalsely : Prop := keyperOpensRow.holds Try.pinned (OpenSpec.ofChange keyperOpensWrong)

/-- 'shroudlaw20.KeyperNil': WHATEVER THE INPUT: true; the input reads as it did. -/
def keyperNilSpec : ChangeSpec := { name := "keyperNil", fn := fun _ => fun
  | [d] => { results := [.lit (.bool true)], args := [d] }
  | _ => none }
def keyperNilRow : OpenClaim := { program := "ytnlmeaijnfjakaa", sum := "6ea25b1a907ff31f197e71f14edb3818b8467a1a71a28dd3657eb504df957f6c", func := "shroud/shroudlaw20.KeyperNil", spec := "keyperNil", unfollowed := true, recurses := true, plainKeys := false, apart := false }
def KeyperNilSaid : Prop := keyperNilRow.holds Try.pinned (OpenSpec.ofChange keyperNilSpec)

/-- ITS FALSE NEIGHBOUR: 'it returns false'. Refute it at one input. -/
def keyperNilWrong : ChangeSpec := { name := "keyperNil", fn := fun _ => fun
  | [d] => { results := [.lit (.bool false)], args := [d] }
  | _ => none }
def KeyperNilWrongFalsely : Prop := keyperNilRow.holds Try.pinned (OpenSpec.ofChange keyperNilWrong)

/-- 'shroudlaw20.KeyperOne': WHATEVER THE INPUT: true; the input reads as it did. -/
def keyperOneSpec : ChangeSpec := { name := "keyperOne", fn := fun _ => fun
  | [d] => { results := [.lit (.bool true)], args := [d] }
  | _ => none }
def keyperOneRow : OpenClaim := { program := "ytnlmeaijnfjakaa", sum := "6ea25b1a907ff31f197e71f14edb3818b8467a1a71a28dd3657eb504df957f6c", func := "shroud/shroudlaw20.KeyperOne", spec := "keyperOne", unfollowed := true, recurses := true, plainKeys := false, apart := false }
def KeyperOneSaid : Prop := keyperOneRow.holds Try.pinned (OpenSpec.ofChange keyperOneSpec)

/-- ITS FALSE NEIGHBOUR: 'it returns false'. Refute it at one input. -/
def keyperOneWrong : ChangeSpec := { name := "keyperOne", fn := fun _ => fun
  | [d] => { results := [.lit (.bool false)], args := [d] }
  | _ => none }
def KeyperOneWrongFalsely : Prop := keyperOneRow.holds Try.pinned (OpenSpec.ofChange keyperOneWrong)

/-- 'shroudlaw20.KeyperPlays': WHATEVER THE INPUT: true; the input reads as it did. -/
def keyperPlaysSpec : ChangeSpec := { name := "keyperPlays", fn := fun _ => fun
  | [d] => { results := [.lit (.bool true)], args := [d] }
  | _ => none }
def keyperPlaysRow : OpenClaim := { program := "ytnlmeaijnfjakaa", sum := "6ea25b1a907ff31f197e71f14edb3818b8467a1a71a28dd3657eb504df957f6c", func := "shroud/shroudlaw20.KeyperPlays", spec := "keyperPlays", unfollowed := true, recurses := true, plainKeys := false, apart := false }
def KeyperPlaysSaid : Prop := keyperPlaysRow.holds Try.pinned (OpenSpec.ofChange keyperPlaysSpec)

/-- ITS FALSE NEIGHBOUR: 'it returns false'. Refute it at one input. -/
def keyperPlaysWrong : ChangeSpec := { name := "keyperPlays", fn := fun _ => fun
  | [d] => { results := [.lit (.bool false)], args := [d] }
  | _ => none }
def KeyperPlaysWrongFalsely : Prop := keyperPlaysRow.holds Try.pinned (OpenSpec.ofChange keyperPlaysWrong)

/-- 'shroudlaw20.KeyperCrashes': WHATEVER THE INPUT: true; the input reads as it did. -/
def keyperCrashesSpec : ChangeSpec := { name := "keyperCrashes", fn := fun _ => fun
  | [d1, d2, d3, d4] => { results := [.lit (.bool true)], args := [d1, d2, d3, d4] }
  | _ => none }
def keyperCrashesRow : OpenClaim := { program := "ytnlmeaijnfjakaa", sum := "6ea25b1a907ff31f197e71f14edb3818b8467a1a71a28dd3657eb504df957f6c", func := "shroud/shroudlaw20.KeyperCrashes", spec := "keyperCrashes", unfollowed := true, recurses := true, plainKeys := false, apart := false }
def KeyperCrashesSaid : Prop := keyperCrashesRow.holds Try.pinned (OpenSpec.ofChange keyperCrashesSpec)

/-- ITS FALSE NEIGHBOUR: 'it returns false'. Refute it at one input. -/
def keyperCrashesWrong : ChangeSpec := { name := "keyperCrashes", fn := fun _ => fun
  | [d1, d2, d3, d4] => { results := [.lit (.bool false)], args := [d1, d2, d3, d4] }
  | _ => none }
def KeyperCrashesWrongFalsely : Prop := keyperCrashesRow.holds Try.pinned (OpenSpec.ofChange keyperCrashesWrong)

/- THE SECOND FORM. 'bulk': how many values and letters a reading holds, each counted each time it is reached (what is shared counts as often as it is met; a slice's spare places count too). A statement '..UptoSaid' is the law's where the arguments, and the package variables that the reading takes, are together of bulk at most 1048576: NARROWER than '..Said'. Prove '..Said' where nothing that the law and all that it calls make is longer than what came in: it says more and counts as full. Else prove '..UptoSaid'. A law counts once. -/
mutual
def uptoBulk {H : Type} : DataW H → Nat
  | .lit (.string bytes) => bytes.length + 1
  | .lit _ => 1
  | .nil => 1
  | .ptr d => uptoBulk d + 1
  | .slice elems spare => uptoBulkAll elems + uptoBulkAll spare + 1
  | .agg parts => uptoBulkAll parts + 1
  | .iface _ d => uptoBulk d + 1
  | .map entries => uptoBulkEntries entries + 1
  | .held _ => 1
def uptoBulkAll {H : Type} : List (DataW H) → Nat
  | [] => 0
  | d :: r => uptoBulk d + uptoBulkAll r
def uptoBulkEntries {H : Type} : List (Lit × DataW H) → Nat
  | [] => 0
  | x :: r => uptoBulkEntry x + uptoBulkEntries r
def uptoBulkEntry {H : Type} : Lit × DataW H → Nat
  | (.string bytes, d) => bytes.length + uptoBulk d + 1
  | (_, d) => uptoBulk d + 1
 end
def uptoSmall : (H : Type) → List (DataW H) → Bool := fun _ ds => decide (uptoBulkAll ds ≤ 1048576)
def OpenSpec.upto (s : _root_.Go.ChangeSpec) : _root_.Go.OpenSpec := { _root_.Go.OpenSpec.ofChange s with cond := some uptoSmall }

/-- 'shroudlaw20.KeyperBlind', WHERE WHAT IT READS IS OF BULK AT MOST 1048576: true; the input reads as it did. -/
def keyperBlindUptoRow : OpenClaim := { program := "ytnlmeaijnfjakaa", sum := "6ea25b1a907ff31f197e71f14edb3818b8467a1a71a28dd3657eb504df957f6c", func := "shroud/shroudlaw20.KeyperBlind", spec := "keyperBlind", unfollowed := true, recurses := true, plainKeys := false, apart := false, narrowed := true }
def KeyperBlindUptoSaid : Prop := keyperBlindUptoRow.holds Try.pinned (OpenSpec.upto keyperBlindSpec)

/-- 'shroudlaw20.KeyperOpens', WHERE WHAT IT READS IS OF BULK AT MOST 1048576: true; the input reads as it did. -/
def keyperOpensUptoRow : OpenClaim := { program := "ytnlmeaijnfjakaa", sum := "6ea25b1a907ff31f197e71f14edb3818b8467a1a71a28dd3657eb504df957f6c", func := "shroud/shroudlaw20.KeyperOpens", spec := "keyperOpens", unfollowed := true, recurses := true, plainKeys := false, apart := false, narrowed := true }
def KeyperOpensUptoSaid : Prop := keyperOpensUptoRow.holds Try.pinned (OpenSpec.upto keyperOpensSpec)

/-- 'shroudlaw20.KeyperNil', WHERE WHAT IT READS IS OF BULK AT MOST 1048576: true; the input reads as it did. -/
def keyperNilUptoRow : OpenClaim := { program := "ytnlmeaijnfjakaa", sum := "6ea25b1a907ff31f197e71f14edb3818b8467a1a71a28dd3657eb504df957f6c", func := "shroud/shroudlaw20.KeyperNil", spec := "keyperNil", unfollowed := true, recurses := true, plainKeys := false, apart := false, narrowed := true }
def KeyperNilUptoSaid : Prop := keyperNilUptoRow.holds Try.pinned (OpenSpec.upto keyperNilSpec)

/-- 'shroudlaw20.KeyperOne', WHERE WHAT IT READS IS OF BULK AT MOST 1048576: true; the input reads as it did. -/
def keyperOneUptoRow : OpenClaim := { program := "ytnlmeaijnfjakaa", sum := "6ea25b1a907ff31f197e71f14edb3818b8467a1a71a28dd3657eb504df957f6c", func := "shroud/shroudlaw20.KeyperOne", spec := "keyperOne", unfollowed := true, recurses := true, plainKeys := false, apart := false, narrowed := true }
def KeyperOneUptoSaid : Prop := keyperOneUptoRow.holds Try.pinned (OpenSpec.upto keyperOneSpec)

/-- 'shroudlaw20.KeyperPlays', WHERE WHAT IT READS IS OF BULK AT MOST 1048576: true; the input reads as it did. -/
def keyperPlaysUptoRow : OpenClaim := { program := "ytnlmeaijnfjakaa", sum := "6ea25b1a907ff31f197e71f14edb3818b8467a1a71a28dd3657eb504df957f6c", func := "shroud/shroudlaw20.KeyperPlays", spec := "keyperPlays", unfollowed := true, recurses := true, plainKeys := false, apart := false, narrowed := true }
def KeyperPlaysUptoSaid : Prop := keyperPlaysUptoRow.holds Try.pinned (OpenSpec.upto keyperPlaysSpec)

/-- 'shroudlaw20.KeyperCrashes', WHERE WHAT IT READS IS OF BULK AT MOST 1048576: true; the input reads as it did. -/
def keyperCrashesUptoRow : OpenClaim := { program := "ytnlmeaijnfjakaa", sum := "6ea25b1a907ff31f197e71f14edb3818b8467a1a71a28dd3657eb504df957f6c", func := "shroud/shroudlaw20.KeyperCrashes", spec := "keyperCrashes", unfollowed := true, recurses := true, plainKeys := false, apart := false, narrowed := true }
def KeyperCrashesUptoSaid : Prop := keyperCrashesUptoRow.holds Try.pinned (OpenSpec.upto keyperCrashesSpec)

end Rows
end Go.Proofs.Ytnlmeaijnfjakaa
