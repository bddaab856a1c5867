/-
  No cell of these rows narrows 'for every input' (looked for: loops, veiled, ifaces, maps, wideKeys, modest, calm, conditions, laid).
  DERIVED. THE GIVEN ROWS OF THIS SEAT. 12 by the template 'for every input the law returns true; each argument reads behind the call as it read before'; 0 by the template 'total and deterministic' (their statements: YtcceiejfphokbaaTotals.lean).
  GIVEN WITH THE SEED: the statements are not yours to turn. If you find one false, say at which input.
  Laid BY PROGRAM, IN A SANDBOX (cutbox-rows.mjs): the forced cells as the released guide's own fill.sh prints them over the translation 62a2c2407b673e7d… (all of the seat's roots in one cut). By AI agents, Wed Nov 11 2026. No macro, syntax, notation, axiom, sorry.
-/
import Derived.Test.YtcceiejfphokbaaChecked
import GoSem.Claim
import GoSem.ClaimJoined
import GoSem.ClaimMapViews
import Derived.JoinedTies
import Derived.KernelRfl
namespace Go.Proofs.Ytcceiejfphokbaa
/- THE CELL 'sum', in the pinned program and in every row, IS THE sha256 OF THE DUMP (.gsa) THAT YtcceiejfphokbaaProg.lean LOADS. Nothing in Lean hashes anything: it is a label: what it is worth is what the hold of that sum in a sandbox is worth. -/
noncomputable def Try.pinned : Pinned := { name := "ytcceiejfphokbaa", sum := "62a2c2407b673e7db4bd33946b62e61154d8790f03cfdd231385e8be35e72ee0", checked := Try.checked }
namespace Rows
def none {H : Type} : Left H := { results := [], args := [] }

/-- 'shroudlaw09.CrcChecks': WHATEVER THE INPUT: true; the input reads as it did. -/
def crcChecksSpec : ChangeSpec := { name := "crcChecks", fn := fun _ => fun
  | [d1, d2] => { results := [.lit (.bool true)], args := [d1, d2] }
  | _ => none }
def crcChecksRow : OpenClaim := { program := "ytcceiejfphokbaa", sum := "62a2c2407b673e7db4bd33946b62e61154d8790f03cfdd231385e8be35e72ee0", func := "shroud/shroudlaw09.CrcChecks", spec := "crcChecks", apart := false }
def CrcChecksSaid : Prop := crcChecksRow.holds Try.pinned (OpenSpec.ofChange crcChecksSpec)

/-- ITS FALSE NEIGHBOUR: 'it returns false'. Refute it at one input. -/
def crcChecksWrong : ChangeSpec := { name := "crcChecks", fn := fun _ => fun
  | [d1, d2] => { results := [.lit (.bool false)], args := [d1, d2] }
  | _ => none }
def CrcChecksWrongFalsely : Prop := crcChecksRow.holds Try.pinned (OpenSpec.ofChange crcChecksWrong)

/-- 'shroudlaw09.CrcSums': WHATEVER THE INPUT: true; the input reads as it did. -/
def crcSumsSpec : ChangeSpec := { name := "crcSums", fn := fun _ => fun
  | [d1, d2, d3] => { results := [.lit (.bool true)], args := [d1, d2, d3] }
  | _ => none }
def crcSumsRow : OpenClaim := { program := "ytcceiejfphokbaa", sum := "62a2c2407b673e7db4bd33946b62e61154d8790f03cfdd231385e8be35e72ee0", func := "shroud/shroudlaw09.CrcSums", spec := "crcSums", apart := false }
def CrcSumsSaid : Prop := crcSumsRow.holds Try.pinned (OpenSpec.ofChange crcSumsSpec)

/-- ITS FALSE NEIGHBOUR: 'it returns false'. Refute it at one input. -/
def crcSumsWrong : ChangeSpec := { name := "crcSums", fn := fun _ => fun
  | [d1, d2, d3] => { results := [.lit (.bool false)], args := [d1, d2, d3] }
  | _ => none }
def CrcSumsWrongFalsely : Prop := crcSumsRow.holds Try.pinned (OpenSpec.ofChange crcSumsWrong)

/-- 'shroudlaw08.CodecPanics': WHATEVER THE INPUT: true; the input reads as it did. -/
def codecPanicsSpec : ChangeSpec := { name := "codecPanics", fn := fun _ => fun
  | [d1, d2] => { results := [.lit (.bool true)], args := [d1, d2] }
  | _ => none }
def codecPanicsRow : OpenClaim := { program := "ytcceiejfphokbaa", sum := "62a2c2407b673e7db4bd33946b62e61154d8790f03cfdd231385e8be35e72ee0", func := "shroud/shroudlaw08.CodecPanics", spec := "codecPanics", unfollowed := true, recurses := true, apart := false }
def CodecPanicsSaid : Prop := codecPanicsRow.holds Try.pinned (OpenSpec.ofChange codecPanicsSpec)

/-- ITS FALSE NEIGHBOUR: 'it returns false'. Refute it at one input. -/
def codecPanicsWrong : ChangeSpec := { name := "codecPanics", fn := fun _ => fun
  | [d1, d2] => { results := [.lit (.bool false)], args := [d1, d2] }
  | _ => none }
def CodecPanicsWrongFalsely : Prop := codecPanicsRow.holds Try.pinned (OpenSpec.ofChange codecPanicsWrong)

/-- 'shroudlaw09.CrcFrames': WHATEVER THE INPUT: true; the input reads as it did. -/
def crcFramesSpec : ChangeSpec := { name := "crcFrames", fn := fun _ => fun
  | [d1, d2] => { results := [.lit (.bool true)], args := [d1, d2] }
  | _ => none }
def crcFramesRow : OpenClaim := { program := "ytcceiejfphokbaa", sum := "62a2c2407b673e7db4bd33946b62e61154d8790f03cfdd231385e8be35e72ee0", func := "shroud/shroudlaw09.CrcFrames", spec := "crcFrames", apart := false }
def CrcFramesSaid : Prop := crcFramesRow.holds Try.pinned (OpenSpec.ofChange crcFramesSpec)

/-- ITS FALSE NEIGHBOUR: 'it returns false'. Refute it at one input. -/
def crcFramesWrong : ChangeSpec := { name := "crcFrames", fn := fun _ => fun
  | [d1, d2] => { results := [.lit (.bool false)], args := [d1, d2] }
  | _ => none }
def CrcFramesWrongFalsely : Prop := crcFramesRow.holds Try.pinned (OpenSpec.ofChange crcFramesWrong)

/-- 'shroudlaw09.CrcTurned': WHATEVER THE INPUT: true; the input reads as it did. -/
def crcTurnedSpec : ChangeSpec := { name := "crcTurned", fn := fun _ => fun
  | [d1, d2, d3] => { results := [.lit (.bool true)], args := [d1, d2, d3] }
  | _ => none }
def crcTurnedRow : OpenClaim := { program := "ytcceiejfphokbaa", sum := "62a2c2407b673e7db4bd33946b62e61154d8790f03cfdd231385e8be35e72ee0", func := "shroud/shroudlaw09.CrcTurned", spec := "crcTurned", apart := false }
def CrcTurnedSaid : Prop := crcTurnedRow.holds Try.pinned (OpenSpec.ofChange crcTurnedSpec)

/-- ITS FALSE NEIGHBOUR: 'it returns false'. Refute it at one input. -/
def crcTurnedWrong : ChangeSpec := { name := "crcTurned", fn := fun _ => fun
  | [d1, d2, d3] => { results := [.lit (.bool false)], args := [d1, d2, d3] }
  | _ => none }
def CrcTurnedWrongFalsely : Prop := crcTurnedRow.holds Try.pinned (OpenSpec.ofChange crcTurnedWrong)

/-- 'shroudlaw09.CrcAll': WHATEVER THE INPUT: true; the input reads as it did. -/
def crcAllSpec : ChangeSpec := { name := "crcAll", fn := fun _ => fun
  | [d] => { results := [.lit (.bool true)], args := [d] }
  | _ => none }
def crcAllRow : OpenClaim := { program := "ytcceiejfphokbaa", sum := "62a2c2407b673e7db4bd33946b62e61154d8790f03cfdd231385e8be35e72ee0", func := "shroud/shroudlaw09.CrcAll", spec := "crcAll", apart := false }
def CrcAllSaid : Prop := crcAllRow.holds Try.pinned (OpenSpec.ofChange crcAllSpec)

/-- ITS FALSE NEIGHBOUR: 'it returns false'. Refute it at one input. -/
def crcAllWrong : ChangeSpec := { name := "crcAll", fn := fun _ => fun
  | [d] => { results := [.lit (.bool false)], args := [d] }
  | _ => none }
def CrcAllWrongFalsely : Prop := crcAllRow.holds Try.pinned (OpenSpec.ofChange crcAllWrong)

/-- 'shroudlaw09.CrcBack': WHATEVER THE INPUT: true; the input reads as it did. -/
def crcBackSpec : ChangeSpec := { name := "crcBack", fn := fun _ => fun
  | [d1, d2] => { results := [.lit (.bool true)], args := [d1, d2] }
  | _ => none }
def crcBackRow : OpenClaim := { program := "ytcceiejfphokbaa", sum := "62a2c2407b673e7db4bd33946b62e61154d8790f03cfdd231385e8be35e72ee0", func := "shroud/shroudlaw09.CrcBack", spec := "crcBack", apart := false }
def CrcBackSaid : Prop := crcBackRow.holds Try.pinned (OpenSpec.ofChange crcBackSpec)

/-- ITS FALSE NEIGHBOUR: 'it returns false'. Refute it at one input. -/
def crcBackWrong : ChangeSpec := { name := "crcBack", fn := fun _ => fun
  | [d1, d2] => { results := [.lit (.bool false)], args := [d1, d2] }
  | _ => none }
def CrcBackWrongFalsely : Prop := crcBackRow.holds Try.pinned (OpenSpec.ofChange crcBackWrong)

/-- 'shroudlaw08.CodecReads': WHATEVER THE INPUT: true; the input reads as it did. -/
def codecReadsSpec : ChangeSpec := { name := "codecReads", fn := fun _ => fun
  | [d1, d2] => { results := [.lit (.bool true)], args := [d1, d2] }
  | _ => none }
def codecReadsRow : OpenClaim := { program := "ytcceiejfphokbaa", sum := "62a2c2407b673e7db4bd33946b62e61154d8790f03cfdd231385e8be35e72ee0", func := "shroud/shroudlaw08.CodecReads", spec := "codecReads", unfollowed := true, recurses := true, apart := false }
def CodecReadsSaid : Prop := codecReadsRow.holds Try.pinned (OpenSpec.ofChange codecReadsSpec)

/-- ITS FALSE NEIGHBOUR: 'it returns false'. Refute it at one input. -/
def codecReadsWrong : ChangeSpec := { name := "codecReads", fn := fun _ => fun
  | [d1, d2] => { results := [.lit (.bool false)], args := [d1, d2] }
  | _ => none }
def CodecReadsWrongFalsely : Prop := codecReadsRow.holds Try.pinned (OpenSpec.ofChange codecReadsWrong)

/-- 'shroudlaw09.CrcOwn': WHATEVER THE INPUT: true; the input reads as it did. -/
def crcOwnSpec : ChangeSpec := { name := "crcOwn", fn := fun _ => fun
  | [d1, d2] => { results := [.lit (.bool true)], args := [d1, d2] }
  | _ => none }
def crcOwnRow : OpenClaim := { program := "ytcceiejfphokbaa", sum := "62a2c2407b673e7db4bd33946b62e61154d8790f03cfdd231385e8be35e72ee0", func := "shroud/shroudlaw09.CrcOwn", spec := "crcOwn", apart := false }
def CrcOwnSaid : Prop := crcOwnRow.holds Try.pinned (OpenSpec.ofChange crcOwnSpec)

/-- ITS FALSE NEIGHBOUR: 'it returns false'. Refute it at one input. -/
def crcOwnWrong : ChangeSpec := { name := "crcOwn", fn := fun _ => fun
  | [d1, d2] => { results := [.lit (.bool false)], args := [d1, d2] }
  | _ => none }
def CrcOwnWrongFalsely : Prop := crcOwnRow.holds Try.pinned (OpenSpec.ofChange crcOwnWrong)

/-- 'shroudlaw08.CodecBack': WHATEVER THE INPUT: true; the input reads as it did. -/
def codecBackSpec : ChangeSpec := { name := "codecBack", fn := fun _ => fun
  | [d] => { results := [.lit (.bool true)], args := [d] }
  | _ => none }
def codecBackRow : OpenClaim := { program := "ytcceiejfphokbaa", sum := "62a2c2407b673e7db4bd33946b62e61154d8790f03cfdd231385e8be35e72ee0", func := "shroud/shroudlaw08.CodecBack", spec := "codecBack", unfollowed := true, recurses := true, apart := false }
def CodecBackSaid : Prop := codecBackRow.holds Try.pinned (OpenSpec.ofChange codecBackSpec)

/-- ITS FALSE NEIGHBOUR: 'it returns false'. Refute it at one input. -/
def codecBackWrong : ChangeSpec := { name := "codecBack", fn := fun _ => fun
  | [d] => { results := [.lit (.bool false)], args := [d] }
  | _ => none }
def CodecBackWrongFalsely : Prop := codecBackRow.holds Try.pinned (OpenSpec.ofChange codecBackWrong)

/-- 'shroudlaw08.CodecAgain': WHATEVER THE INPUT: true; the input reads as it did. -/
def codecAgainSpec : ChangeSpec := { name := "codecAgain", fn := fun _ => fun
  | [d1, d2] => { results := [.lit (.bool true)], args := [d1, d2] }
  | _ => none }
def codecAgainRow : OpenClaim := { program := "ytcceiejfphokbaa", sum := "62a2c2407b673e7db4bd33946b62e61154d8790f03cfdd231385e8be35e72ee0", func := "shroud/shroudlaw08.CodecAgain", spec := "codecAgain", unfollowed := true, recurses := true, apart := false }
def CodecAgainSaid : Prop := codecAgainRow.holds Try.pinned (OpenSpec.ofChange codecAgainSpec)

/-- ITS FALSE NEIGHBOUR: 'it returns false'. Refute it at one input. -/
def codecAgainWrong : ChangeSpec := { name := "codecAgain", fn := fun _ => fun
  | [d1, d2] => { results := [.lit (.bool false)], args := [d1, d2] }
  | _ => none }
def CodecAgainWrongFalsely : Prop := codecAgainRow.holds Try.pinned (OpenSpec.ofChange codecAgainWrong)

/-- 'shroudlaw08.CodecCuts': WHATEVER THE INPUT: true; the input reads as it did. -/
def codecCutsSpec : ChangeSpec := { name := "codecCuts", fn := fun _ => fun
  | [d1, d2, d3] => { results := [.lit (.bool true)], args := [d1, d2, d3] }
  | _ => none }
def codecCutsRow : OpenClaim := { program := "ytcceiejfphokbaa", sum := "62a2c2407b673e7db4bd33946b62e61154d8790f03cfdd231385e8be35e72ee0", func := "shroud/shroudlaw08.CodecCuts", spec := "codecCuts", unfollowed := true, recurses := true, apart := false }
def CodecCutsSaid : Prop := codecCutsRow.holds Try.pinned (OpenSpec.ofChange codecCutsSpec)

/-- ITS FALSE NEIGHBOUR: 'it returns false'. Refute it at one input. -/
def codecCutsWrong : ChangeSpec := { name := "codecCuts", fn := fun _ => fun
  | [d1, d2, d3] => { results := [.lit (.bool false)], args := [d1, d2, d3] }
  | _ => none }
def CodecCutsWrongFalsely : Prop := codecCutsRow.holds Try.pinned (OpenSpec.ofChange codecCutsWrong)

/- THE SECOND FORM. 'bulk': how many values and letters a reading holds, each counted each time it is reached (what is shared counts as often as it is met; a slice's spare places count too). A statement '..UptoSaid' is the law's where the arguments, and the package variables that the reading takes, are together of bulk at most 1048576: NARROWER than '..Said'. Prove '..Said' where nothing that the law and all that it calls make is longer than what came in: it says more and counts as full. Else prove '..UptoSaid'. A law counts once. -/
mutual
def uptoBulk {H : Type} : DataW H → Nat
  | .lit (.string bytes) => bytes.length + 1
  | .lit _ => 1
  | .nil => 1
  | .ptr d => uptoBulk d + 1
  | .slice elems spare => uptoBulkAll elems + uptoBulkAll spare + 1
  | .agg parts => uptoBulkAll parts + 1
  | .iface _ d => uptoBulk d + 1
  | .map entries => uptoBulkEntries entries + 1
  | .held _ => 1
def uptoBulkAll {H : Type} : List (DataW H) → Nat
  | [] => 0
  | d :: r => uptoBulk d + uptoBulkAll r
def uptoBulkEntries {H : Type} : List (Lit × DataW H) → Nat
  | [] => 0
  | x :: r => uptoBulkEntry x + uptoBulkEntries r
def uptoBulkEntry {H : Type} : Lit × DataW H → Nat
  | (.string bytes, d) => bytes.length + uptoBulk d + 1
  | (_, d) => uptoBulk d + 1
 end
def uptoSmall : (H : Type) → List (DataW H) → Bool := fun _ ds => decide (uptoBulkAll ds ≤ 1048576)
def OpenSpec.upto (s : _root_.Go.ChangeSpec) : _root_.Go.OpenSpec := { _root_.Go.OpenSpec.ofChange s with cond := some uptoSmall }

/-- 'shroudlaw09.CrcChecks', WHERE WHAT IT READS IS OF BULK AT MOST 1048576: true; the input reads as it did. -/
def crcChecksUptoRow : OpenClaim := { program := "ytcceiejfphokbaa", sum := "62a2c2407b673e7db4bd33946b62e61154d8790f03cfdd231385e8be35e72ee0", func := "shroud/shroudlaw09.CrcChecks", spec := "crcChecks", apart := false, narrowed := true }
def CrcChecksUptoSaid : Prop := crcChecksUptoRow.holds Try.pinned (OpenSpec.upto crcChecksSpec)

/-- 'shroudlaw09.CrcSums', WHERE WHAT IT READS IS OF BULK AT MOST 1048576: true; the input reads as it did. -/
def crcSumsUptoRow : OpenClaim := { program := "ytcceiejfphokbaa", sum := "62a2c2407b673e7db4bd33946b62e61154d8790f03cfdd231385e8be35e72ee0", func := "shroud/shroudlaw09.CrcSums", spec := "crcSums", apart := false, narrowed := true }
def CrcSumsUptoSaid : Prop := crcSumsUptoRow.holds Try.pinned (OpenSpec.upto crcSumsSpec)

/-- 'shroudlaw08.CodecPanics', WHERE WHAT IT READS IS OF BULK AT MOST 1048576: true; the input reads as it did. -/
def codecPanicsUptoRow : OpenClaim := { program := "ytcceiejfphokbaa", sum := "62a2c2407b673e7db4bd33946b62e61154d8790f03cfdd231385e8be35e72ee0", func := "shroud/shroudlaw08.CodecPanics", spec := "codecPanics", unfollowed := true, recurses := true, apart := false, narrowed := true }
def CodecPanicsUptoSaid : Prop := codecPanicsUptoRow.holds Try.pinned (OpenSpec.upto codecPanicsSpec)

/-- 'shroudlaw09.CrcFrames', WHERE WHAT IT READS IS OF BULK AT MOST 1048576: true; the input reads as it did. -/
def crcFramesUptoRow : OpenClaim := { program := "ytcceiejfphokbaa", sum := "62a2c2407b673e7db4bd33946b62e61154d8790f03cfdd231385e8be35e72ee0", func := "shroud/shroudlaw09.CrcFrames", spec := "crcFrames", apart := false, narrowed := true }
def CrcFramesUptoSaid : Prop := crcFramesUptoRow.holds Try.pinned (OpenSpec.upto crcFramesSpec)

/-- 'shroudlaw09.CrcTurned', WHERE WHAT IT READS IS OF BULK AT MOST 1048576: true; the input reads as it did. -/
def crcTurnedUptoRow : OpenClaim := { program := "ytcceiejfphokbaa", sum := "62a2c2407b673e7db4bd33946b62e61154d8790f03cfdd231385e8be35e72ee0", func := "shroud/shroudlaw09.CrcTurned", spec := "crcTurned", apart := false, narrowed := true }
def CrcTurnedUptoSaid : Prop := crcTurnedUptoRow.holds Try.pinned (OpenSpec.upto crcTurnedSpec)

/-- 'shroudlaw09.CrcAll', WHERE WHAT IT READS IS OF BULK AT MOST 1048576: true; the input reads as it did. -/
def crcAllUptoRow : OpenClaim := { program := "ytcceiejfphokbaa", sum := "62a2c2407b673e7db4bd33946b62e61154d8790f03cfdd231385e8be35e72ee0", func := "shroud/shroudlaw09.CrcAll", spec := "crcAll", apart := false, narrowed := true }
def CrcAllUptoSaid : Prop := crcAllUptoRow.holds Try.pinned (OpenSpec.upto crcAllSpec)

/-- 'shroudlaw09.CrcBack', WHERE WHAT IT READS IS OF BULK AT MOST 1048576: true; the input reads as it did. -/
def crcBackUptoRow : OpenClaim := { program := "ytcceiejfphokbaa", sum := "62a2c2407b673e7db4bd33946b62e61154d8790f03cfdd231385e8be35e72ee0", func := "shroud/shroudlaw09.CrcBack", spec := "crcBack", apart := false, narrowed := true }
def CrcBackUptoSaid : Prop := crcBackUptoRow.holds Try.pinned (OpenSpec.upto crcBackSpec)

/-- 'shroudlaw08.CodecReads', WHERE WHAT IT READS IS OF BULK AT MOST 1048576: true; the input reads as it did. -/
def codecReadsUptoRow : OpenClaim := { program := "ytcceiejfphokbaa", sum := "62a2c2407b673e7db4bd33946b62e61154d8790f03cfdd231385e8be35e72ee0", func := "shroud/shroudlaw08.CodecReads", spec := "codecReads", unfollowed := true, recurses := true, apart := false, narrowed := true }
def CodecReadsUptoSaid : Prop := codecReadsUptoRow.holds Try.pinned (OpenSpec.upto codecReadsSpec)

/-- 'shroudlaw09.CrcOwn', WHERE WHAT IT READS IS OF BULK AT MOST 1048576: true; the input reads as it did. -/
def crcOwnUptoRow : OpenClaim := { program := "ytcceiejfphokbaa", sum := "62a2c2407b673e7db4bd33946b62e61154d8790f03cfdd231385e8be35e72ee0", func := "shroud/shroudlaw09.CrcOwn", spec := "crcOwn", apart := false, narrowed := true }
def CrcOwnUptoSaid : Prop := crcOwnUptoRow.holds Try.pinned (OpenSpec.upto crcOwnSpec)

/-- 'shroudlaw08.CodecBack', WHERE WHAT IT READS IS OF BULK AT MOST 1048576: true; the input reads as it did. -/
def codecBackUptoRow : OpenClaim := { program := "ytcceiejfphokbaa", sum := "62a2c2407b673e7db4bd33946b62e61154d8790f03cfdd231385e8be35e72ee0", func := "shroud/shroudlaw08.CodecBack", spec := "codecBack", unfollowed := true, recurses := true, apart := false, narrowed := true }
def CodecBackUptoSaid : Prop := codecBackUptoRow.holds Try.pinned (OpenSpec.upto codecBackSpec)

/-- 'shroudlaw08.CodecAgain', WHERE WHAT IT READS IS OF BULK AT MOST 1048576: true; the input reads as it did. -/
def codecAgainUptoRow : OpenClaim := { program := "ytcceiejfphokbaa", sum := "62a2c2407b673e7db4bd33946b62e61154d8790f03cfdd231385e8be35e72ee0", func := "shroud/shroudlaw08.CodecAgain", spec := "codecAgain", unfollowed := true, recurses := true, apart := false, narrowed := true }
def CodecAgainUptoSaid : Prop := codecAgainUptoRow.holds Try.pinned (OpenSpec.upto codecAgainSpec)

/-- 'shroudlaw08.CodecCuts', WHERE WHAT IT READS IS OF BULK AT MOST 1048576: true; the input reads as it did. -/
def codecCutsUptoRow : OpenClaim := { program := "ytcceiejfphokbaa", sum := "62a2c2407b673e7db4bd33946b62e61154d8790f03cfdd231385e8be35e72ee0", func := "shroud/shroudlaw08.CodecCuts", spec := "codecCuts", unfollowed := true, recurses := true, apart := false, narrowed := true }
def CodecCutsUptoSaid : Prop := codecCutsUptoRow.holds Try.pinned (OpenSpec.upto codecCutsSpec)

end Rows
end Go.Proofs.Ytcceiejfphokbaa
