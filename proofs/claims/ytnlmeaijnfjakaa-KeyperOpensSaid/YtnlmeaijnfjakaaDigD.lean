/- Digests compared. -/
import Derived.Test.YtnlmeaijnfjakaaDigC
import Derived.Stop.BytesEq
import Derived.Laws.StructEq
namespace Go.Proofs.Ytnlmeaijnfjakaa.Sh
set_option linter.unusedSimpArgs false
set_option linter.unusedVariables false
open Go Go.RowKit

theorem eql_dig (a b : List UInt8) (ha : a.length = 32) (hb : b.length = 32) (w : World) : (binOp .eql 35 (vD a) (vD b)).run Try.prog w = .ok (.bool (a == b)) w := by
  have h : (Op.equalIn (9998 + 2) 35 (vD a) (vD b)).run Try.prog w = .ok (a == b) w :=
    run_equalIn_bytes w 9998 35 5 32 Try.underlying35 Try.underlying5 (fun w => by kernel_rfl) a b ha hb
  exact (run_eql_struct (P := Try.prog) (w := w) _ _ _).trans (by rw [show (Op.equalIn 10000 35 (.agg (bytes a).toArray) (.agg (bytes b).toArray)).run Try.prog w = .ok (a == b) w from h]; rfl)
end Go.Proofs.Ytnlmeaijnfjakaa.Sh
