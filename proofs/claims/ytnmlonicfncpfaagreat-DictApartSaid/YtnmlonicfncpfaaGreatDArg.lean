/- What a law's arguments are. -/
import Derived.Test.YtnmlonicfncpfaaGreatRows
import Derived.Test.YtnmlonicfncpfaaGreatDKd
namespace Go.Proofs.YtnmlonicfncpfaaGreat
open Go.RowKit X
theorem own : ownKnob Tryz.prog.godebug = none := by kernel_rfl
theorem laidOut : laidOutB Tryz.prog = true := by kernel_rfl
theorem i64_wf {n : Int} (hw : (Lit.int .i64 n).wf = true) : I64 n := by
  have hr : -9223372036854775808 ≤ n ∧ n ≤ 9223372036854775807 := by simpa [Lit.wf, IntKind.signed, IntKind.bits, IntKind.min, IntKind.max] using hw
  exact hr
end Go.Proofs.YtnmlonicfncpfaaGreat
