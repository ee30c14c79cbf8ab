/- What a law's arguments are. -/
import Derived.Test.YtooaelpfbamebaaRows
import Derived.Test.YtooaelpfbamebaaOpen
import Derived.Test.YtooaelpfbamebaaRef
namespace Go.Proofs.Ytooaelpfbamebaa
open Go.RowKit X
theorem own : ownKnob Try.prog.godebug = none := by kernel_rfl
theorem laidOut : laidOutB Try.prog = true := by kernel_rfl
theorem o_pixs : Opens Try.prog 23 (Kd.sl 23 kP) := opens_sl Try.underlying23 (opens_int Try.underlying39 39) (by kernel_rfl) (by decide) 23
theorem o_rows : Opens Try.prog 22 (Kd.sl 22 kW) := opens_sl Try.underlying22 o_pixs (by kernel_rfl) (by decide) 22
end Go.Proofs.Ytooaelpfbamebaa
