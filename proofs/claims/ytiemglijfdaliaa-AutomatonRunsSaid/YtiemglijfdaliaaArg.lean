/- What a law's arguments are. -/
import Derived.Test.YtiemglijfdaliaaRows
import Derived.Test.YtiemglijfdaliaaOpen
import Derived.Test.YtiemglijfdaliaaRef
namespace Go.Proofs.Ytiemglijfdaliaa
open Go.RowKit X
theorem own : ownKnob Try.prog.godebug = none := by kernel_rfl
theorem laidOut : laidOutB Try.prog = true := by kernel_rfl
theorem o_pixs : Opens Try.prog 34 (Kd.sl 34 kP) := opens_sl Try.underlying34 (opens_int Try.underlying24 24) (by kernel_rfl) (by decide) 34
theorem o_rows : Opens Try.prog 22 (Kd.sl 22 kW) := opens_sl Try.underlying22 o_pixs (by kernel_rfl) (by decide) 22
end Go.Proofs.Ytiemglijfdaliaa
