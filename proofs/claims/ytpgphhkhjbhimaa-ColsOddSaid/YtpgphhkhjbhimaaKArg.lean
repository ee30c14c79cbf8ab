/- What the arguments of the laws of columns are. -/
import Derived.Test.YtpgphhkhjbhimaaRows
import Derived.Test.YtpgphhkhjbhimaaOpen
import Derived.Test.YtpgphhkhjbhimaaCRef
namespace Go.Proofs.Ytpgphhkhjbhimaa
open Go.RowKit X
theorem own : ownKnob Try.prog.godebug = none := by kernel_rfl
theorem laidOut : laidOutB Try.prog = true := by kernel_rfl
theorem o_ints : Opens Try.prog 30 (Kd.sl 30 kI) := opens_sl Try.underlying30 (opens_int Try.underlying3 3) (by kernel_rfl) (by decide) 30
theorem o_intss : Opens Try.prog 22 (Kd.sl 22 kII) := opens_sl Try.underlying22 o_ints (by kernel_rfl) (by decide) 22
end Go.Proofs.Ytpgphhkhjbhimaa
