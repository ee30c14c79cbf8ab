/- The reference's parent; all nodes by their depth. -/
import Derived.Test.YtpgphhkhjbhimaaLvlP
namespace Go.Proofs.Ytpgphhkhjbhimaa
open Go.RowKit X
set_option maxHeartbeats 2000000
set_option maxRecDepth 8000
set_option linter.unusedSimpArgs false
set_option linter.unusedVariables false
end Go.Proofs.Ytpgphhkhjbhimaa
