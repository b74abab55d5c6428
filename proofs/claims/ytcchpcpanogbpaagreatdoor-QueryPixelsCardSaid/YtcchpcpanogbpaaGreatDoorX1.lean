/- A part of the proof that scrim/scrimlaw21.QueryPixels returns true at every input. -/
import Derived.Test.YtcchpcpanogbpaaGreatDoorRows
import Derived.Test.YtcchpcpanogbpaaGreatDoorProg
import Derived.Test.YtcchpcpanogbpaaGreatDoorTie
import Derived.Test.YtcchpcpanogbpaaGreatDoorCards
import Derived.ProofKit
import Derived.OpenShut
import Derived.LaidMore
import Derived.Lay
import Derived.SevenTiedAt
import Derived.Stop.Joined
import Derived.Carry
import Derived.Lib.SmallJoins
namespace Go.Proofs.YtcchpcpanogbpaaGreatDoor
open Go.ChangeShapes Go.WideShapes Go.ChangeAt Go.RowKit Go.Lib
set_option maxRecDepth 100000

theorem fact9 : ((Rows.queryPixelsRow.inPlace == Tryz.prog.inPlace 3)) = true := by kernel_rfl
theorem fact24 : (Tryz.prog.stopsHeard) = true := by kernel_rfl
end Go.Proofs.YtcchpcpanogbpaaGreatDoor
