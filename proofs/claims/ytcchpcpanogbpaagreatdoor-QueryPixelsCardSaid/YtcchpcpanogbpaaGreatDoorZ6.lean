/- A part of the proof that scrim/scrimlaw21.QueryPixels returns true at every input. -/
import Derived.Test.YtcchpcpanogbpaaGreatDoorRows
import Derived.Test.YtcchpcpanogbpaaGreatDoorProg
import Derived.Test.YtcchpcpanogbpaaGreatDoorTie
import Derived.Test.YtcchpcpanogbpaaGreatDoorCards
import Derived.ProofKit
import Derived.OpenShut
import Derived.LaidMore
import Derived.Lay
import Derived.SevenTiedAt
import Derived.Stop.Joined
import Derived.Carry
import Derived.Lib.SmallJoins
namespace Go.Proofs.YtcchpcpanogbpaaGreatDoor
open Go.ChangeShapes Go.WideShapes Go.ChangeAt Go.RowKit Go.Lib
set_option maxRecDepth 100000

theorem wfT : Rows.queryPixelsRow.wfByText (OpenSpec.ofChange Rows.queryPixelsSpec) = true := by kernel_rfl
theorem main3 : Tryz.pinned.checked.prog.mainIs = some (true, "8a802b58fdc92b8b5120379052bfa978423b00ba13d46a8d91d9c8bf8bfe5158".toList) := by kernel_rfl
theorem goes3 : false = Rows.queryPixelsRow.goesBy Tryz.pinned.checked.prog := by kernel_rfl
theorem looks3 : true = Tryz.prog.looks [] := by kernel_rfl
theorem want3 : ([23, 23].all fun u => !Tryz.prog.wantsStandIn u) = true := by kernel_rfl
end Go.Proofs.YtcchpcpanogbpaaGreatDoor
