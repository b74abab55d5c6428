/- A part of the proof that scrim/scrimlaw21.QueryPixels returns true at every input. -/
import Derived.Test.YtcchpcpanogbpaaGreatDoorRows
import Derived.Test.YtcchpcpanogbpaaGreatDoorProg
import Derived.Test.YtcchpcpanogbpaaGreatDoorTie
import Derived.Test.YtcchpcpanogbpaaGreatDoorCards
import Derived.ProofKit
import Derived.OpenShut
import Derived.LaidMore
import Derived.Lay
import Derived.SevenTiedAt
import Derived.Stop.Joined
import Derived.Carry
import Derived.Lib.SmallJoins
namespace Go.Proofs.YtcchpcpanogbpaaGreatDoor
open Go.ChangeShapes Go.WideShapes Go.ChangeAt Go.RowKit Go.Lib
set_option maxRecDepth 100000

theorem fact0 : (Rows.queryPixelsRow.wf (OpenSpec.ofChange Rows.queryPixelsSpec)) = true := by kernel_rfl
theorem fact1 : (laidOutB Tryz.prog) = true := by kernel_rfl
theorem fact2 : (mapsRowed Tryz.prog) = true := by kernel_rfl
theorem fact3 : (Tryz.f3.params.all (Tryz.prog.readableRec ·)) = true := by kernel_rfl
theorem fact4 : (namedTie Tryz.prog Rows.queryPixelsRow.named Rows.queryPixelsSpec.vars) = true := by kernel_rfl
theorem fact5 : ((Rows.queryPixelsRow.stops == [])) = true := by kernel_rfl
theorem fact6 : ((Tryz.prog.stops == [])) = true := by kernel_rfl
theorem fact7 : ((Rows.queryPixelsRow.knobs == [])) = true := by kernel_rfl
theorem fact8 : ((Tryz.prog.stopKnobs == [])) = true := by kernel_rfl
theorem fact13 : ((Rows.queryPixelsRow.maps == (Tryz.f3.params.toList ++ Rows.queryPixelsSpec.plain.varTypes Tryz.prog).any (Tryz.prog.mapsRec ·))) = true := by kernel_rfl
theorem fact14 : ((Rows.queryPixelsRow.ifaces == (Tryz.f3.params.toList ++ Rows.queryPixelsSpec.plain.varTypes Tryz.prog).any (Tryz.prog.ifacesRec ·))) = true := by kernel_rfl
theorem fact15 : ((Rows.queryPixelsRow.mapsOut == Tryz.prog.mapsAmong Tryz.f3.resultTypes.toList)) = true := by kernel_rfl
end Go.Proofs.YtcchpcpanogbpaaGreatDoor
