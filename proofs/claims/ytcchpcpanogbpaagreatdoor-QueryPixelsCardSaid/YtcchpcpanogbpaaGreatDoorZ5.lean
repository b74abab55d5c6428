/- A part of the proof that scrim/scrimlaw21.QueryPixels returns true at every input. -/
import Derived.Test.YtcchpcpanogbpaaGreatDoorRows
import Derived.Test.YtcchpcpanogbpaaGreatDoorProg
import Derived.Test.YtcchpcpanogbpaaGreatDoorTie
import Derived.Test.YtcchpcpanogbpaaGreatDoorCards
import Derived.ProofKit
import Derived.OpenShut
import Derived.LaidMore
import Derived.Lay
import Derived.SevenTiedAt
import Derived.Stop.Joined
import Derived.Carry
import Derived.Lib.SmallJoins
namespace Go.Proofs.YtcchpcpanogbpaaGreatDoor
open Go.ChangeShapes Go.WideShapes Go.ChangeAt Go.RowKit Go.Lib
set_option maxRecDepth 100000

theorem named3 : Tryz.prog.funcNamed "scrim/scrimlaw21.QueryPixels" = some 3 := by kernel_rfl
theorem inst3 : Tryz.f3.isInstance Tryz.prog Rows.queryPixelsRow.origin Rows.queryPixelsRow.targs := of_decide_eq_true (by kernel_rfl)
theorem wrap3 : Tryz.f3.isWrapper Tryz.prog Rows.queryPixelsRow.wrapper Rows.queryPixelsRow.mainSum := by unfold Func.isWrapper; first | (rw [if_pos (by decide +kernel)]; kernel_rfl) | (rw [if_neg (by decide +kernel)]; exact ⟨rfl, rfl⟩)
end Go.Proofs.YtcchpcpanogbpaaGreatDoor
