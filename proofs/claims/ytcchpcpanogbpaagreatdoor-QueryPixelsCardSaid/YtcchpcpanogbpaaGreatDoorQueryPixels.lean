/- scrim/scrimlaw21.QueryPixels returns true at every pair of boxes, and both boxes read as before. No condition. -/
import Derived.Test.YtcchpcpanogbpaaGreatDoorX0
import Derived.Test.YtcchpcpanogbpaaGreatDoorX1
import Derived.Test.YtcchpcpanogbpaaGreatDoorX2
import Derived.Test.YtcchpcpanogbpaaGreatDoorX3
import Derived.Test.YtcchpcpanogbpaaGreatDoorZ5
import Derived.Test.YtcchpcpanogbpaaGreatDoorZ6
import Derived.Test.YtcchpcpanogbpaaGreatDoorRows
import Derived.Test.YtcchpcpanogbpaaGreatDoorProg
import Derived.Test.YtcchpcpanogbpaaGreatDoorTie
import Derived.Test.YtcchpcpanogbpaaGreatDoorCards
import Derived.ProofKit
import Derived.OpenShut
import Derived.LaidMore
import Derived.Lay
import Derived.SevenTiedAt
import Derived.Stop.Joined
import Derived.Carry
import Derived.Lib.SmallJoins
import Derived.Test.YtcchpcpanogbpaaGreatDoorZ4
set_option linter.unusedSimpArgs false
set_option linter.unusedVariables false
section
namespace Go.Proofs.YtcchpcpanogbpaaGreatDoor
open Go.ChangeShapes Go.WideShapes Go.ChangeAt Go.RowKit Go.Lib
set_option maxRecDepth 100000

theorem and_tt {a b : Bool} (h : a = true) (h2 : b = true) : (a && b) = true := by rw [h, h2]; rfl
theorem closed : joinedFacts Tryz.prog 3 Tryz.f3 Rows.queryPixelsSpec Rows.queryPixelsRow = true := by
  unfold joinedFacts
  exact (and_tt (and_tt (and_tt (and_tt (and_tt (and_tt (and_tt (and_tt (and_tt (and_tt (and_tt (and_tt (and_tt (and_tt (and_tt (and_tt (and_tt (and_tt (and_tt (and_tt (and_tt (and_tt (and_tt (and_tt (and_tt (and_tt (and_tt (and_tt (and_tt (and_tt (and_tt fact0 fact1) fact2) fact3) fact4) fact5) fact6) fact7) fact8) fact9) fact10) fact11) fact12) fact13) fact14) fact15) fact16) fact17) fact18) fact19) fact20) fact21) fact22) fact23) fact24) fact25) fact26) fact27) fact28) fact29) fact30) fact31)
end Go.Proofs.YtcchpcpanogbpaaGreatDoor
end
section
namespace Go.Proofs.YtcchpcpanogbpaaGreatDoor
open Go.ChangeShapes Go.WideShapes Go.ChangeAt Go.RowKit Go.Lib
set_option maxRecDepth 100000

theorem over : Rows.QueryPixelsSaid :=
  OpenClaim.holds_of_wide 3 Tryz.f3 rfl rfl rfl rfl rfl rfl rfl ⟨rfl, rfl, rfl, rfl, rfl⟩ rfl rfl rfl rfl rfl named3 Tryz.func3 closed inst3 wrap3
    (fun os started H enc _ => lifted os started H enc)

theorem queryPixels_holds : Rows.QueryPixelsCardSaid :=
  Claim7.holds_tied_plain_at .later [] [.data, .data, .data, .data, .sentinel, .sentinel, .pinned] true (true, "8a802b58fdc92b8b5120379052bfa978423b00ba13d46a8d91d9c8bf8bfe5158") true over (fun _ h => by cases h) wfT (fun _ h => by cases h) queryPixels_row_tie rfl ⟨rfl, rfl⟩ main3 rfl
    (fun f fn hf hfn => by
      obtain rfl : f = 3 := Option.some.inj (named3.symm.trans hf) |>.symm
      obtain rfl : fn = Tryz.f3 := (Option.some.inj (Tryz.func3.symm.trans hfn)).symm
      exact ⟨looks3, fun j t ht => by
        rw [Tryz.params3] at ht
        have hm : t ∈ [23, 23] := by simpa using Array.mem_of_getElem? ht
        exact (show Tryz.prog.wantsStandIn t = false by simpa using List.all_eq_true.1 want3 t hm)⟩)
    goes3
end Go.Proofs.YtcchpcpanogbpaaGreatDoor
end
#print axioms Go.Proofs.YtcchpcpanogbpaaGreatDoor.queryPixels_holds
