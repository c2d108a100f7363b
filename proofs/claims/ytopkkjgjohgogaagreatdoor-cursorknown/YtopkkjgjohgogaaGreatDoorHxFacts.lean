/- hindsightlaw25.CursorKnown: the closed facts of its row, one by one. -/
import Derived.Test.YtopkkjgjohgogaaGreatDoorTie
import Derived.Test.YtopkkjgjohgogaaGreatDoorCards
import Derived.ProofKit
import Derived.OpenShut
import Derived.LaidMore
import Derived.Lay
import Derived.SevenTiedAt
import Derived.Stop.Joined
namespace Go.Proofs.YtopkkjgjohgogaaGreatDoor
open Go.ChangeShapes Go.WideShapes Go.ChangeAt Go.RowKit

theorem fact_inPlace : (Rows.cursorKnownRow.inPlace == Tryz.prog.inPlace 3) = true := by kernel_rfl
theorem fact_unfollowed : (Rows.cursorKnownRow.unfollowed == Tryz.prog.unfollowed 3) = true := by kernel_rfl
theorem fact_named : (Rows.cursorKnownRow.named == Tryz.prog.varsNamed 3) = true := by kernel_rfl
theorem fact_recurses : (Rows.cursorKnownRow.recurses == Tryz.prog.recurses 3) = true := by
  have h := fact_unfollowed
  have h1 : Tryz.prog.unfollowed 3 = true := (eq_of_beq h).symm
  unfold Program.recurses
  rw [h1]
  rfl
theorem and_mk {a b : Bool} (ha : a = true) (hb : b = true) : (a && b) = true := by rw [ha, hb]; rfl
theorem facts : joinedFacts Tryz.pinned.checked.prog 3 Tryz.f3 Rows.cursorKnownSpec Rows.cursorKnownRow = true := by
  unfold joinedFacts
  refine and_mk (and_mk (and_mk (and_mk (and_mk (and_mk (and_mk (and_mk (and_mk (and_mk (and_mk (and_mk (and_mk (and_mk (and_mk (and_mk (and_mk (and_mk (and_mk (and_mk (and_mk (and_mk (and_mk (and_mk (and_mk (and_mk (and_mk (and_mk (and_mk (and_mk (and_mk ?_ ?_) ?_) ?_) ?_) ?_) ?_) ?_) ?_) fact_inPlace) fact_unfollowed) fact_recurses) fact_named) ?_) ?_) ?_) ?_) ?_) ?_) ?_) ?_) ?_) ?_) ?_) ?_) ?_) ?_) ?_) ?_) ?_) ?_) ?_
  all_goals kernel_rfl
end Go.Proofs.YtopkkjgjohgogaaGreatDoor
