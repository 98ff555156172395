import Derived.Test.YtbgbdoljnomakaaGreatDoorRows
import Derived.Test.YtbgbdoljnomakaaGreatDoorFactA
/- The closed facts of the row, one by one. -/
namespace Go.Proofs.YtbgbdoljnomakaaGreatDoor
open Go
theorem fact1 : Rows.bundleNilRow.wf (OpenSpec.ofChange Rows.bundleNilSpec) = true := by kernel_rfl
theorem fact3 : mapsRowed Tryz.prog = true := by kernel_rfl
theorem fact4 : Tryz.f3.params.all (Tryz.prog.readableRec ·) = true := by kernel_rfl
theorem fact5 : namedTie Tryz.prog Rows.bundleNilRow.named Rows.bundleNilSpec.vars = true := by kernel_rfl
theorem fact7 : (Tryz.prog.stops == []) = true := by kernel_rfl
theorem fact9 : (Tryz.prog.stopKnobs == []) = true := by kernel_rfl
end Go.Proofs.YtbgbdoljnomakaaGreatDoor
