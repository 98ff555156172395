/- Parts of the run. -/
import Derived.Test.YtbgbdoljnomakaaGreatDoorMStatA
namespace Go.Proofs.YtbgbdoljnomakaaGreatDoor
open Go Go.AM
theorem cc0 : chkD (@runF (sumsL false) Tryz.prog 8 23 cs0) = some (.bool true) := by kernel_rfl
end Go.Proofs.YtbgbdoljnomakaaGreatDoor
