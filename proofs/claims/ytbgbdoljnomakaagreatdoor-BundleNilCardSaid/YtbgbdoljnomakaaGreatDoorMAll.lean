/- The whole run out of its parts. -/
import Derived.Test.YtbgbdoljnomakaaGreatDoorMRunAA
namespace Go.Proofs.YtbgbdoljnomakaaGreatDoor
open Go Go.AM
theorem ce0 : @Go.AM.Ends (sumsL false) Tryz.prog 8 (fun v => v = .bool true) cs0 := @Go.AM.Ends.of_chkD (sumsL false) _ _ _ _ _ _ cc0 rfl
end Go.Proofs.YtbgbdoljnomakaaGreatDoor
