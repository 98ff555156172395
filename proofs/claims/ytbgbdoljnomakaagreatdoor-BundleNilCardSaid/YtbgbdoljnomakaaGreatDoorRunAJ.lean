/- Parts of the run. -/
import Derived.Test.YtbgbdoljnomakaaGreatDoorStatA
namespace Go.Proofs.YtbgbdoljnomakaaGreatDoor
open Go Go.AM
theorem ac21 : chk Tryz.prog [3, 10, 11, 12, 13, 14, 15, 16, 17, 18, 1178, 1182, 1184, 1185, 1186, 1187, 2166, 2200, 2228, 2292, 2341, 2407, 2425, 2829] (@runF sums Tryz.prog 8 34143 as21) = some as22 := by kernel_rfl
theorem ac22 : chk Tryz.prog [3, 10, 11, 12, 13, 14, 15, 16, 17, 18, 1178, 1187, 2166, 2200, 2228, 2292, 2341, 2407, 2425, 3227, 3232, 3245, 3282, 3289, 3290] (@runF sums Tryz.prog 8 22477 as22) = some as23 := by kernel_rfl
end Go.Proofs.YtbgbdoljnomakaaGreatDoor
