/- Parts of the run. -/
import Derived.Test.YtbgbdoljnomakaaGreatDoorStatA
namespace Go.Proofs.YtbgbdoljnomakaaGreatDoor
open Go Go.AM
theorem ac19 : chk Tryz.prog [3, 10, 11, 12, 13, 14, 15, 16, 17, 18, 1178, 1182, 1184, 1185, 1186, 1187, 2166, 2200, 2228, 2292, 2341, 2407, 2425, 2829, 2830] (@runF sums Tryz.prog 8 29127 as19) = some as20 := by kernel_rfl
theorem ac20 : chk Tryz.prog [3, 10, 11, 12, 13, 14, 15, 16, 17, 18, 1178, 1182, 1184, 1185, 1186, 1187, 2166, 2200, 2228, 2292, 2341, 2407, 2425, 2829, 2830, 2831, 2922] (@runF sums Tryz.prog 8 32300 as20) = some as21 := by kernel_rfl
end Go.Proofs.YtbgbdoljnomakaaGreatDoor
