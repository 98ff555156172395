/- Parts of the run. -/
import Derived.Test.YtbgbdoljnomakaaGreatDoorLStatA
namespace Go.Proofs.YtbgbdoljnomakaaGreatDoor
open Go Go.AM
theorem bc8 : chk Tryz.prog [3, 8, 11, 12, 13, 14, 15, 16, 17, 18, 19, 20, 416, 422, 423, 564, 574, 577, 578, 579, 580, 581] (@runF (sumsL true) Tryz.prog 8 33250 bs8) = some bs9 := by kernel_rfl
theorem bc9 : chk Tryz.prog [3, 8, 11, 12, 13, 14, 15, 16, 17, 18, 19, 20, 416, 422, 423, 564, 574, 577, 578, 579, 580, 681, 682, 683, 686, 690, 691, 692, 712, 713, 714, 715, 719, 720, 721, 805, 806, 807, 808] (@runF (sumsL true) Tryz.prog 8 21641 bs9) = some bs10 := by kernel_rfl
end Go.Proofs.YtbgbdoljnomakaaGreatDoor
