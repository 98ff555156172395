/- Parts of the run. -/
import Derived.Test.YtbgbdoljnomakaaGreatDoorStatA
namespace Go.Proofs.YtbgbdoljnomakaaGreatDoor
open Go Go.AM
theorem ac15 : chk Tryz.prog [3, 10, 11, 12, 13, 14, 15, 16, 17, 18, 1178, 1182, 1184, 1185, 1186, 1187, 1188, 1189, 1190, 1191, 1192, 1193, 1194, 1195, 1907, 1908, 1912] (@runF sums Tryz.prog 8 24491 as15) = some as16 := by kernel_rfl
theorem ac16 : chk Tryz.prog [3, 10, 11, 12, 13, 14, 15, 16, 17, 18, 1178, 1182, 1184, 1185, 1186, 1187, 1188, 2042, 2043, 2044] (@runF sums Tryz.prog 8 29982 as16) = some as17 := by kernel_rfl
end Go.Proofs.YtbgbdoljnomakaaGreatDoor
