import Derived.Test.YtbgbdoljnomakaaGreatDoorTieB
/- The words and kinds of the listed variables. -/
namespace Go.Proofs.YtbgbdoljnomakaaGreatDoor
open Go
noncomputable def tiedKinds : List LaidKind := [.data, .data, .data, .data, .sentinel, .sentinel]
theorem noOwnUnsafe : Tryz.prog.headLifts.contains "ownunsafe" = false := by kernel_rfl
theorem pinFirst : Tryz.prog.pinnedFits "unicode/utf8.first" = true := by kernel_rfl
theorem word1 : Tryz.prog.worded (varsWordLater true) = true := by kernel_rfl
theorem word2 : Tryz.prog.worded (varsWordLater !true) = false := by kernel_rfl
theorem word3 : Tryz.prog.worded rootWordLater = true := by kernel_rfl
theorem kinds1 : tiedList.map (fun x => Tryz.prog.kindOfLater x.1) = tiedKinds.map some := by kernel_rfl
theorem named1 : varsNamedLaterB Tryz.prog 689 tiedList = true := by kernel_rfl
end Go.Proofs.YtbgbdoljnomakaaGreatDoor
