import Derived.Test.YtbgbdoljnomakaaGreatDoorCards
import Derived.Test.YtbgbdoljnomakaaGreatDoorTieA
import Derived.Test.YtbgbdoljnomakaaGreatDoorTieC
import Derived.SevenTiedAt
import Derived.Test.YtbgbdoljnomakaaGreatDoorAmKit
import Derived.Test.YtbgbdoljnomakaaGreatDoorFactC
/- The closed facts of the tied card. -/
namespace Go.Proofs.YtbgbdoljnomakaaGreatDoor
open Go
theorem fits1 : Tryz.pinned.checked.prog.listedFits Rows.bundleNilRow.laid = true := by
  unfold Program.listedFits
  rw [show Tryz.pinned.checked.prog.headLifts.contains "ownunsafe" = false from noOwnUnsafe]
  kernel_rfl
theorem tie : Tryz.prog.laidByTextLater tiedList tiedKinds true :=
  AM.tie_by_rows 689 100 8 tiedRows word1 word2 word3 kinds1 varsNum named1 varsEnd varsData varsPlaces varsRows (by decide) (by kernel_rfl)
theorem datum1 : Pinned.datum "unicode/utf8.first" = some Rows.laid_unicode_utf8_first := by kernel_rfl
theorem card1 : Rows.bundleNilRow.wfByText (OpenSpec.ofChange Rows.bundleNilSpec) = true := by kernel_rfl
theorem card2 : Tryz.prog.mainIs = some (true, "ee7f0c8761e0bc1d678bb65f1d7ad23decd6107981a8756267086a98e58cda75".toList) := by kernel_rfl
theorem card3 : true = Tryz.prog.looks [] := by kernel_rfl
theorem goesA : AM.noneGoes Tryz.prog 0 250 = true := by kernel_rfl
theorem goesB : AM.noneGoes Tryz.prog 250 250 = true := by kernel_rfl
theorem goesC : AM.noneGoes Tryz.prog 500 190 = true := by kernel_rfl
theorem fsize : Tryz.prog.funcs.size = 690 := by kernel_rfl
theorem card4 : false = Rows.bundleNilRow.goesBy Tryz.prog := AM.goesBy_of rfl fact24 fsize (AM.noneGoes_two (a := 0) (k := 500) (m := 190) (AM.noneGoes_two (a := 0) (k := 250) (m := 250) goesA goesB) goesC)
theorem card5 : Tryz.prog.wantsStandIn 24 = false := by kernel_rfl
end Go.Proofs.YtbgbdoljnomakaaGreatDoor
