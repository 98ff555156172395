/- The closed facts of the tied card. -/
import Derived.Test.YtlaapfclbfkbhaaGreatDoorCards
import Derived.Test.YtlaapfclbfkbhaaGreatDoorTieA
import Derived.Test.YtlaapfclbfkbhaaGreatDoorTieC
import Derived.SevenTiedAt
import Derived.Test.YtlaapfclbfkbhaaGreatDoorAmKit
import Derived.Test.YtlaapfclbfkbhaaGreatDoorFactC
namespace Go.Proofs.YtlaapfclbfkbhaaGreatDoor
open Go
theorem fits1 : Tryz.pinned.checked.prog.listedFits Rows.serverNilRow.laid = true := by
  unfold Program.listedFits
  rw [show Tryz.pinned.checked.prog.headLifts.contains "ownunsafe" = false from noOwnUnsafe]
  kernel_rfl
theorem tie : Tryz.prog.laidByTextLater tiedList tiedKinds true :=
  AM.tie_by_rows 678 100 8 tiedRows word1 word2 word3 kinds1 varsNum named1 varsEnd varsData varsPlaces varsRows (by decide) (by kernel_rfl)
theorem datum1 : Pinned.datum "unicode/utf8.first" = some Rows.laid_unicode_utf8_first := by kernel_rfl
theorem card1 : Rows.serverNilRow.wfByText (OpenSpec.ofChange Rows.serverNilSpec) = true := by kernel_rfl
theorem card2 : Tryz.prog.mainIs = some (true, "9a02695d7680a282e3835438e4cb9db35318abfd1ff86466c35eb92b0c08f748".toList) := by kernel_rfl
theorem card3 : true = Tryz.prog.looks [] := by kernel_rfl
theorem goesA : AM.noneGoes Tryz.prog 0 250 = true := by kernel_rfl
theorem goesB : AM.noneGoes Tryz.prog 250 250 = true := by kernel_rfl
theorem goesC : AM.noneGoes Tryz.prog 500 179 = true := by kernel_rfl
theorem fsize : Tryz.prog.funcs.size = 679 := by kernel_rfl
theorem card4 : false = Rows.serverNilRow.goesBy Tryz.prog := AM.goesBy_of rfl fact24 fsize (AM.noneGoes_two (a := 0) (k := 500) (m := 179) (AM.noneGoes_two (a := 0) (k := 250) (m := 250) goesA goesB) goesC)
theorem card5 : Tryz.prog.wantsStandIn 23 = false := by kernel_rfl
end Go.Proofs.YtlaapfclbfkbhaaGreatDoor
