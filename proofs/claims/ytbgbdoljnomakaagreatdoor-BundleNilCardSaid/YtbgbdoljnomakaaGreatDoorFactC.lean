import Derived.Test.YtbgbdoljnomakaaGreatDoorRows
import Derived.Test.YtbgbdoljnomakaaGreatDoorFactA
/- The closed facts of the row, one by one. -/
namespace Go.Proofs.YtbgbdoljnomakaaGreatDoor
open Go
theorem fact14 : ((Rows.bundleNilRow.maps == (Tryz.f3.params.toList ++ Rows.bundleNilSpec.plain.varTypes Tryz.prog).any (Tryz.prog.mapsRec ·)) && (Rows.bundleNilRow.ifaces == (Tryz.f3.params.toList ++ Rows.bundleNilSpec.plain.varTypes Tryz.prog).any (Tryz.prog.ifacesRec ·)) && (Rows.bundleNilRow.mapsOut == Tryz.prog.mapsAmong Tryz.f3.resultTypes.toList) &&
      (Rows.bundleNilRow.loops == (Tryz.f3.params.toList ++ Rows.bundleNilSpec.plain.varTypes Tryz.prog).any (Tryz.prog.loopsFrom ·)) && (Rows.bundleNilRow.wideKeys == (Tryz.f3.params.toList ++ Rows.bundleNilSpec.plain.varTypes Tryz.prog ++ Tryz.f3.resultTypes.toList).any (Tryz.prog.wideKeysFrom ·)) &&
      Rows.bundleNilSpec.vars.all (Tryz.prog.varReadable ·) && Tryz.f3.resultTypes.all (fun t => Tryz.prog.readableRec t && decide (t < Tryz.prog.types.size)) && (Rows.bundleNilRow.ifacesOut == Tryz.f3.resultTypes.toList.any (Tryz.prog.ifacesRec ·)) && (Rows.bundleNilRow.loopsOut == Tryz.f3.resultTypes.toList.any (Tryz.prog.loopsFrom ·))) = true := by kernel_rfl
theorem fact15 : (Rows.bundleNilRow.plainKeys == Tryz.prog.plainKeys) = true := by kernel_rfl
theorem fact17 : Tryz.prog.stopsHeard = true := by kernel_rfl
theorem fact18 : Tryz.prog.mayEnter = true := by kernel_rfl
theorem fact19 : (Rows.bundleNilRow.lifted == Tryz.prog.liftsFinal) = true := by kernel_rfl
theorem fact20 : (Tryz.prog.make == some Rows.bundleNilRow.make) = true := by kernel_rfl
theorem fact21 : (Rows.bundleNilRow.kinds == (if Rows.bundleNilRow.domain.isEmpty then [] else AM.kindsOf Tryz.prog Tryz.f3)) = true := by kernel_rfl
theorem fact22 : (Rows.bundleNilRow.pinned == Rows.bundleNilRow.pinnedBy) = true := by kernel_rfl
theorem fact23 : ((Rows.bundleNilRow.veiled == (Tryz.f3.params.toList ++ Rows.bundleNilSpec.plain.varTypes Tryz.prog ++ Tryz.f3.resultTypes.toList).any (Tryz.prog.veiledRec ·)) && Rows.bundleNilRow.veiledFits Tryz.prog Tryz.f3.params.toList (Tryz.f3.params.toList ++ Rows.bundleNilSpec.plain.varTypes Tryz.prog ++ Tryz.f3.resultTypes.toList)) = true := by kernel_rfl
theorem fact24 : Tryz.prog.funcNamed "calque/calquelaw54.BundleNil" = some 3 := by kernel_rfl
end Go.Proofs.YtbgbdoljnomakaaGreatDoor
