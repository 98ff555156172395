/- The closed facts of the row, one by one. -/
import Derived.Test.YtlaapfclbfkbhaaGreatDoorRows
import Derived.Test.YtlaapfclbfkbhaaGreatDoorFactA
namespace Go.Proofs.YtlaapfclbfkbhaaGreatDoor
open Go
theorem fact14 : ((Rows.serverNilRow.maps == (Tryz.f3.params.toList ++ Rows.serverNilSpec.plain.varTypes Tryz.prog).any (Tryz.prog.mapsRec ·)) && (Rows.serverNilRow.ifaces == (Tryz.f3.params.toList ++ Rows.serverNilSpec.plain.varTypes Tryz.prog).any (Tryz.prog.ifacesRec ·)) && (Rows.serverNilRow.mapsOut == Tryz.prog.mapsAmong Tryz.f3.resultTypes.toList) &&
      (Rows.serverNilRow.loops == (Tryz.f3.params.toList ++ Rows.serverNilSpec.plain.varTypes Tryz.prog).any (Tryz.prog.loopsFrom ·)) && (Rows.serverNilRow.wideKeys == (Tryz.f3.params.toList ++ Rows.serverNilSpec.plain.varTypes Tryz.prog ++ Tryz.f3.resultTypes.toList).any (Tryz.prog.wideKeysFrom ·)) &&
      Rows.serverNilSpec.vars.all (Tryz.prog.varReadable ·) && Tryz.f3.resultTypes.all (fun t => Tryz.prog.readableRec t && decide (t < Tryz.prog.types.size)) && (Rows.serverNilRow.ifacesOut == Tryz.f3.resultTypes.toList.any (Tryz.prog.ifacesRec ·)) && (Rows.serverNilRow.loopsOut == Tryz.f3.resultTypes.toList.any (Tryz.prog.loopsFrom ·))) = true := by kernel_rfl
theorem fact15 : (Rows.serverNilRow.plainKeys == Tryz.prog.plainKeys) = true := by kernel_rfl
theorem fact17 : Tryz.prog.stopsHeard = true := by kernel_rfl
theorem fact18 : Tryz.prog.mayEnter = true := by kernel_rfl
theorem fact19 : (Rows.serverNilRow.lifted == Tryz.prog.liftsFinal) = true := by kernel_rfl
theorem fact20 : (Tryz.prog.make == some Rows.serverNilRow.make) = true := by kernel_rfl
theorem fact21 : (Rows.serverNilRow.kinds == (if Rows.serverNilRow.domain.isEmpty then [] else AM.kindsOf Tryz.prog Tryz.f3)) = true := by kernel_rfl
theorem fact22 : (Rows.serverNilRow.pinned == Rows.serverNilRow.pinnedBy) = true := by kernel_rfl
theorem fact23 : ((Rows.serverNilRow.veiled == (Tryz.f3.params.toList ++ Rows.serverNilSpec.plain.varTypes Tryz.prog ++ Tryz.f3.resultTypes.toList).any (Tryz.prog.veiledRec ·)) && Rows.serverNilRow.veiledFits Tryz.prog Tryz.f3.params.toList (Tryz.f3.params.toList ++ Rows.serverNilSpec.plain.varTypes Tryz.prog ++ Tryz.f3.resultTypes.toList)) = true := by kernel_rfl
theorem fact24 : Tryz.prog.funcNamed "calque/calquelaw59.ServerNil" = some 3 := by kernel_rfl
end Go.Proofs.YtlaapfclbfkbhaaGreatDoor
