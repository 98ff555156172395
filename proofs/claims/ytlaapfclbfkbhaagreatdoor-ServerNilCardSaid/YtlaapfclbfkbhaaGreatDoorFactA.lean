/- Every row of the table of types is laid out. -/
import Derived.Test.YtlaapfclbfkbhaaGreatDoorProg
import Derived.Test.YtlaapfclbfkbhaaGreatDoorAmKit
namespace Go.Proofs.YtlaapfclbfkbhaaGreatDoor
open Go
theorem fineA : (List.range' 0 100).all (rowFine Tryz.prog) = true := by kernel_rfl
theorem fineB : (List.range' 100 100).all (rowFine Tryz.prog) = true := by kernel_rfl
theorem fineC : (List.range' 200 100).all (rowFine Tryz.prog) = true := by kernel_rfl
theorem fineD : (List.range' 300 100).all (rowFine Tryz.prog) = true := by kernel_rfl
theorem fineE : (List.range' 400 100).all (rowFine Tryz.prog) = true := by kernel_rfl
theorem fineF : (List.range' 500 100).all (rowFine Tryz.prog) = true := by kernel_rfl
theorem fineG : (List.range' 600 96).all (rowFine Tryz.prog) = true := by kernel_rfl
theorem tsize : Tryz.prog.types.size = 696 := by kernel_rfl
theorem globFit : Tryz.prog.globals.all (fun g => decide (g.type < Tryz.prog.types.size)) = true := by kernel_rfl
theorem parFit : AM.paramsFit 696 Tryz.prog.funcs.toList = true := by kernel_rfl
theorem laidOut : laidOutB Tryz.prog = true := AM.laidOut_of tsize (fun t ht => by
  by_cases h1 : t < 100
  · exact AM.fine_of fineA (Nat.zero_le _) h1
  by_cases h2 : t < 200
  · exact AM.fine_of fineB (by omega) (by omega)
  by_cases h3 : t < 300
  · exact AM.fine_of fineC (by omega) (by omega)
  by_cases h4 : t < 400
  · exact AM.fine_of fineD (by omega) (by omega)
  by_cases h5 : t < 500
  · exact AM.fine_of fineE (by omega) (by omega)
  by_cases h6 : t < 600
  · exact AM.fine_of fineF (by omega) (by omega)
  · exact AM.fine_of fineG (by omega) (by omega)) globFit (AM.params_of tsize rfl parFit)
end Go.Proofs.YtlaapfclbfkbhaaGreatDoor
