import Derived.Test.YtbgbdoljnomakaaGreatDoorProg
import Derived.Test.YtbgbdoljnomakaaGreatDoorAmKit
/- Every row of the table of types is laid out. -/
namespace Go.Proofs.YtbgbdoljnomakaaGreatDoor
open Go
theorem fineA : (List.range' 0 100).all (rowFine Tryz.prog) = true := by kernel_rfl
theorem fineB : (List.range' 100 100).all (rowFine Tryz.prog) = true := by kernel_rfl
theorem fineC : (List.range' 200 100).all (rowFine Tryz.prog) = true := by kernel_rfl
theorem fineD : (List.range' 300 100).all (rowFine Tryz.prog) = true := by kernel_rfl
theorem fineE : (List.range' 400 100).all (rowFine Tryz.prog) = true := by kernel_rfl
theorem fineF : (List.range' 500 100).all (rowFine Tryz.prog) = true := by kernel_rfl
theorem fineG : (List.range' 600 100).all (rowFine Tryz.prog) = true := by kernel_rfl
theorem fineH : (List.range' 700 10).all (rowFine Tryz.prog) = true := by kernel_rfl
theorem tsize : Tryz.prog.types.size = 710 := by kernel_rfl
theorem globFit : Tryz.prog.globals.all (fun g => decide (g.type < Tryz.prog.types.size)) = true := by kernel_rfl
theorem parFit : AM.paramsFit 710 Tryz.prog.funcs.toList = true := by kernel_rfl
theorem laidOut : laidOutB Tryz.prog = true := AM.laidOut_of tsize (fun t ht => by
  by_cases h0 : t < 100
  · exact AM.fine_of fineA (by omega) (by omega)
  by_cases h100 : t < 200
  · exact AM.fine_of fineB (by omega) (by omega)
  by_cases h200 : t < 300
  · exact AM.fine_of fineC (by omega) (by omega)
  by_cases h300 : t < 400
  · exact AM.fine_of fineD (by omega) (by omega)
  by_cases h400 : t < 500
  · exact AM.fine_of fineE (by omega) (by omega)
  by_cases h500 : t < 600
  · exact AM.fine_of fineF (by omega) (by omega)
  by_cases h600 : t < 700
  · exact AM.fine_of fineG (by omega) (by omega)
  exact AM.fine_of fineH (by omega) (by omega)) globFit (AM.params_of tsize rfl parFit)
end Go.Proofs.YtbgbdoljnomakaaGreatDoor
