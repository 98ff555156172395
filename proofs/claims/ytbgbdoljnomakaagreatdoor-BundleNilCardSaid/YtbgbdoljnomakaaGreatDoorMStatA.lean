/- States of the run, written down (a part). -/
import Derived.Test.YtbgbdoljnomakaaGreatDoorLStatA
namespace Go.Proofs.YtbgbdoljnomakaaGreatDoor
open Go Go.AM
noncomputable def cf0 : AFr := ⟨3, 141, (N (.agg (.cons (.ext 1) (.cons (.ext 2) (.cons (.ext 3) .nil))))), [.code (C 3 [])], [], none⟩
noncomputable def co1 : AObj := .cells (N (.ext 0)) 1 3 false 0 false true
noncomputable def cs0 : ASt := ⟨cf0, [], heapOf [(3, co1)] 8⟩
end Go.Proofs.YtbgbdoljnomakaaGreatDoor
