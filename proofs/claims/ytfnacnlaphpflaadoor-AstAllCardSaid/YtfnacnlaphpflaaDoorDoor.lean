/- The words, as the door lays them. -/
import Derived.Test.YtfnacnlaphpflaaDoorTie
import Derived.Test.YtfnacnlaphpflaaDoorLaid
import Derived.Test.YtfnacnlaphpflaaDoorTree
import Derived.LaidMore
namespace Go.Proofs.YtfnacnlaphpflaaDoor
open Go.ChangeShapes Go.WideShapes Go.ChangeAt Go.RowKit Go.Deep Go.Kx
set_option maxRecDepth 1000000
theorem door_metW (os : Os) (args : Array Value) : laidMetH Tryd.prog laidW ((World.doorLaid Tryd.prog 200 os).forCall (fun _ _ => 0) ⟨#[], args, []⟩).memory :=
  laidMetH_of_parts3 (fuel := 8) (laidMet_of_run' 8 (by kernel_rfl) (by kernel_rfl)) (by kernel_rfl) (by kernel_rfl)
end Go.Proofs.YtfnacnlaphpflaaDoor
