/- What the listed tables hold. -/
import Derived.Test.YtgpljjejfebhoaaDoorLaid
import Derived.Test.YtgpljjejfebhoaaDoorTxt
import Derived.Stop.LaidErr
import Derived.Lib.LaidTab
namespace Go.Proofs.YtgpljjejfebhoaaDoor
open Go.ChangeShapes Go.WideShapes Go.ChangeAt Go.RowKit Go.Deep Go.Kx
set_option maxRecDepth 1000000
theorem tab_of_laid {W : World} (hL : laidMetH Tryd.prog laid3 W) : Tab10 W := by
  have hL2 : laidMet Tryd.prog laid3 W := hL
  exact Lib.tabIs_of_head (g := 1) (t := 95) (e := 85) (n := 20) (rest := []) (zs := Lib.pow10Tab) (k := .u64) (by kernel_rfl) (by kernel_rfl) Tryd.underlying95 Tryd.underlying85 (by kernel_rfl) (by kernel_rfl) hL2.tail.tail
end Go.Proofs.YtgpljjejfebhoaaDoor
