/- What the five listed variables hold. -/
import Derived.Test.YtgfmahfdkiblbaaDoorLaid2
import Derived.Test.YtgfmahfdkiblbaaDoorTextLaws
namespace Go.Proofs.YtgfmahfdkiblbaaDoor
open Go.ChangeShapes Go.WideShapes Go.ChangeAt Go.RowKit Go.Deep Go.Kx
set_option maxRecDepth 1000000

abbrev laid5 : List (String × DataW Unit) := [("math/bits.deBruijn32tab", Rows.laid_math_bits_deBruijn32tab), ("math/bits.deBruijn64tab", Rows.laid_math_bits_deBruijn64tab), ("internal/strconv.uint64pow10", Rows.laid_internal_strconv_uint64pow10), ("strconv.ErrRange", Rows.laid_strconv_ErrRange), ("strconv.ErrSyntax", Rows.laid_strconv_ErrSyntax)]
theorem door_met5 (os : Os) (args : Array Value) : laidMetH Tryd.prog laid5 ((World.doorLaid Tryd.prog 62 os).forCall (fun _ _ => 0) ⟨#[], args, []⟩).memory :=
  laidMetH_of_parts3 (fuel := 8) (laidMet_of_run' 8 (by kernel_rfl) (by kernel_rfl)) (by kernel_rfl) (by kernel_rfl)
theorem star_err : "*" ++ "errors.errorString" = "*errors.errorString" := by decide
theorem row110 : ∀ u, Tryd.prog.typeName? 3 u = some "*errors.errorString" → u = 110 := fun u h =>
  typeName_ptr_named (nm := "errors.errorString") (by rw [star_err]; kernel_rfl) (by kernel_rfl) (by decide) u (by rw [star_err]; exact h)
theorem vars_of_laid {W : World} (hL : laidMetH Tryd.prog laid5 W) (hsh : W.ShapedOpen Tryd.prog) : Vars W := by
  have hL2 : laidMet Tryd.prog laid5 W := hL
  have h3 := hL2.tail.tail
  have h4 := h3.tail
  have h5 := h4.tail
  refine ⟨?_, ⟨?_, ?_⟩, Tryd.laysM145.s1_3 W hsh⟩
  · exact Lib.tabIs_of_head (g := 3) (t := 94) (e := 46) (n := 20) (rest := [("strconv.ErrRange", Rows.laid_strconv_ErrRange), ("strconv.ErrSyntax", Rows.laid_strconv_ErrSyntax)]) (zs := Lib.pow10Tab) (k := .u64) (by kernel_rfl) (by kernel_rfl) Tryd.underlying94 Tryd.underlying46 (by kernel_rfl) (by kernel_rfl) h3
  · obtain ⟨a, s, hv, _⟩ := laid_sentinel (g := 4) (ti := 73) (tp := 110) (te := 112) (ts := 9) h5 (by kernel_rfl) (by kernel_rfl) Tryd.underlying73 row110 Tryd.underlying110 Tryd.underlying112 rfl rfl Tryd.underlying9 (by kernel_rfl) (by kernel_rfl)
    exact ⟨_, _, hv⟩
  · obtain ⟨a, s, hv, _⟩ := laid_sentinel (g := 5) (ti := 73) (tp := 110) (te := 112) (ts := 9) h4 (by kernel_rfl) (by kernel_rfl) Tryd.underlying73 row110 Tryd.underlying110 Tryd.underlying112 rfl rfl Tryd.underlying9 (by kernel_rfl) (by kernel_rfl)
    exact ⟨_, _, hv⟩
end Go.Proofs.YtgfmahfdkiblbaaDoor
