/- SpanSums, SpanAsks: the laws' own walks. -/
import Derived.Test.YtcggeogpanackaaRefSum
namespace Go.Proofs.Ytcggeogpanackaa
open Go.RowKit Go.Kx
set_option maxRecDepth 20000

theorem rightr {a : Tm} (ha : a.ok) {x : Bool} (h : a.right = x) (w : World) :
    Calls Try.prog 40 #[.agg #[.int .i64 a.1, .int .i64 a.2]] w fun e w' => e = .returned (.bool x) ∧ Only [] w w' := by
  have := right_any a.1 a.2 ha.1 ha.2 w
  unfold Tm.right at h
  rwa [h] at this
theorem refrightr {a : Tm} (ha : a.ok) {x : Bool} (h : a.right = x) (w : World) :
    Calls Try.prog 30 #[.agg #[.int .i64 a.1, .int .i64 a.2]] w fun e w' => e = .returned (.bool x) ∧ Only [] w w' := by
  have := refright_any a.1 a.2 ha.1 ha.2 w
  unfold Tm.right at h
  rwa [h] at this

end Go.Proofs.Ytcggeogpanackaa
