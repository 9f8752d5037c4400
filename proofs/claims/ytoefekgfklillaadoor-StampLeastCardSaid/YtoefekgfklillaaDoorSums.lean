/- SpanSums, SpanAsks: the laws' own walks. -/
import Derived.Test.YtoefekgfklillaaDoorRefSum
namespace Go.Proofs.YtoefekgfklillaaDoor
open Go.RowKit Go.Kx
set_option maxRecDepth 20000

theorem refaddr (a b : Tm) (ha : a.ok) (hb : b.ok) {s : Tm} {e : Int} (h : addT a b = (s, e)) (w : World) :
    Calls Tryd.prog 38 #[.agg #[.int .i64 a.1, .int .i64 a.2], .agg #[.int .i64 b.1, .int .i64 b.2]] w fun r w' => r = .returned (.tuple #[.agg #[.int .i64 s.1, .int .i64 s.2], .int .i64 e]) ∧ Only [] w w' := by
  have := refadd_any a b ha hb w
  rwa [h] at this
theorem rightr {a : Tm} (ha : a.ok) {x : Bool} (h : a.right = x) (w : World) :
    Calls Tryd.prog 27 #[.agg #[.int .i64 a.1, .int .i64 a.2]] w fun e w' => e = .returned (.bool x) ∧ Only [] w w' := by
  have := right_any a.1 a.2 ha.1 ha.2 w
  unfold Tm.right at h
  rwa [h] at this
theorem refrightr {a : Tm} (ha : a.ok) {x : Bool} (h : a.right = x) (w : World) :
    Calls Tryd.prog 31 #[.agg #[.int .i64 a.1, .int .i64 a.2]] w fun e w' => e = .returned (.bool x) ∧ Only [] w w' := by
  have := refright_any a.1 a.2 ha.1 ha.2 w
  unfold Tm.right at h
  rwa [h] at this

end Go.Proofs.YtoefekgfklillaaDoor
