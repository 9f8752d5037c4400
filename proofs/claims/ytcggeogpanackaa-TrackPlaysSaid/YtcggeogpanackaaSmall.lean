/- Small laws of times. -/
import Derived.Test.YtcggeogpanackaaPlain
namespace Go.Proofs.Ytcggeogpanackaa
open Go.RowKit Go.Kx
set_option maxRecDepth 20000

theorem eq_times (a b c d : Int) (W : World) : (binOp .eql 24 (.agg #[.int .i64 a, .int .i64 b]) (.agg #[.int .i64 c, .int .i64 d])).run Try.prog W = .ok (.bool (decide (a = c ∧ b = d))) W := by
  by_cases h : a = c <;> by_cases h2 : b = d <;> simp [go_sem, h, h2]
theorem eq_timesF {a b : Tm} (h : a ≠ b) (W : World) : (binOp .eql 24 (.agg #[.int .i64 a.1, .int .i64 a.2]) (.agg #[.int .i64 b.1, .int .i64 b.2])).run Try.prog W = .ok (.bool false) W := by
  rw [eq_times, decide_eq_false]
  exact fun k => h (Prod.ext k.1 k.2)
theorem eq_never (W : World) : (binOp .eql 24 (.agg #[.int .i64 1, .int .i64 0]) (.agg #[.int .i64 1, .int .i64 0])).run Try.prog W = .ok (.bool true) W := by
  rw [eq_times]; rfl
theorem _root_.Go.Kx.Blk.facts2 {w : World} {g : Nat} {t : TypeId} {a b : Value} (h : Blk w g t #[a, b]) : w.cell? ⟨g, 0, none⟩ = some a ∧ w.cell? ⟨g, 1, none⟩ = some b ∧ g < w.heap.size :=
  ⟨by simpa using h.cell 0, by simpa using h.cell 1, h.lt⟩
theorem cmpr (a b : Tm) (ha : a.ok) (hb : b.ok) {x : Int} (h : cmpT a b = x) (w : World) :
    Calls Try.prog 53 #[.agg #[.int .i64 a.1, .int .i64 a.2], .agg #[.int .i64 b.1, .int .i64 b.2]] w fun r w' => r = .returned (.int .i64 x) ∧ Only [] w w' := by
  have := cmp_any a b ha hb w
  rwa [h] at this
end Go.Proofs.Ytcggeogpanackaa
