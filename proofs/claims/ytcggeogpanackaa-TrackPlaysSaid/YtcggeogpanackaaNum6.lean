/- The reference's made, Never: walked. -/
import Derived.Test.YtcggeogpanackaaNum5
namespace Go.Proofs.Ytcggeogpanackaa
open Go.RowKit Go.Kx
set_option maxRecDepth 20000

theorem cmpN_gt {a b : Nat} : decide (0 < cmpN a b) = decide (b < a) := by
  unfold cmpN
  by_cases h : a < b
  · rw [if_pos h]; simp; omega
  · rw [if_neg h]
    by_cases h2 : a = b
    · rw [if_pos h2]; simp; omega
    · rw [if_neg h2]; simp; omega

theorem refnever_any (a b : Int) (w : World) : Calls Try.prog 31 #[.agg #[.int .i64 a, .int .i64 b]] w fun e w' => e = .returned (.bool (decide (a = 1) && decide (b = 0))) ∧ Only [] w w' := by
  by_cases h1 : a = 1
  · subst h1
    by_cases h2 : b = 0
    · subst h2
      go_enter Try.func31, Try.ntmps31
      go_wp2_with (fail)
      go_ret
      exact ⟨rfl, (Only.refl [] w).alloc _⟩
    · have h2' : (b == 0) = false := by simpa using h2
      have e : decide (b = 0) = false := by simpa using h2
      rw [e]
      clear h2 e
      go_enter Try.func31, Try.ntmps31
      go_wp2_with (fail)
      go_ret
      exact ⟨rfl, (Only.refl [] w).alloc _⟩
  · have h1' : (a == 1) = false := by simpa using h1
    have e : decide (a = 1) = false := by simpa using h1
    rw [e, Bool.false_and]
    clear h1 e
    go_enter Try.func31, Try.ntmps31
    go_wp2_with (fail)
    go_ret
    exact ⟨rfl, (Only.refl [] w).alloc _⟩
end Go.Proofs.Ytcggeogpanackaa
