/- The reference's Add and Sub, walked. -/
import Derived.Test.YtcggeogpanackaaRefCmp
namespace Go.Proofs.Ytcggeogpanackaa
open Go.RowKit Go.Kx
set_option maxRecDepth 20000

theorem refcmpr (a b : Tm) (ha : a.ok) (hb : b.ok) {x : Int} (h : cmpT a b = x) (w : World) :
    Calls Try.prog 43 #[.agg #[.int .i64 a.1, .int .i64 a.2], .agg #[.int .i64 b.1, .int .i64 b.2]] w fun r w' => r = .returned (.int .i64 x) ∧ Only [] w w' := by
  have := refcmp_any a b ha hb w
  rwa [h] at this
theorem refcmp_fin {a b : Tm} {n d m k : Nat} (fa : Fin a n d) (fb : Fin b m k) {x : Int} (h : cmpT a b = x) (w : World) :
    Calls Try.prog 43 #[.agg #[.int .i64 n, .int .i64 d], .agg #[.int .i64 m, .int .i64 k]] w fun r w' => r = .returned (.int .i64 x) ∧ Only [] w w' := by
  have := refcmpr a b fa.ok fb.ok h w
  rw [fa.eq, fb.eq] at this
  exact this
theorem refcmp_nf {b : Tm} {m k : Nat} (fb : Fin b m k) (w : World) :
    Calls Try.prog 43 #[.agg #[.int .i64 1, .int .i64 0], .agg #[.int .i64 m, .int .i64 k]] w fun r w' => r = .returned (.int .i64 1) ∧ Only [] w w' := by
  have := refcmpr (1, 0) b ok_never fb.ok (cmp_never_l fb) w
  rw [fb.eq] at this
  exact this
theorem toD_sum_len {n k m d : Nat} (hn : n ≤ 9223372036854775807) (hk : k ≤ 9223372036854775807) (hm : m ≤ 9223372036854775807) (hd : d ≤ 9223372036854775807) : (toD (n * k + m * d)).length ≤ 10 := by
  have h1 : n * k ≤ 9223372036854775807 * 9223372036854775807 := Nat.mul_le_mul hn hk
  have h2 : m * d ≤ 9223372036854775807 * 9223372036854775807 := Nat.mul_le_mul hm hd
  exact toD_len_le (by omega)
theorem toD_dif_len {n k : Nat} (hn : n ≤ 9223372036854775807) (hk : k ≤ 9223372036854775807) (x : Nat) : (toD (n * k - x)).length ≤ 10 := by
  have h1 : n * k ≤ 9223372036854775807 * 9223372036854775807 := Nat.mul_le_mul hn hk
  exact toD_len_le (by omega)

theorem subw {a b : Tm} (h : ¬ (a.right = true ∧ b.right = true)) : subT a b = ((0, 0), 1) := by unfold subT; rw [if_neg h]
theorem subnr {a : Tm} (h : a.right = true) : subT a (1, 0) = ((0, 0), 4) := by unfold subT; rw [if_pos ⟨h, right_never⟩, if_pos (.inl rfl)]
theorem sublt {a b : Tm} (ha : a.right = true) (hb : b.right = true) (h : cmpT a b < 0) : subT a b = ((0, 0), 4) := by unfold subT; rw [if_pos ⟨ha, hb⟩, if_pos (.inr h)]
theorem subnl {b : Tm} {m k : Nat} (fb : Fin b m k) : subT (1, 0) b = ((1, 0), 0) := by
  unfold subT
  rw [if_pos ⟨right_never, fb.right⟩, if_neg (by rintro (h | h); exact fb.ne h; rw [cmp_never_l fb] at h; omega), if_pos rfl]
theorem subfin {a b : Tm} {n d m k : Nat} (fa : Fin a n d) (fb : Fin b m k) (h : ¬ cmpT a b < 0) : subT a b = redT (n * k - m * d) (d * k) := by
  unfold subT
  rw [if_pos ⟨fa.right, fb.right⟩, if_neg (by rintro (h1 | h1); exact fb.ne h1; exact h h1), if_neg fa.ne, fa.eq, fb.eq]
  rfl

end Go.Proofs.Ytcggeogpanackaa
