import Derived.Test.YtcggeogpanackaaRows
import Derived.Test.YtcggeogpanackaaWords
import Derived.Laws.MathBits
namespace Go.Proofs.Ytcggeogpanackaa
open Go.RowKit Go.Kx

theorem gcd_step (a b : Nat) : Nat.gcd b (a % b) = Nat.gcd a b := by
  rw [Nat.gcd_comm b, ← Nat.gcd_rec, Nat.gcd_comm]

/-- span.divisor -/
theorem divisor_any (a b : Nat) (ha : a < 18446744073709551616) (hb : b < 18446744073709551616) (w : World) :
    Calls Try.prog 51 #[.int .u64 a, .int .u64 b] w fun e w' => e = .returned (.int .u64 (Nat.gcd a b)) ∧ ∃ n, w' = w.drewN n := by
  go_enter Try.func51, Try.ntmps51
  go_wp2
  go_loopw [0, 1] (fun x y wr => ∃ c d : Nat, c < 18446744073709551616 ∧ d < 18446744073709551616 ∧ x = .int .u64 c ∧ y = .int .u64 d ∧ Nat.gcd c d = Nat.gcd a b ∧ ∃ n, wr = w.drewN n) (fun _ y _ => (intOf y).toNat)
  case atStart => exact ⟨a, b, ha, hb, rfl, rfl, rfl, 0, rfl⟩
  case round =>
    obtain ⟨c, d, hc, hd, rfl, rfl, hg, n, rfl⟩ := hrel
    by_cases h0 : d = 0
    · subst h0
      go_wp2_with (fail)
      go_ret
      simp at hg
      exact ⟨by rw [← hg]; rfl, _, rfl⟩
    · have h0' : (d : Int) ≠ 0 := by omega
      have hm : c % d < d := Nat.mod_lt _ (by omega)
      go_wp2_with (fail)
      go_quiet (fail)
      go_wp2_with (fail)
      go_roundw
      case rel => exact ⟨d, c % d, hd, by omega, rfl, by go_num, by rw [gcd_step]; exact hg, _, World.drewN_drewN _ _ _⟩
      case measure => simp [intOf]; omega

theorem product_any (a b : Nat) (ha : a < 18446744073709551616) (hb : b < 18446744073709551616) (w : World) :
    Calls Try.prog 57 #[.int .u64 a, .int .u64 b] w fun e w' => e = .returned (.tuple #[.int .u64 ((a * b / 18446744073709551616 : Nat) : Int), .int .u64 ((a * b % 18446744073709551616 : Nat) : Int)]) ∧ w' = w := by
  go_enter Try.func57, Try.ntmps57
  go_wp2_with (fail)
  go_ret2
  refine ⟨?_, rfl⟩
  show Ending.returned (.tuple #[.int .u64 _, .int .u64 _]) = _
  have hm := mul64_arith (a : Int) b (by omega) (by omega) (by omega) (by omega)
  rw [and_low32 (a : Int) (by omega) (by omega), and_low32 (b : Int) (by omega) (by omega)]
  simp only [IntKind.wrap_u64]
  rw [and_low32 _ (Int.emod_nonneg _ (by omega)) (Int.emod_lt_of_pos _ (by omega))]
  rw [Int.add_comm (((a : Int) % 4294967296 * (b / 4294967296)) % 18446744073709551616), hm]
  simp

def mostI : Nat := 9223372036854775807

theorem never_any (w : World) : Calls Try.prog 41 #[] w fun e w' => e = .returned (.agg #[.int .i64 1, .int .i64 0]) ∧ Only [] w w' := by
  go_enter Try.func41, Try.ntmps41
  go_wp2_with (fail)
  simp [bodyPost, results, Try.results41, go_sem]
  exact (Only.refl _ _).alloc _

def rightB (n d : Int) : Bool := if d = 0 then decide (n = 1) else decide (0 < d) && decide (0 ≤ n) && decide (Nat.gcd n.toNat d.toNat = 1)

theorem right_any (n d : Int) (h1 : -9223372036854775808 ≤ n ∧ n ≤ 9223372036854775807) (h2 : -9223372036854775808 ≤ d ∧ d ≤ 9223372036854775807) (w : World) :
    Calls Try.prog 40 #[.agg #[.int .i64 n, .int .i64 d]] w fun e w' => e = .returned (.bool (rightB n d)) ∧ Only [] w w' := by
  unfold rightB
  go_enter Try.func40, Try.ntmps40
  by_cases c1 : d = 0
  · subst c1
    go_wp2_with (fail)
    go_ret
    exact ⟨rfl, (Only.refl _ _).alloc _⟩
  · by_cases c2 : 0 < d
    · by_cases c3 : 0 ≤ n
      · obtain ⟨n, rfl⟩ := Int.eq_ofNat_of_zero_le c3
        obtain ⟨d, rfl⟩ := Int.eq_ofNat_of_zero_le (Int.le_of_lt c2)
        go_wp2_with (go_at_call 51; refine (divisor_any n d (by omega) (by omega) _).mono ?_; rintro e w' ⟨rfl, k, rfl⟩)
        go_ret
        refine ⟨?_, ((Only.refl _ _).alloc _).drewN _⟩
        have c2' : 0 < d := by omega
        have c1' : ¬ d = 0 := by omega
        simp
        rw [Bool.eq_iff_iff]
        simp
        omega
      · go_wp2_with (fail)
        go_ret
        refine ⟨?_, (Only.refl _ _).alloc _⟩
        have c3' : ¬ 0 ≤ n := by omega
        simp [c3']
    · go_wp2_with (fail)
      go_ret
      refine ⟨?_, (Only.refl _ _).alloc _⟩
      have c2' : ¬ 0 < d := by omega
      simp [c2']

theorem u64_nat (x : Nat) (h : x ≤ 9223372036854775808) : IntKind.u64.wrap (x : Int) = x := IntWalk.u64_in _ (by omega)
theorem gcd_pos_of {a b : Nat} (h : b ≠ 0) : 0 < Nat.gcd a b := Nat.gcd_pos_of_pos_right _ (by omega)

/-- span.Make -/
def makeV (n d : Int) : Value :=
  if d = 0 then .tuple #[.agg #[.int .i64 0, .int .i64 0], .int .i64 3]
  else if n ≠ 0 ∧ (decide (n < 0) ≠ decide (d < 0)) then .tuple #[.agg #[.int .i64 0, .int .i64 0], .int .i64 4]
  else if mostI < n.natAbs / Nat.gcd n.natAbs d.natAbs ∨ mostI < d.natAbs / Nat.gcd n.natAbs d.natAbs then .tuple #[.agg #[.int .i64 0, .int .i64 0], .int .i64 2]
  else .tuple #[.agg #[.int .i64 ((n.natAbs / Nat.gcd n.natAbs d.natAbs : Nat) : Int), .int .i64 ((d.natAbs / Nat.gcd n.natAbs d.natAbs : Nat) : Int)], .int .i64 0]

end Go.Proofs.Ytcggeogpanackaa
