/- bits.Div64: what it answers at every two words and every greater word. -/
import Derived.Test.YtoefekgfklillaaDoorDiv
namespace Go.Proofs.YtoefekgfklillaaDoor
open Go.RowKit Go.Kx

theorem digits_of {Y U V v1 v0 : Nat} (hV : v1 * 4294967296 + v0 = V) (hY : 0 < Y) :
    (U * 18446744073709551616 + V) / Y = (U * 4294967296 + v1) / Y * 4294967296 + ((U * 4294967296 + v1) % Y * 4294967296 + v0) / Y ∧ (U * 18446744073709551616 + V) % Y = ((U * 4294967296 + v1) % Y * 4294967296 + v0) % Y := by
  subst hV
  exact digits rfl rfl hY
theorem unshift {N y P X Y : Nat} (hX : X = N * P) (hY : Y = y * P) (hP : 0 < P) : X / Y = N / y ∧ X % Y / P = N % y := by
  subst hX hY
  exact ⟨Nat.mul_div_mul_right _ _ hP, by rw [Nat.mul_mod_mul_right, Nat.mul_div_cancel _ hP]⟩

theorem div_any (hi lo y : Nat) (hl : lo < 18446744073709551616) (hy : y < 18446744073709551616) (h : hi < y) (w : World) :
    Calls Tryd.prog 53 #[.int .u64 hi, .int .u64 lo, .int .u64 y] w fun e w' => e = .returned (.tuple #[.int .u64 (((hi * 18446744073709551616 + lo) / y : Nat) : Int), .int .u64 (((hi * 18446744073709551616 + lo) % y : Nat) : Int)]) ∧ ∃ n, w' = w.drewN n := by
  rcases Nat.eq_zero_or_pos hi with h0 | h0
  · subst h0
    simpa using div_zero lo y hl hy h w
  · obtain ⟨s, hs, hb, hY1, hY2⟩ := bitLen_bounds y (by omega) hy
    have hhi : hi * 2 ^ s < y * 2 ^ s := Nat.mul_lt_mul_of_pos_right h (Nat.two_pow_pos _)
    have hsh := shifted (hi := hi) hs hl
    have hor := shifted_or hs hl (show hi * 2 ^ s < 18446744073709551616 by omega)
    have hV : lo * 2 ^ s % 18446744073709551616 < 18446744073709551616 := Nat.mod_lt _ (by omega)
    have hlo2 : lo / 2 ^ (64 - s) < 2 ^ s := by
      refine (Nat.div_lt_iff_lt_mul (Nat.two_pow_pos _)).2 ?_
      rw [← Nat.pow_add, show s + (64 - s) = 64 by omega]
      exact hl
    have hlt : hi * 2 ^ s + lo / 2 ^ (64 - s) < y * 2 ^ s := by
      have : (hi + 1) * 2 ^ s ≤ y * 2 ^ s := Nat.mul_le_mul_right _ h
      rw [Nat.add_mul] at this
      omega
    obtain ⟨Y, eY⟩ : ∃ Y, Y = y * 2 ^ s := ⟨_, rfl⟩
    obtain ⟨U, eU⟩ : ∃ U, U = hi * 2 ^ s + lo / 2 ^ (64 - s) := ⟨_, rfl⟩
    obtain ⟨V, eV⟩ : ∃ V, V = lo * 2 ^ s % 18446744073709551616 := ⟨_, rfl⟩
    rw [← eU] at hor
    rw [← eU, ← eV] at hsh
    rw [← eU, ← eY] at hlt
    rw [← eV] at hV
    rw [← eY] at hY1 hY2
    have c := div_core hi lo y s Y (Y / 4294967296) (Y % 4294967296) U V (V / 4294967296) (V % 4294967296) hl hy h h0 hs
      (by rw [IntWalk.u64_in _ (by omega)]; omega)
      (by have e := u64_natM Y hY2; rw [eY] at e ⊢; simpa using e)
      (by omega) (and_low32 (Y : Int) (by omega) (by omega))
      (by have e := u64_natM (hi * 2 ^ s) (by omega)
          simp at e
          rw [e]
          simpa using hor)
      (by rw [IntKind.wrap_u64, eV]; simp)
      (by omega) (and_low32 (V : Int) (by omega) (by omega))
      (by omega) (by omega) (by omega) (by omega) (by omega) (by omega) (by omega) w
    have hVV : V / 4294967296 * 4294967296 + V % 4294967296 = V := Nat.div_add_mod' V 4294967296
    have d := digits_of (Y := Y) (U := U) hVV (Nat.lt_of_lt_of_le (by decide) hY1)
    have u := unshift hsh eY (Nat.two_pow_pos s)
    have c' := d.1.symm.trans u.1
    have d' := u.2
    rw [d.2] at d'
    rw [c', d'] at c
    exact c

end Go.Proofs.YtoefekgfklillaaDoor
