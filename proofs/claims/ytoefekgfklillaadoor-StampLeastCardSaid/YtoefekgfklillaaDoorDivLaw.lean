/- Long division of two words by one, digit by digit: plain arithmetic. -/
import Derived.ProofKit
import Derived.Laws.BitsAllLaws
namespace Go.Kx

/-- a guessed digit at the head of the correcting loop -/
structure Guess (y1 y0 u v q r : Nat) : Prop where
  split : q * y1 + r = u
  over : (u * 4294967296 + v) / (y1 * 4294967296 + y0) ≤ q
  rem : r < 4294967296
  big : q ≤ 4294967297

section
variable {y1 y0 u v q r : Nat}

theorem guess_first (hy1 : 2147483648 ≤ y1) (hy1' : y1 < 4294967296) (hy0 : y0 < 4294967296) (hv : v < 4294967296) (hu : u < y1 * 4294967296 + y0) : Guess y1 y0 u v (u / y1) (u % y1) := by
  have hp : 0 < y1 := by omega
  refine ⟨by rw [Nat.mul_comm]; exact Nat.div_add_mod u y1, ?_, ?_, ?_⟩
  · refine (Nat.le_div_iff_mul_le hp).2 ?_
    have h1 := Nat.div_mul_le_self (u * 4294967296 + v) (y1 * 4294967296 + y0)
    generalize (u * 4294967296 + v) / (y1 * 4294967296 + y0) = Q at h1 ⊢
    rw [Nat.mul_add, ← Nat.mul_assoc] at h1
    generalize Q * y1 = A at h1 ⊢
    omega
  · have := Nat.mod_lt u hp; omega
  · have : u < 4294967298 * y1 := by omega
    have := (Nat.div_lt_iff_lt_mul hp).2 this
    omega

theorem guess_lt (hv : v < 4294967296) (hu : u < y1 * 4294967296 + y0) : (u * 4294967296 + v) / (y1 * 4294967296 + y0) < 4294967296 := by
  refine (Nat.div_lt_iff_lt_mul (by omega)).2 ?_
  rw [Nat.mul_comm]
  generalize y1 * 4294967296 + y0 = Y at hu ⊢
  omega

/-- the test said no: the digit is right -/
theorem Guess.done (h : Guess y1 y0 u v q r) (hu : u < y1 * 4294967296 + y0) (hc : q * y0 ≤ 4294967296 * r + v) : q = (u * 4294967296 + v) / (y1 * 4294967296 + y0) := by
  refine Nat.le_antisymm ((Nat.le_div_iff_mul_le (by omega)).2 ?_) h.over
  have := h.split
  rw [Nat.mul_add, ← Nat.mul_assoc]
  generalize q * y1 = A at *
  generalize q * y0 = B at *
  omega

theorem Guess.less (h : Guess y1 y0 u v q r) (hv : v < 4294967296) (hu : u < y1 * 4294967296 + y0) (hc : 4294967296 ≤ q ∨ 4294967296 * r + v < q * y0) : (u * 4294967296 + v) / (y1 * 4294967296 + y0) + 1 ≤ q := by
  rcases hc with hc | hc
  · have := guess_lt hv hu; omega
  · refine (Nat.div_lt_iff_lt_mul (by omega)).2 ?_
    have := h.split
    rw [Nat.mul_add, ← Nat.mul_assoc]
    generalize q * y1 = A at *
    generalize q * y0 = B at *
    omega

theorem Guess.next (h : Guess y1 y0 u v q r) (hv : v < 4294967296) (hu : u < y1 * 4294967296 + y0) (hc : 4294967296 ≤ q ∨ 4294967296 * r + v < q * y0) (hr : r + y1 < 4294967296) : Guess y1 y0 u v (q - 1) (r + y1) := by
  have hl := h.less hv hu hc
  refine ⟨?_, Nat.le_sub_of_add_le hl, hr, by have := h.big; omega⟩
  have hq1 : 1 ≤ q := Nat.le_trans (Nat.le_add_left 1 _) hl
  obtain ⟨k, rfl⟩ : ∃ k, q = k + 1 := ⟨q - 1, by omega⟩
  have := h.split
  rw [Nat.add_mul] at this
  simp at this ⊢
  omega

/-- the rest has become a word: the digit is right -/
theorem Guess.broke (h : Guess y1 y0 u v q r) (hy0 : y0 < 4294967296) (hv : v < 4294967296) (hu : u < y1 * 4294967296 + y0) (hc : 4294967296 ≤ q ∨ 4294967296 * r + v < q * y0) (hr : 4294967296 ≤ r + y1) : q - 1 = (u * 4294967296 + v) / (y1 * 4294967296 + y0) := by
  have hl := h.less hv hu hc
  refine Nat.le_antisymm ((Nat.le_div_iff_mul_le (by omega)).2 ?_) (Nat.le_sub_of_add_le hl)
  have hq1 : 1 ≤ q := Nat.le_trans (Nat.le_add_left 1 _) hl
  obtain ⟨k, rfl⟩ : ∃ k, q = k + 1 := ⟨q - 1, by omega⟩
  have h1 := h.split
  have h2 := h.big
  have h3 : k * y0 ≤ 4294967296 * 4294967295 := Nat.mul_le_mul (by omega) (by omega)
  rw [Nat.add_mul] at h1
  simp
  rw [Nat.mul_add, ← Nat.mul_assoc]
  generalize k * y1 = A at *
  generalize k * y0 = B at *
  omega

/-- the rest of a digit, as two words' arithmetic shows it -/
theorem digit_rest {Y : Nat} (hY : Y < 18446744073709551616) (hu : u < Y) (hq : q = (u * 4294967296 + v) / Y) :
    ((((u : Int) * 4294967296 % 18446744073709551616 + v) % 18446744073709551616 - (q : Int) * Y % 18446744073709551616) % 18446744073709551616) = (((u * 4294967296 + v) % Y : Nat) : Int) := by
  have h1 := Nat.div_add_mod (u * 4294967296 + v) Y
  have h2 := Nat.mod_lt (u * 4294967296 + v) (show 0 < Y by omega)
  rw [← hq, Nat.mul_comm] at h1
  generalize (u * 4294967296 + v) % Y = R at *
  have e : ((q * Y : Nat) : Int) = (q : Int) * Y := by simp
  rw [← e]
  generalize q * Y = A at *
  omega
end

/-- the two digits make the quotient -/
theorem digits {Y U v1 v0 Q1 R1 : Nat} (hQ1 : Q1 = (U * 4294967296 + v1) / Y) (hR1 : R1 = (U * 4294967296 + v1) % Y) (hY : 0 < Y) :
    (U * 18446744073709551616 + (v1 * 4294967296 + v0)) / Y = Q1 * 4294967296 + (R1 * 4294967296 + v0) / Y ∧ (U * 18446744073709551616 + (v1 * 4294967296 + v0)) % Y = (R1 * 4294967296 + v0) % Y := by
  have h1 := Nat.div_add_mod (U * 4294967296 + v1) Y
  rw [← hQ1, ← hR1] at h1
  have e : U * 18446744073709551616 + (v1 * 4294967296 + v0) = (R1 * 4294967296 + v0) + Y * (Q1 * 4294967296) := by
    have : Y * (Q1 * 4294967296) = Y * Q1 * 4294967296 := by rw [Nat.mul_assoc]
    rw [this]
    generalize Y * Q1 = A at *
    omega
  rw [e]
  constructor
  · rw [Nat.add_mul_div_left _ _ hY, Nat.add_comm]
  · rw [Nat.add_mul_mod_self_left]

/-- shifting both by s bits -/
theorem shifted {hi lo s : Nat} (hs : s ≤ 63) (_ : lo < 18446744073709551616) :
    (hi * 2 ^ s + lo / 2 ^ (64 - s)) * 18446744073709551616 + lo * 2 ^ s % 18446744073709551616 = (hi * 18446744073709551616 + lo) * 2 ^ s := by
  have hpq : 2 ^ s * 2 ^ (64 - s) = 18446744073709551616 := by rw [← Nat.pow_add, show s + (64 - s) = 64 by omega]
  have h1 := Nat.div_add_mod lo (2 ^ (64 - s))
  have hq : 0 < 2 ^ (64 - s) := Nat.two_pow_pos _
  have h2 := Nat.mod_lt lo hq
  generalize hP : 2 ^ s = P at *
  generalize hQ : 2 ^ (64 - s) = Q at *
  generalize lo / Q = A at *
  generalize lo % Q = B at *
  have e1 : lo * P = A * 18446744073709551616 + B * P := by
    rw [← h1, Nat.add_mul, ← hpq]
    congr 1
    rw [Nat.mul_comm Q A, Nat.mul_assoc, Nat.mul_comm Q P]
  have hPpos : 0 < P := by rw [← hP]; exact Nat.two_pow_pos _
  have h3 : B * P < 18446744073709551616 := by
    rw [← hpq, Nat.mul_comm P Q]
    exact Nat.mul_lt_mul_of_pos_right h2 hPpos
  rw [e1, Nat.add_mul, Nat.add_mul, e1]
  rw [show hi * P * 18446744073709551616 = hi * 18446744073709551616 * P by rw [Nat.mul_assoc, Nat.mul_assoc, Nat.mul_comm P]]
  omega

theorem shifted_or {hi lo s : Nat} (hs : s ≤ 63) (hlo : lo < 18446744073709551616) (hh : hi * 2 ^ s < 18446744073709551616) :
    bits .or .u64 ((hi * 2 ^ s : Nat) : Int) ((lo / 2 ^ (64 - s) : Nat) : Int) = ((hi * 2 ^ s + lo / 2 ^ (64 - s) : Nat) : Int) := by
  have hl : lo / 2 ^ (64 - s) < 2 ^ s := by
    refine (Nat.div_lt_iff_lt_mul (Nat.two_pow_pos _)).2 ?_
    rw [← Nat.pow_add, show s + (64 - s) = 64 by omega]
    exact hlo
  have hp : 2 ^ s ≤ 2 ^ 63 := Nat.pow_le_pow_right (by omega) hs
  rw [u64_or_nat _ _ hh (by omega)]
  congr 1
  rw [← Nat.shiftLeft_eq, Nat.shiftLeft_add_eq_or_of_lt hl]

end Go.Kx
