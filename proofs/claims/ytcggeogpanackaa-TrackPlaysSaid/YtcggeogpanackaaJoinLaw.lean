/- Sums and differences of reduced fractions: plain arithmetic. -/
import Derived.ProofKit
namespace Go.Kx

/-- of two reduced fractions with an end, over the denominators' common divisor: what is left to reduce divides that divisor -/
theorem gcd_sum {an ad bn bd g x a' b' : Nat} (ha : Nat.gcd an ad = 1) (hb : Nat.gcd bn bd = 1) (hg : g = Nat.gcd ad bd) (hg0 : 0 < g) (ea : ad = a' * g) (eb : bd = b' * g)
    (hx : x + bn * a' = an * b' ∨ x = an * b' + bn * a') : Nat.gcd x (a' * b' * g) = Nat.gcd x g := by
  have hab : Nat.Coprime a' b' := by
    have h := Nat.coprime_div_gcd_div_gcd (m := ad) (n := bd) (by rw [← hg]; exact hg0)
    rw [← hg, ea, eb, Nat.mul_div_cancel _ hg0, Nat.mul_div_cancel _ hg0] at h
    exact h
  have haa : Nat.Coprime an a' := Nat.Coprime.coprime_dvd_right ⟨g, ea⟩ ha
  have hbb : Nat.Coprime bn b' := Nat.Coprime.coprime_dvd_right ⟨g, eb⟩ hb
  have hxa : Nat.Coprime x a' := by
    have h1 : Nat.Coprime (an * b') a' := Nat.Coprime.mul_left haa hab.symm
    rcases hx with hx | hx
    · rw [← hx] at h1
      exact (Nat.gcd_add_mul_right_left a' x bn).symm.trans h1
    · rw [hx]
      exact (Nat.gcd_add_mul_right_left a' (an * b') bn).trans h1
  have hxb : Nat.Coprime x b' := by
    have h1 : Nat.Coprime (bn * a') b' := Nat.Coprime.mul_left hbb hab
    rcases hx with hx | hx
    · have d1 := Nat.gcd_dvd_left x b'
      have d2 := Nat.gcd_dvd_right x b'
      have d3 : Nat.gcd x b' ∣ x + bn * a' := hx ▸ Nat.dvd_mul_left_of_dvd d2 an
      have d4 : Nat.gcd x b' ∣ bn * a' := (Nat.dvd_add_right d1).1 d3
      have d5 := Nat.dvd_gcd d4 d2
      rw [h1] at d5
      exact Nat.dvd_one.1 d5
    · rw [hx, Nat.add_comm]
      exact (Nat.gcd_add_mul_right_left b' (bn * a') an).trans h1
  have hxab : Nat.Coprime x (a' * b') := Nat.Coprime.mul_right hxa hxb
  exact Nat.Coprime.gcd_mul_left_cancel_right _ hxab.symm

/-- the numbers that join answers are the sum's (the difference's) reduced ones -/
theorem join_law {an ad bn bd g x a' b' k : Nat} (ha : Nat.gcd an ad = 1) (hb : Nat.gcd bn bd = 1) (hg : g = Nat.gcd ad bd) (hg0 : 0 < g) (ea : ad = a' * g) (eb : bd = b' * g)
    (hx : x + bn * a' = an * b' ∨ x = an * b' + bn * a') (hk : k = Nat.gcd x g) : Nat.gcd (x / k) (a' * (bd / k)) = 1 ∧ x / k * (ad * bd) = a' * (bd / k) * (g * x) := by
  have hgs := gcd_sum ha hb hg hg0 ea eb hx
  have hk0 : 0 < k := by rw [hk]; exact Nat.gcd_pos_of_pos_right _ hg0
  obtain ⟨x1, hx1⟩ : k ∣ x := hk ▸ Nat.gcd_dvd_left x g
  obtain ⟨g1, hg1⟩ : k ∣ g := hk ▸ Nat.gcd_dvd_right x g
  have e1 : x / k = x1 := by rw [hx1, Nat.mul_div_cancel_left _ hk0]
  have e2 : bd / k = b' * g1 := by
    rw [eb, hg1, show b' * (k * g1) = k * (b' * g1) by rw [← Nat.mul_assoc, Nat.mul_comm b' k, Nat.mul_assoc], Nat.mul_div_cancel_left _ hk0]
  rw [e1, e2]
  constructor
  · rw [← hk] at hgs
    have h1 : a' * b' * g = k * (a' * (b' * g1)) := by rw [hg1]; grind
    rw [h1, hx1, Nat.gcd_mul_left] at hgs
    exact Nat.eq_of_mul_eq_mul_left hk0 (by rw [hgs, Nat.mul_one])
  · rw [ea, eb, hx1, hg1]
    grind

end Go.Kx
