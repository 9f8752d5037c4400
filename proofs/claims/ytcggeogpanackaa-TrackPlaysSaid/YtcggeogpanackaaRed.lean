/- Reduced fractions: plain arithmetic. -/
import Derived.Test.YtcggeogpanackaaJoinLaw
namespace Go.Kx

/-- n through d is N through D, reduced -/
structure Red (n d N D : Nat) : Prop where
  one : Nat.gcd n d = 1
  pos : 0 < d
  cross : n * D = d * N

theorem Red.of (N : Nat) {D : Nat} (hD : 0 < D) : Red (N / Nat.gcd N D) (D / Nat.gcd N D) N D := by
  have hg : 0 < Nat.gcd N D := Nat.gcd_pos_of_pos_right _ hD
  obtain ⟨n, hn⟩ := Nat.gcd_dvd_left N D
  obtain ⟨d, hd⟩ := Nat.gcd_dvd_right N D
  have h1 := Nat.coprime_div_gcd_div_gcd hg
  refine ⟨h1, Nat.div_pos (Nat.gcd_le_right _ hD) hg, ?_⟩
  generalize Nat.gcd N D = g at *
  subst hn hd
  rw [Nat.mul_div_cancel_left _ hg, Nat.mul_div_cancel_left _ hg]
  grind

theorem Red.unique {n d n' d' N D : Nat} (hD : 0 < D) (h : Red n d N D) (h' : Red n' d' N D) : n = n' ∧ d = d' := by
  have e : n * d' = n' * d := by
    have h1 := h.cross
    have h2 := h'.cross
    have : (n * d') * D = (n' * d) * D := by grind
    exact Nat.eq_of_mul_eq_mul_right hD this
  have c1 : Nat.Coprime d n := (Nat.gcd_comm d n).trans h.one
  have c2 : Nat.Coprime d' n' := (Nat.gcd_comm d' n').trans h'.one
  have d1 : d ∣ d' := c1.dvd_of_dvd_mul_left ⟨n', by rw [e, Nat.mul_comm]⟩
  have d2 : d' ∣ d := c2.dvd_of_dvd_mul_left ⟨n, by rw [← e, Nat.mul_comm]⟩
  have hdd := Nat.dvd_antisymm d1 d2
  subst hdd
  exact ⟨Nat.eq_of_mul_eq_mul_right h.pos e, rfl⟩

/-- fractions alike have the same reduced one -/
theorem Red.change {n d N D N' D' : Nat} (hD : 0 < D) (h : Red n d N D) (e : N * D' = N' * D) : Red n d N' D' := by
  refine ⟨h.one, h.pos, ?_⟩
  have h1 := h.cross
  have : (n * D') * D = (d * N') * D := by grind
  exact Nat.eq_of_mul_eq_mul_right hD this

end Go.Kx
