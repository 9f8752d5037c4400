/- Times: sums, differences, order: the plain laws. -/
import Derived.Test.YtcggeogpanackaaSum
namespace Go.Proofs.Ytcggeogpanackaa
open Go.RowKit Go.Kx

/-- a right time with an end -/
structure Fin (t : Tm) (n d : Nat) : Prop where
  eq : t = ((n : Int), (d : Int))
  ln : n ≤ mostI
  ld : d ≤ mostI
  pos : 0 < d
  one : Nat.gcd n d = 1

theorem Fin.ok {t : Tm} {n d : Nat} (h : Fin t n d) : t.ok := by
  have h1 := h.ln; have h2 := h.ld
  unfold mostI at *
  rw [h.eq]; unfold Tm.ok I64; simp only; omega
theorem Fin.right {t : Tm} {n d : Nat} (h : Fin t n d) : t.right = true := by
  have h1 := h.pos; have h2 := h.one
  rw [h.eq]; unfold Tm.right rightB
  simp only
  rw [if_neg (by omega)]
  simp; omega
theorem Fin.ne {t : Tm} {n d : Nat} (h : Fin t n d) : t.2 ≠ 0 := by
  have h1 := h.pos
  rw [h.eq]; simp only; omega
theorem right_cases {t : Tm} (ho : t.ok) (h : t.right = true) : t = (1, 0) ∨ ∃ n d, Fin t n d := by
  by_cases h0 : t.2 = 0
  · exact .inl (right_end h h0)
  · obtain ⟨n, d, e, l1, l2, l3, l4⟩ := right_parts ho h h0
    exact .inr ⟨n, d, ⟨e, l1, l2, l3, l4⟩⟩
theorem right_never : Tm.right (1, 0) = true := by decide
theorem ok_never : Tm.ok (1, 0) := by unfold Tm.ok I64; omega
theorem ok_zero : Tm.ok (0, 0) := by unfold Tm.ok I64; omega

theorem red_fin (N : Nat) {D : Nat} (hD : 0 < D) : (∃ t n d, redT N D = (t, 0) ∧ Fin t n d ∧ n * D = d * N) ∨ redT N D = ((0, 0), 2) := by
  have r := Red.of N hD
  unfold redT fitT
  by_cases h : mostI < N / Nat.gcd N D ∨ mostI < D / Nat.gcd N D
  · rw [if_pos h]; exact .inr rfl
  · rw [if_neg h]
    exact .inl ⟨_, _, _, rfl, ⟨rfl, by omega, by omega, r.pos, r.one⟩, r.cross⟩
theorem red_congr {N D N' D' : Nat} (hD : 0 < D) (hD' : 0 < D') (e : N * D' = N' * D) : redT N D = redT N' D' := by
  have r := (Red.of N hD).change hD e
  have u := Red.unique hD' r (Red.of N' hD')
  unfold redT
  rw [u.1, u.2]
theorem red_self {t : Tm} {n d N D : Nat} (h : Fin t n d) (hD : 0 < D) (e : n * D = d * N) : redT N D = (t, 0) := by
  have u := Red.unique hD ⟨h.one, h.pos, e⟩ (Red.of N hD)
  have h1 := h.ln; have h2 := h.ld
  unfold redT fitT
  rw [← u.1, ← u.2, if_neg (by omega), h.eq]

theorem add_wrong {a b : Tm} (h : ¬ (a.right = true ∧ b.right = true)) : addT a b = ((0, 0), 1) := by unfold addT; rw [if_neg h]
theorem add_never_l {a b : Tm} (ha : a = (1, 0)) (hb : b.right = true) : addT a b = ((1, 0), 0) := by
  subst ha
  unfold addT
  rw [if_pos ⟨right_never, hb⟩, if_pos (.inl rfl)]
theorem add_never_r {a b : Tm} (ha : a.right = true) (hb : b = (1, 0)) : addT a b = ((1, 0), 0) := by
  subst hb
  unfold addT
  rw [if_pos ⟨ha, right_never⟩, if_pos (.inr rfl)]
theorem add_fin {a b : Tm} {n d m k : Nat} (ha : Fin a n d) (hb : Fin b m k) : addT a b = redT (n * k + m * d) (d * k) := by
  have h1 := ha.right; have h2 := hb.right; have h3 := ha.ne; have h4 := hb.ne
  unfold addT
  rw [if_pos ⟨h1, h2⟩, if_neg (by rintro (h | h) <;> contradiction), ha.eq, hb.eq]
  simp only [Int.toNat_natCast]
theorem add_comm_ (a b : Tm) : addT a b = addT b a := by
  unfold addT
  by_cases h : a.right = true ∧ b.right = true
  · rw [if_pos h, if_pos h.symm]
    by_cases h0 : a.2 = 0 ∨ b.2 = 0
    · rw [if_pos h0, if_pos h0.symm]
    · rw [if_neg h0, if_neg (fun h => h0 h.symm), Nat.add_comm (a.1.toNat * _), Nat.mul_comm a.2.toNat]
  · rw [if_neg h, if_neg (fun k => h k.symm)]

theorem add_cases {a b : Tm} (ha : a.ok) (hb : b.ok) : (addT a b = ((0, 0), 1) ∧ ¬ (a.right = true ∧ b.right = true)) ∨ addT a b = ((0, 0), 2) ∨ (∃ t, addT a b = (t, 0) ∧ t.ok ∧ t.right = true ∧ a.right = true ∧ b.right = true) := by
  by_cases h : a.right = true ∧ b.right = true
  · rcases right_cases ha h.1 with e | ⟨n, d, f⟩
    · exact .inr (.inr ⟨_, add_never_l e h.2, ok_never, right_never, h⟩)
    · rcases right_cases hb h.2 with e | ⟨m, k, g⟩
      · exact .inr (.inr ⟨_, add_never_r h.1 e, ok_never, right_never, h⟩)
      · rw [add_fin f g]
        rcases red_fin (n * k + m * d) (Nat.mul_pos f.pos g.pos) with ⟨t, x, y, e, ft, _⟩ | e
        · exact .inr (.inr ⟨t, e, ft.ok, ft.right, h⟩)
        · exact .inr (.inl e)
  · exact .inl ⟨add_wrong h, h⟩
theorem add_ok {a b : Tm} (ha : a.ok) (hb : b.ok) : (addT a b).1.ok := by
  rcases add_cases ha hb with h | h | ⟨t, h, ht, _⟩
  · rw [h.1]; exact ok_zero
  · rw [h]; exact ok_zero
  · rw [h]; exact ht
theorem add_right {a b : Tm} (ha : a.ok) (hb : b.ok) (h : (addT a b).2 = 0) : (addT a b).1.right = true ∧ a.right = true ∧ b.right = true := by
  rcases add_cases ha hb with h1 | h1 | ⟨t, h1, ht, hr⟩
  · rw [h1.1] at h; cases h
  · rw [h1] at h; cases h
  · rw [h1]; exact hr
theorem add_bad {a b : Tm} (ha : a.ok) (hb : b.ok) (h : (addT a b).2 ≠ 0) : (addT a b).1 = (0, 0) ∧ ((addT a b).2 = 1 ∨ (addT a b).2 = 2) := by
  rcases add_cases ha hb with h1 | h1 | ⟨t, h1, ht, hr⟩
  · rw [h1.1]; exact ⟨rfl, .inl rfl⟩
  · rw [h1]; exact ⟨rfl, .inr rfl⟩
  · rw [h1] at h; exact absurd rfl h

theorem cmp_fin {a b : Tm} {n d m k : Nat} (ha : Fin a n d) (hb : Fin b m k) : cmpT a b = if n * k < m * d then -1 else if n * k = m * d then 0 else 1 := by
  unfold cmpT
  rw [if_pos ⟨ha.right, hb.right⟩, ha.eq, hb.eq]
  simp only [← Int.natCast_mul]
  by_cases h1 : n * k < m * d
  · rw [if_pos (by omega), if_pos h1]
  · rw [if_neg (by omega), if_neg h1]
    by_cases h2 : n * k = m * d
    · rw [if_pos (by omega), if_pos h2]
    · rw [if_neg (by omega), if_neg h2]
theorem cmp_never_r {a : Tm} {n d : Nat} (ha : Fin a n d) : cmpT a (1, 0) = -1 := by
  unfold cmpT
  have := ha.pos
  rw [if_pos ⟨ha.right, right_never⟩, ha.eq]
  simp only
  rw [if_pos (by omega)]
theorem cmp_never_l {a : Tm} {n d : Nat} (ha : Fin a n d) : cmpT (1, 0) a = 1 := by
  unfold cmpT
  have := ha.pos
  rw [if_pos ⟨right_never, ha.right⟩, ha.eq]
  simp only
  rw [if_neg (by omega), if_neg (by omega)]
theorem cmp_never : cmpT (1, 0) (1, 0) = 0 := by decide
theorem cmp_wrong_ {a b : Tm} (h : ¬ (a.right = true ∧ b.right = true)) : cmpT a b = 0 := by unfold cmpT; rw [if_neg h]

theorem cmp_neg (a b : Tm) : cmpT a b = - cmpT b a := by
  unfold cmpT
  by_cases h : a.right = true ∧ b.right = true
  · rw [if_pos h, if_pos h.symm]
    (repeat' split) <;> omega
  · rw [if_neg h, if_neg (fun k => h k.symm)]; rfl
theorem cmp_self (a : Tm) : cmpT a a = 0 := by
  unfold cmpT
  split
  · rw [if_neg (by omega), if_pos rfl]
  · rfl
theorem cmp_range (a b : Tm) : cmpT a b = -1 ∨ cmpT a b = 0 ∨ cmpT a b = 1 := by
  unfold cmpT
  (repeat' split) <;> simp

theorem fin_same {a b : Tm} {n d m k : Nat} (ha : Fin a n d) (hb : Fin b m k) (e : n * k = m * d) : a = b := by
  have u := Red.unique hb.pos ⟨ha.one, ha.pos, e.trans (Nat.mul_comm _ _)⟩ ⟨hb.one, hb.pos, Nat.mul_comm _ _⟩
  rw [ha.eq, hb.eq, u.1, u.2]
theorem cmp_zero {a b : Tm} (oa : a.ok) (ob : b.ok) (ha : a.right = true) (hb : b.right = true) : cmpT a b = 0 ↔ a = b := by
  refine ⟨fun h => ?_, fun h => by rw [h]; exact cmp_self b⟩
  rcases right_cases oa ha with rfl | ⟨n, d, f⟩ <;> rcases right_cases ob hb with rfl | ⟨m, k, g⟩
  · rfl
  · rw [cmp_never_l g] at h; cases h
  · rw [cmp_never_r f] at h; cases h
  · rw [cmp_fin f g] at h
    by_cases h1 : n * k < m * d
    · rw [if_pos h1] at h; cases h
    · rw [if_neg h1] at h
      by_cases h2 : n * k = m * d
      · exact fin_same f g h2
      · rw [if_neg h2] at h; cases h
theorem cmp_fin_le {a b : Tm} {n d m k : Nat} (ha : Fin a n d) (hb : Fin b m k) : cmpT a b ≤ 0 ↔ n * k ≤ m * d := by
  rw [cmp_fin ha hb]
  by_cases h1 : n * k < m * d
  · rw [if_pos h1]; omega
  · rw [if_neg h1]
    by_cases h2 : n * k = m * d
    · rw [if_pos h2]; omega
    · rw [if_neg h2]; omega
theorem cross_trans {n d m k x y : Nat} (hk : 0 < k) (h1 : n * k ≤ m * d) (h2 : m * y ≤ x * k) : n * y ≤ x * d := by
  have e1 : n * k * y ≤ m * d * y := Nat.mul_le_mul_right _ h1
  have e2 : m * y * d ≤ x * k * d := Nat.mul_le_mul_right _ h2
  have e3 : n * y * k ≤ x * d * k := by
    have a1 : n * y * k = n * k * y := by grind
    have a2 : x * d * k = x * k * d := by grind
    have a3 : m * d * y = m * y * d := by grind
    omega
  exact Nat.le_of_mul_le_mul_right e3 hk
theorem cmp_trans {a b c : Tm} (oa : a.ok) (ob : b.ok) (oc : c.ok) (ha : a.right = true) (hb : b.right = true) (hc : c.right = true) (h1 : cmpT a b ≤ 0) (h2 : cmpT b c ≤ 0) : cmpT a c ≤ 0 := by
  rcases right_cases oa ha with rfl | ⟨n, d, f⟩ <;> rcases right_cases ob hb with rfl | ⟨m, k, g⟩ <;> rcases right_cases oc hc with rfl | ⟨x, y, q⟩
  · rw [cmp_never]; omega
  · exact h2
  · rw [cmp_never_l g] at h1; omega
  · rw [cmp_never_l g] at h1; omega
  · exact h1
  · rw [cmp_never_l q] at h2; omega
  · rw [cmp_never_r f]; omega
  · rw [cmp_fin_le f g] at h1
    rw [cmp_fin_le g q] at h2
    rw [cmp_fin_le f q]
    exact cross_trans g.pos h1 h2

/-- what was added can be taken away -/
theorem sub_add {a b : Tm} (oa : a.ok) (ob : b.ok) (h : (addT a b).2 = 0) :
    (b = (1, 0) → (subT (addT a b).1 b).2 = 4) ∧ (b ≠ (1, 0) → subT (addT a b).1 b = (a, 0)) := by
  obtain ⟨hr, ha, hb⟩ := add_right oa ob h
  refine ⟨fun e => ?_, fun e => ?_⟩
  · unfold subT
    rw [if_pos ⟨hr, hb⟩, if_pos (.inl (by rw [e]))]
  · rcases right_cases ob hb with e' | ⟨m, k, g⟩
    · exact absurd e' e
    · rcases right_cases oa ha with rfl | ⟨n, d, f⟩
      · rw [add_never_l rfl hb]
        unfold subT
        rw [if_pos ⟨right_never, hb⟩, if_neg, if_pos rfl]
        rintro (h | h)
        · exact g.ne h
        · rw [cmp_never_l g] at h; omega
      · rw [add_fin f g] at h ⊢
        rcases red_fin (n * k + m * d) (Nat.mul_pos f.pos g.pos) with ⟨t, x, y, e, ft, cr⟩ | e
        · rw [e]
          simp only
          have hc : ¬ cmpT t b < 0 := by
            rw [cmp_fin ft g]
            have : m * y ≤ x * k := by
              have e1 : x * k * d = y * (n * k + m * d) := by rw [← cr]; grind
              have e2 : m * y * d ≤ x * k * d := by
                rw [e1]
                have : y * (n * k + m * d) = m * y * d + y * (n * k) := by grind
                omega
              exact Nat.le_of_mul_le_mul_right e2 f.pos
            rw [if_neg (by omega)]
            split <;> omega
          unfold subT
          rw [if_pos ⟨ft.right, hb⟩, if_neg (by rintro (h | h); exact g.ne h; exact hc h), if_neg ft.ne, ft.eq, g.eq]
          simp only [Int.toNat_natCast]
          refine red_self f (Nat.mul_pos ft.pos g.pos) ?_
          rw [Nat.mul_sub]
          have e1 : d * (x * k) = y * (n * k + m * d) := by rw [← cr]; grind
          rw [e1]
          have : y * (n * k + m * d) = n * (y * k) + d * (m * y) := by grind
          omega
        · rw [e] at h; cases h

theorem assoc_cross {an ad bn bd cn cd xn xd yn yd : Nat} (hb : 0 < bd) (h1 : xn * (ad * bd) = xd * (an * bd + bn * ad)) (h2 : yn * (bd * cd) = yd * (bn * cd + cn * bd)) :
    (xn * cd + cn * xd) * (ad * yd) = (an * yd + yn * ad) * (xd * cd) := by
  have e : (xn * cd + cn * xd) * (ad * yd) * bd = (an * yd + yn * ad) * (xd * cd) * bd := by
    have a1 : (xn * cd + cn * xd) * (ad * yd) * bd = cd * yd * (xn * (ad * bd)) + cn * xd * ad * yd * bd := by grind
    have a2 : (an * yd + yn * ad) * (xd * cd) * bd = an * yd * xd * cd * bd + ad * xd * (yn * (bd * cd)) := by grind
    rw [a1, a2, h1, h2]
    grind
  exact Nat.eq_of_mul_eq_mul_right hb e

theorem add_assoc_ {a b c : Tm} (oa : a.ok) (ob : b.ok) (oc : c.ok) (h1 : (addT a b).2 = 0) (h2 : (addT b c).2 = 0) : addT (addT a b).1 c = addT a (addT b c).1 := by
  obtain ⟨hr, ha, hb⟩ := add_right oa ob h1
  obtain ⟨hs, _, hc⟩ := add_right ob oc h2
  rcases right_cases oa ha with rfl | ⟨an, ad, f⟩
  · rw [add_never_l rfl hb, add_never_l rfl hc, add_never_l rfl hs]
  · rcases right_cases ob hb with rfl | ⟨bn, bd, g⟩
    · rw [add_never_r ha rfl, add_never_l rfl hc, add_never_r ha rfl]
    · rcases right_cases oc hc with rfl | ⟨cn, cd, q⟩
      · rw [add_never_r hr rfl, add_never_r hb rfl, add_never_r ha rfl]
      · rw [add_fin f g] at h1 ⊢
        rw [add_fin g q] at h2 ⊢
        rcases red_fin (an * bd + bn * ad) (Nat.mul_pos f.pos g.pos) with ⟨x, xn, xd, ex, fx, cx⟩ | e
        · rcases red_fin (bn * cd + cn * bd) (Nat.mul_pos g.pos q.pos) with ⟨y, yn, yd, ey, fy, cy⟩ | e
          · rw [ex, ey]
            simp only
            rw [add_fin fx q, add_fin f fy]
            exact red_congr (Nat.mul_pos fx.pos q.pos) (Nat.mul_pos f.pos fy.pos) (assoc_cross g.pos cx cy)
          · rw [e] at h2; cases h2
        · rw [e] at h1; cases h1

theorem mono_cross {an ad bn bd cn cd sn sd tn td : Nat} (ha : 0 < ad) (hb : 0 < bd) (hc : 0 < cd) (hs : 0 < sd) (ht : 0 < td) (h1 : sn * (ad * cd) = sd * (an * cd + cn * ad)) (h2 : tn * (bd * cd) = td * (bn * cd + cn * bd)) :
    (sn * td < tn * sd ↔ an * bd < bn * ad) ∧ (sn * td = tn * sd ↔ an * bd = bn * ad) := by
  have k : sn * td * (ad * bd * cd) = (sd * td * cd) * (an * bd) + (sd * td * cn * ad * bd) := by
    have : sn * td * (ad * bd * cd) = td * bd * (sn * (ad * cd)) := by grind
    rw [this, h1]; grind
  have l : tn * sd * (ad * bd * cd) = (sd * td * cd) * (bn * ad) + (sd * td * cn * ad * bd) := by
    have : tn * sd * (ad * bd * cd) = sd * ad * (tn * (bd * cd)) := by grind
    rw [this, h2]; grind
  have p1 : 0 < ad * bd * cd := Nat.mul_pos (Nat.mul_pos ha hb) hc
  have p2 : 0 < sd * td * cd := Nat.mul_pos (Nat.mul_pos hs ht) hc
  constructor
  · have a1 : sn * td < tn * sd ↔ sn * td * (ad * bd * cd) < tn * sd * (ad * bd * cd) := (Nat.mul_lt_mul_right p1).symm
    have a2 : an * bd < bn * ad ↔ sd * td * cd * (an * bd) < sd * td * cd * (bn * ad) := (Nat.mul_lt_mul_left p2).symm
    rw [a1, a2, k, l]; omega
  · have a1 : sn * td = tn * sd ↔ sn * td * (ad * bd * cd) = tn * sd * (ad * bd * cd) := (Nat.mul_right_cancel_iff p1).symm
    have a2 : an * bd = bn * ad ↔ sd * td * cd * (an * bd) = sd * td * cd * (bn * ad) := (Nat.mul_left_cancel_iff p2).symm
    rw [a1, a2, k, l]; omega

theorem cmp_add {a b c : Tm} (oa : a.ok) (ob : b.ok) (oc : c.ok) (h1 : (addT a c).2 = 0) (h2 : (addT b c).2 = 0) (hc : c ≠ (1, 0)) : cmpT (addT a c).1 (addT b c).1 = cmpT a b := by
  obtain ⟨hs, ha, hcr⟩ := add_right oa oc h1
  obtain ⟨ht, hb, _⟩ := add_right ob oc h2
  rcases right_cases oc hcr with e | ⟨cn, cd, q⟩
  · exact absurd e hc
  · rcases right_cases oa ha with rfl | ⟨an, ad, f⟩ <;> rcases right_cases ob hb with rfl | ⟨bn, bd, g⟩
    · rw [cmp_self, cmp_self]
    · rw [add_never_l rfl hcr, cmp_never_l g]
      rw [add_fin g q] at h2 ⊢
      rcases red_fin (bn * cd + cn * bd) (Nat.mul_pos g.pos q.pos) with ⟨y, yn, yd, ey, fy, cy⟩ | e
      · rw [ey]; exact cmp_never_l fy
      · rw [e] at h2; cases h2
    · rw [add_never_l rfl hcr, cmp_never_r f]
      rw [add_fin f q] at h1 ⊢
      rcases red_fin (an * cd + cn * ad) (Nat.mul_pos f.pos q.pos) with ⟨y, yn, yd, ey, fy, cy⟩ | e
      · rw [ey]; exact cmp_never_r fy
      · rw [e] at h1; cases h1
    · rw [add_fin f q] at h1 ⊢
      rw [add_fin g q] at h2 ⊢
      rcases red_fin (an * cd + cn * ad) (Nat.mul_pos f.pos q.pos) with ⟨s, sn, sd, es, fs, cs⟩ | e
      · rcases red_fin (bn * cd + cn * bd) (Nat.mul_pos g.pos q.pos) with ⟨t, tn, td, et, ft, ct⟩ | e
        · rw [es, et]
          simp only
          rw [cmp_fin fs ft, cmp_fin f g]
          have m := mono_cross f.pos g.pos q.pos fs.pos ft.pos cs ct
          by_cases h : an * bd < bn * ad
          · rw [if_pos h, if_pos (m.1.2 h)]
          · rw [if_neg h, if_neg (fun x => h (m.1.1 x))]
            by_cases h' : an * bd = bn * ad
            · rw [if_pos h', if_pos (m.2.2 h')]
            · rw [if_neg h', if_neg (fun x => h' (m.2.1 x))]
        · rw [e] at h2; cases h2
      · rw [e] at h1; cases h1

end Go.Proofs.Ytcggeogpanackaa
