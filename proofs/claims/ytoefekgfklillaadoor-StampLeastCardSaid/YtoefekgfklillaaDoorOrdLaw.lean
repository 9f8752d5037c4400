/- The stamps' one order: plain laws. -/
import Derived.Test.YtoefekgfklillaaDoorSt4
namespace Go.Proofs.YtoefekgfklillaaDoor
open Go.RowKit Go.Kx

theorem cmpJ_neg (a b : Int) : cmpJ a b = - cmpJ b a := by unfold cmpJ; split <;> split <;> omega
theorem cmpJ_zero {a b : Int} : cmpJ a b = 0 ↔ a = b := by unfold cmpJ; split <;> (try split) <;> omega
theorem cmpJ_le {a b : Int} : cmpJ a b ≤ 0 ↔ a ≤ b := by unfold cmpJ; split <;> (try split) <;> omega
theorem cmpJ_range (a b : Int) : cmpJ a b = -1 ∨ cmpJ a b = 0 ∨ cmpJ a b = 1 := by unfold cmpJ; split <;> (try split) <;> simp
theorem stC_neg (a b : St) : stC a b = - stC b a := by
  unfold stC
  by_cases h : stR a = true ∧ stR b = true
  · rw [if_pos h, if_pos (show stR b = true ∧ stR a = true from ⟨h.2, h.1⟩)]
    have h1 := cmp_neg a.1 b.1
    by_cases h0 : cmpT b.1 a.1 = 0
    · rw [if_neg (by omega), if_neg (by omega)]; exact cmpJ_neg _ _
    · rw [if_pos (by omega), if_pos h0, h1]
  · rw [if_neg h, if_neg (show ¬ (stR b = true ∧ stR a = true) from fun k => h ⟨k.2, k.1⟩)]; rfl
theorem stC_range (a b : St) : stC a b = -1 ∨ stC a b = 0 ∨ stC a b = 1 := by
  unfold stC
  split
  · split
    · exact cmp_range _ _
    · exact cmpJ_range _ _
  · simp
theorem stC_zero {a b : St} (oa : a.ok) (ob : b.ok) (ha : stR a = true) (hb : stR b = true) : stC a b = 0 ↔ a = b := by
  unfold stC
  rw [if_pos ⟨ha, hb⟩]
  have hz := cmp_zero oa.1 ob.1 (stR_right ha) (stR_right hb)
  by_cases h : cmpT a.1 b.1 = 0
  · rw [if_neg (by omega), cmpJ_zero]
    exact ⟨fun k => Prod.ext (hz.1 h) k, fun k => by rw [k]⟩
  · rw [if_pos h]
    exact ⟨fun k => absurd k h, fun k => absurd (hz.2 (by rw [k])) h⟩
theorem stC_le {a b : St} (ha : stR a = true) (hb : stR b = true) : stC a b ≤ 0 ↔ cmpT a.1 b.1 < 0 ∨ cmpT a.1 b.1 = 0 ∧ a.2 ≤ b.2 := by
  unfold stC
  rw [if_pos ⟨ha, hb⟩]
  by_cases h : cmpT a.1 b.1 = 0
  · rw [if_neg (by omega), cmpJ_le]; omega
  · rw [if_pos h]; omega
theorem stC_trans {a b c : St} (oa : a.ok) (ob : b.ok) (oc : c.ok) (ha : stR a = true) (hb : stR b = true) (hc : stR c = true) (h1 : stC a b ≤ 0) (h2 : stC b c ≤ 0) : stC a c ≤ 0 := by
  rw [stC_le ha hb] at h1
  rw [stC_le hb hc] at h2
  rw [stC_le ha hc]
  have ra := stR_right ha
  have rb := stR_right hb
  have rc := stR_right hc
  have ht := cmp_trans oa.1 ob.1 oc.1 ra rb rc (by omega) (by omega)
  by_cases h : cmpT a.1 c.1 = 0
  · have e := (cmp_zero oa.1 oc.1 ra rc).1 h
    have hn := cmp_neg b.1 a.1
    rw [← e] at h2
    omega
  · omega
theorem st_never {s : St} (h : stR s = true) (hn : s ≠ ((1, 0), 0)) : s.1 ≠ (1, 0) := fun h0 => stR_fin h hn (by rw [h0])
theorem zero_fin : Fin (0, 1) 0 1 := by
  rcases right_cases (t := (0, 1)) (by unfold Tm.ok I64; omega) (by decide) with h | ⟨n, d, f⟩
  · exact absurd (congrArg Prod.snd h) (by simp)
  · have e := f.eq
    have h1 := congrArg Prod.fst e
    have h2 := congrArg Prod.snd e
    simp at h1 h2
    have e1 : n = 0 := by omega
    have e2 : d = 1 := by omega
    subst e1 e2; exact f
theorem after_grows {s t : Tm} (os : s.ok) (ot : t.ok) (rs : s.right = true) (rt : t.right = true) (hs : s ≠ (1, 0)) (ht : t ≠ (1, 0)) (h0 : t.1 ≠ 0) (h : (addT s t).2 = 0) : cmpT s (addT s t).1 = -1 := by
  rcases right_cases os rs with e | ⟨n, d, f⟩
  · exact absurd e hs
  rcases right_cases ot rt with e | ⟨m, k, g⟩
  · exact absurd e ht
  have z := zero_fin
  have hz : addT (0, 1) s = (s, 0) := by
    rw [add_fin z f]
    exact red_self f (by have := f.pos; omega) (by rw [Nat.zero_mul, Nat.zero_add, Nat.one_mul, Nat.mul_one, Nat.mul_comm])
  have h1 := cmp_add (a := (0, 1)) (b := t) (c := s) (by unfold Tm.ok I64; omega) ot os (by rw [hz]) (by rw [add_comm_]; exact h) hs
  rw [hz, add_comm_ t s] at h1
  rw [h1, cmp_fin z g, if_pos]
  have hm : m ≠ 0 := fun hm => h0 (by rw [g.eq, hm]; rfl)
  omega
theorem stR_ofRight {t : Tm} (h : t.right = true) : stR (t, 0) = true := by unfold stR mostS; simp [h]
/-- what is after a right stamp: greater, or nothing -/
theorem after_law {s : St} {t : Tm} (os : s.ok) (ot : t.ok) (hs : stR s = true) :
    ((afterT s t).2 = 0 ∧ (afterT s t).1.ok ∧ stR (afterT s t).1 = true ∧ stC s (afterT s t).1 = -1) ∨ ((afterT s t).2 ≠ 0 ∧ (afterT s t).1 = ((0, 0), 0)) := by
  unfold afterT
  by_cases h : stR s = true ∧ s ≠ ((1, 0), 0) ∧ t.right = true
  · rw [if_pos h]
    have hn := st_never hs h.2.1
    have rs := stR_right hs
    by_cases ht : t = (1, 0)
    · rw [if_pos ht]
      refine .inl ⟨rfl, ⟨ok_never, by unfold I64; simp⟩, stR_never, ?_⟩
      unfold stC
      rw [if_pos ⟨hs, stR_never⟩]
      rcases right_cases os.1 rs with e | ⟨n, d, f⟩
      · exact absurd e hn
      · rw [cmp_never_r f]; simp
    · rw [if_neg ht]
      by_cases h0 : t.1 = 0
      · rw [if_pos h0]
        unfold nextT
        rw [if_pos ⟨hs, h.2.1⟩]
        have hb := stR_bounds hs
        by_cases hm : s.2 = 1099511627776
        · rw [if_pos hm]; exact .inr ⟨by simp, rfl⟩
        · rw [if_neg hm]
          have hr : stR (s.1, s.2 + 1) = true := by
            unfold stR mostS
            simp only [Bool.and_eq_true, decide_eq_true_eq, Bool.or_eq_true]
            refine ⟨⟨⟨rs, by omega⟩, by omega⟩, .inr (by simpa using hn)⟩
          refine .inl ⟨rfl, ⟨os.1, by unfold I64; simp only; omega⟩, hr, ?_⟩
          unfold stC
          rw [if_pos ⟨hs, hr⟩]
          simp only
          rw [cmp_self, if_neg (by simp)]
          unfold cmpJ
          rw [if_pos (by omega)]
      · rw [if_neg h0]
        by_cases he : (addT s.1 t).2 = 0
        · rw [if_neg (fun k => k he)]
          have ra := (add_right os.1 ot he).1
          refine .inl ⟨rfl, ⟨add_ok os.1 ot, by unfold I64; simp⟩, stR_ofRight ra, ?_⟩
          unfold stC
          rw [if_pos ⟨hs, stR_ofRight ra⟩]
          simp only
          rw [after_grows os.1 ot rs h.2.2 hn ht h0 he]
          simp
        · rw [if_pos he]; exact .inr ⟨he, rfl⟩
  · rw [if_neg h]; exact .inr ⟨by simp, rfl⟩
theorem eq_st25 (a b : St) {p : Bool} (h : decide (a = b) = p) (W : World) : (binOp .eql 25 (.agg #[.int .i64 a.1.1, .int .i64 a.1.2, .int .i64 a.2]) (.agg #[.int .i64 b.1.1, .int .i64 b.1.2, .int .i64 b.2])).run Tryd.prog W = .ok (.bool p) W := by
  subst h
  obtain ⟨⟨x, y⟩, z⟩ := a
  obtain ⟨⟨x', y'⟩, z'⟩ := b
  by_cases h1 : x = x' <;> by_cases h2 : y = y' <;> by_cases h3 : z = z' <;> simp [go_sem, h1, h2, h3]
end Go.Proofs.YtoefekgfklillaaDoor
