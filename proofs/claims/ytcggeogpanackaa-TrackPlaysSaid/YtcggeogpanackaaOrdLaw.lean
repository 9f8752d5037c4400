/- The stamps' one order: plain laws. -/
import Derived.Test.YtcggeogpanackaaSt2
namespace Go.Proofs.Ytcggeogpanackaa
open Go.RowKit Go.Kx

theorem cmpJ_neg (a b : Int) : cmpJ a b = - cmpJ b a := by unfold cmpJ; split <;> split <;> omega
theorem cmpJ_zero {a b : Int} : cmpJ a b = 0 ↔ a = b := by unfold cmpJ; split <;> (try split) <;> omega
theorem cmpJ_le {a b : Int} : cmpJ a b ≤ 0 ↔ a ≤ b := by unfold cmpJ; split <;> (try split) <;> omega
theorem cmpJ_range (a b : Int) : cmpJ a b = -1 ∨ cmpJ a b = 0 ∨ cmpJ a b = 1 := by unfold cmpJ; split <;> (try split) <;> simp
theorem stC_neg (a b : St) : stC a b = - stC b a := by
  unfold stC
  by_cases h : stR a = true ∧ stR b = true
  · rw [if_pos h, if_pos (show stR b = true ∧ stR a = true from ⟨h.2, h.1⟩)]
    have h1 := cmp_neg a.1 b.1
    by_cases h0 : cmpT b.1 a.1 = 0
    · rw [if_neg (by omega), if_neg (by omega)]; exact cmpJ_neg _ _
    · rw [if_pos (by omega), if_pos h0, h1]
  · rw [if_neg h, if_neg (show ¬ (stR b = true ∧ stR a = true) from fun k => h ⟨k.2, k.1⟩)]; rfl
theorem stC_range (a b : St) : stC a b = -1 ∨ stC a b = 0 ∨ stC a b = 1 := by
  unfold stC
  split
  · split
    · exact cmp_range _ _
    · exact cmpJ_range _ _
  · simp
theorem stC_zero {a b : St} (oa : a.ok) (ob : b.ok) (ha : stR a = true) (hb : stR b = true) : stC a b = 0 ↔ a = b := by
  unfold stC
  rw [if_pos ⟨ha, hb⟩]
  have hz := cmp_zero oa.1 ob.1 (stR_right ha) (stR_right hb)
  by_cases h : cmpT a.1 b.1 = 0
  · rw [if_neg (by omega), cmpJ_zero]
    exact ⟨fun k => Prod.ext (hz.1 h) k, fun k => by rw [k]⟩
  · rw [if_pos h]
    exact ⟨fun k => absurd k h, fun k => absurd (hz.2 (by rw [k])) h⟩
theorem stC_le {a b : St} (ha : stR a = true) (hb : stR b = true) : stC a b ≤ 0 ↔ cmpT a.1 b.1 < 0 ∨ cmpT a.1 b.1 = 0 ∧ a.2 ≤ b.2 := by
  unfold stC
  rw [if_pos ⟨ha, hb⟩]
  by_cases h : cmpT a.1 b.1 = 0
  · rw [if_neg (by omega), cmpJ_le]; omega
  · rw [if_pos h]; omega
theorem stC_trans {a b c : St} (oa : a.ok) (ob : b.ok) (oc : c.ok) (ha : stR a = true) (hb : stR b = true) (hc : stR c = true) (h1 : stC a b ≤ 0) (h2 : stC b c ≤ 0) : stC a c ≤ 0 := by
  rw [stC_le ha hb] at h1
  rw [stC_le hb hc] at h2
  rw [stC_le ha hc]
  have ra := stR_right ha
  have rb := stR_right hb
  have rc := stR_right hc
  have ht := cmp_trans oa.1 ob.1 oc.1 ra rb rc (by omega) (by omega)
  by_cases h : cmpT a.1 c.1 = 0
  · have e := (cmp_zero oa.1 oc.1 ra rc).1 h
    have hn := cmp_neg b.1 a.1
    rw [← e] at h2
    omega
  · omega
theorem eq_st25 (a b : St) {p : Bool} (h : decide (a = b) = p) (W : World) : (binOp .eql 26 (.agg #[.int .i64 a.1.1, .int .i64 a.1.2, .int .i64 a.2]) (.agg #[.int .i64 b.1.1, .int .i64 b.1.2, .int .i64 b.2])).run Try.prog W = .ok (.bool p) W := by
  subst h
  obtain ⟨⟨x, y⟩, z⟩ := a
  obtain ⟨⟨x', y'⟩, z'⟩ := b
  by_cases h1 : x = x' <;> by_cases h2 : y = y' <;> by_cases h3 : z = z' <;> simp [go_sem, h1, h2, h3]
end Go.Proofs.Ytcggeogpanackaa
