/- Rows of entries, appended. -/
import Derived.Test.YtcggeogpanackaaSame
import Derived.Test.YtcggeogpanackaaFacts2
namespace Go.Proofs.Ytcggeogpanackaa
open Go.RowKit Go.Kx
set_option maxRecDepth 20000

theorem eq_st26 (a b c d e f : Int) (W : World) : (binOp .eql 26 (.agg #[.int .i64 a, .int .i64 b, .int .i64 c]) (.agg #[.int .i64 d, .int .i64 e, .int .i64 f])).run Try.prog W = .ok (.bool (decide (a = d ∧ b = e ∧ c = f))) W := by
  by_cases h : a = d <;> by_cases h2 : b = e <;> by_cases h3 : c = f <;> simp [go_sem, h, h2, h3]
theorem eq_st26T (W : World) : (binOp .eql 26 (.agg #[.int .i64 1, .int .i64 0, .int .i64 0]) (.agg #[.int .i64 1, .int .i64 0, .int .i64 0])).run Try.prog W = .ok (.bool true) W := by
  rw [eq_st26]; rfl
theorem eq_st26F {s : St} (h : s ≠ ((1, 0), 0)) (W : World) : (binOp .eql 26 (.agg #[.int .i64 s.1.1, .int .i64 s.1.2, .int .i64 s.2]) (.agg #[.int .i64 1, .int .i64 0, .int .i64 0])).run Try.prog W = .ok (.bool false) W := by
  rw [eq_st26, decide_eq_false]
  exact fun k => h (Prod.ext (Prod.ext k.1 k.2.1) k.2.2)
theorem flat4_one' (L : List En) : ∀ u ∈ flat4 L, u.oneCell' = true := by
  intro u hu
  obtain ⟨e, _, hu⟩ := List.mem_flatMap.1 hu
  simp [cells4] at hu
  rcases hu with rfl | rfl | rfl | rfl <;> rfl
/-- append(v, x...) of entries, v nil or the call's own -/
theorem run_append_row4 {P : Program} {t e : TypeId} (ty : TypeId) {z : Value} {bytes : Nat} (ht : P.underlying t = some (.slice e)) (hi : (P.info? e).map (fun i => (i.zero, i.size, i.bytes)) = some (some z, 4, bytes)) (hz : z.cells.size = 4)
    {w : World} {base : Nat} {v : Value} {n : Nat} {L1 L2 : List En} (hown : w.ownsRow base e 4 v n (flat4 L1)) {A : Option Addr} {c m : Nat} (h2 : Row4 w A L2) (hm : L2.length = m) (hbase : base ≤ w.heap.size) (h63 : n + m ≤ maxLen) (hb : (n + m) * bytes ≤ 140737488355328) :
    ∃ A' c' w1, (Builtin.append_ #[t, t] ty #[v, .slice A m c]).run P w = .ok (.slice A' (n + m) c') w1 ∧ w1.ownsRow base e 4 (.slice A' (n + m) c') (n + m) (flat4 (L1 ++ L2)) ∧ Only v.ownBlock.toList w w1 ∧ (∀ p, A' = some p → v.ownBlock = some p.block ∨ w.heap.size ≤ p.block) := by
  obtain ⟨i, hi, h0, hsz, h2'⟩ := info_parts hi
  have form : ∀ {w' : World} {v' : Value} {k : Nat} {xs : List Value}, w'.ownsRow base e 4 v' k xs → ∃ A' c', v' = .slice A' k c' := fun h => by
    rcases h.2 with ⟨rfl, rfl⟩ | ⟨g, cap, cur, rfl, _⟩
    · exact ⟨none, 0, rfl⟩
    · exact ⟨_, _, rfl⟩
  cases A with
  | none =>
    have hL : L2 = [] := by
      cases L2 with
      | nil => rfl
      | cons e r => obtain ⟨b, o, h, _⟩ := h2 0 (.int .i64 e.1.1.1) rfl; cases h
    subst hL
    simp at hm
    subst hm
    obtain ⟨A', c', rfl⟩ := form hown
    refine ⟨A', c', w, ?_, by simpa using hown, Only.refl _ _, fun p h => .inl (by rw [h]; rfl)⟩
    rcases hown.2 with ⟨h1, rfl⟩ | ⟨g, cap, cur, h1, _, _, hnc, _⟩
    · rw [h1]
      simp [Builtin.append_, run_underlying ht, sizeOf, typeInfo, hi, Builtin.lenOf, Builtin.firstCells]
    · injection h1 with h1 _ hcc
      subst h1
      subst hcc
      simp [Builtin.append_, run_underlying ht, sizeOf, typeInfo, hi, Builtin.lenOf, Builtin.firstCells, hnc, storeCells]
  | some ad =>
    obtain ⟨v', w1, hrun, ho, hg, _, hat⟩ := run_append_own_at (P := P) w base t ty e i z 4 bytes ht hi h0 hsz h2' hz (by omega) v n (flat4 L1) hown ad m c (flat4 L2) (by rw [flat4_length, hm])
      (fun j u hj => by obtain ⟨b, o, h, _, hc⟩ := h2 j u hj; cases h; rw [Addr.add_lit]; exact hc) (flat4_one' _) h63 hb hbase
    obtain ⟨A', c', rfl⟩ := form ho
    rw [← flat4_append] at ho
    refine ⟨A', c', w1, hrun, ho, Only.of_grownBy hg, fun p h => ?_⟩
    subst h
    rcases hat with h | h
    · left; rw [← h]; rfl
    · right; simp [Value.ownBlock] at h; omega

end Go.Proofs.Ytcggeogpanackaa
