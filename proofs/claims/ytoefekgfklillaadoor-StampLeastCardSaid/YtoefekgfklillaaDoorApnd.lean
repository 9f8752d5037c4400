/- append of one stamp; what an own row of stamps reads as. -/
import Derived.Test.YtoefekgfklillaaDoorMinS
namespace Go.Proofs.YtoefekgfklillaaDoor
open Go.RowKit Go.Kx

/-- append(v, x) of one element of three cells, v nil or the call's own -/
theorem run_append3 {P : Program} {t e : TypeId} (te ty : TypeId) {z : Value} {bytes : Nat} (ht : P.underlying t = some (.slice e)) (hi : (P.info? e).map (fun i => (i.zero, i.size, i.bytes)) = some (some z, 3, bytes)) (hz : z.cells.size = 3)
    {w : World} {base : Nat} {v : Value} {n : Nat} {xs : List Value} (hown : w.ownsRow base e 3 v n xs) (x0 x1 x2 : Value) (hx0 : x0.oneCell' = true) (hx1 : x1.oneCell' = true) (hx2 : x2.oneCell' = true) (hbase : base ≤ w.heap.size) (h63 : n + 1 ≤ maxLen) (hb : (n + 1) * bytes ≤ 140737488355328) :
    ∃ g cap w1, (Builtin.append_ #[t, t] ty #[v, .slice (some ⟨w.heap.size, 0, none⟩) 1 1]).run P (w.alloc (.cells #[x0, x1, x2] te)) = .ok (.slice (some ⟨g, 0, none⟩) (n + 1) cap) w1 ∧
      w1.ownsRow base e 3 (.slice (some ⟨g, 0, none⟩) (n + 1) cap) (n + 1) (xs ++ [x0, x1, x2]) ∧ Only v.ownBlock.toList w w1 ∧ (v.ownBlock = some g ∨ w.heap.size ≤ g) := by
  obtain ⟨i, hi, h0, h1, h2⟩ := info_parts hi
  obtain ⟨v', w1, hr, ho, hg, hn, hat⟩ := run_append_own_at (P := P) (w.alloc (.cells #[x0, x1, x2] te)) base t ty e i z 3 bytes ht hi h0 h1 h2 hz (by omega) v n xs (hown.alloc _) ⟨w.heap.size, 0, none⟩ 1 1 [x0, x1, x2] rfl
    (by intro j u hj
        match j, hj with
        | 0, hj => simp at hj; subst hj; simp [Addr.add]
        | 1, hj => simp at hj; subst hj; simp [Addr.add]
        | 2, hj => simp at hj; subst hj; simp [Addr.add])
    (by simp; exact ⟨hx0, hx1, hx2⟩) h63 hb (by simp; omega)
  rcases ho.2 with ⟨rfl, hn0⟩ | ⟨g, cap, cur, rfl, hrest⟩
  · omega
  · refine ⟨g, cap, w1, hr, ho, ?_, ?_⟩
    · have := Only.of_grownBy hg
      exact ((Only.refl v.ownBlock.toList w).alloc _).trans this (fun _ h => .inl h)
    · rcases hat with h | h
      · left; rw [← h]; rfl
      · right; simp [Value.ownBlock] at h; omega

theorem st_info : ((Tryd.prog.info? 27).map fun i => (i.zero, i.size, i.bytes)) = some (some (.agg #[.int .i64 0, .int .i64 0, .int .i64 0]), 3, 24) := by kernel_rfl
def flat3 (L : List St) : List Value := L.flatMap fun s => [.int .i64 s.1.1, .int .i64 s.1.2, .int .i64 s.2]
theorem flat3_snoc (L : List St) (s : St) : flat3 (L ++ [s]) = flat3 L ++ [.int .i64 s.1.1, .int .i64 s.1.2, .int .i64 s.2] := by simp [flat3]
theorem flat3_at : ∀ (L : List St) (i : Nat) (s : St), L[i]? = some s → (flat3 L)[i * 3]? = some (.int .i64 s.1.1) ∧ (flat3 L)[i * 3 + 1]? = some (.int .i64 s.1.2) ∧ (flat3 L)[i * 3 + 2]? = some (.int .i64 s.2)
  | [], i, s, h => by simp at h
  | a :: L, 0, s, h => by simp at h; subst h; simp [flat3]
  | a :: L, i + 1, s, h => by
    have := flat3_at L i s (by simpa using h)
    have e (j : Nat) : (flat3 (a :: L))[(i + 1) * 3 + j]? = (flat3 L)[i * 3 + j]? := by
      have : (i + 1) * 3 + j = i * 3 + j + 1 + 1 + 1 := by omega
      rw [this]
      rfl
    have e0 := e 0
    simp only [Nat.add_zero] at e0
    rw [e0, e 1, e 2]
    exact this
theorem stamps_of_owns {W : World} {base n cap : Nat} {A : Option Addr} {L : List St} (hn : n = L.length) (h : W.ownsRow base 27 3 (.slice A n cap) n (flat3 L)) (hok : ∀ s ∈ L, s.ok) : Stamps W A L ∧ (∀ p, A = some p → p.block < W.heap.size) := by
  subst hn
  rcases h.2 with ⟨h1, h2⟩ | ⟨g, cap', cur, h1, _, hg, _, _, _, hcur⟩
  · have : L = [] := List.eq_nil_of_length_eq_zero h2
    subst this
    cases h1
    exact ⟨fun i s h => by simp at h, fun p h => by cases h⟩
  · injection h1 with hA _ _
    subst hA
    have hlt : g < W.heap.size := (Array.getElem?_eq_some_iff.1 hg).1
    refine ⟨fun i s hs => ?_, fun p e => by cases e; exact hlt⟩
    have hil : i < L.length := (List.getElem?_eq_some_iff.1 hs).1
    have cell (j : Nat) (v : Value) (hj : (flat3 L)[j]? = some v) : W.cell? ⟨g, j, none⟩ = some v := by
      rw [cell_of_row W g j cur 27 (0, 0) hg]
      rw [← hcur] at hj
      have hlt2 : j < (cur.toList.take (L.length * 3)).length := (List.getElem?_eq_some_iff.1 hj).1
      rw [List.getElem?_take_of_lt (by simp at hlt2; omega)] at hj
      simpa using hj
    obtain ⟨f0, f1, f2⟩ := flat3_at L i s hs
    refine ⟨hok s (List.mem_of_getElem? hs), g, 0, rfl, hlt, ?_, ?_, ?_⟩
    · exact cell (0 + i * 3) _ (by simpa using f0)
    · exact cell (0 + i * 3 + 1) _ (by simpa using f1)
    · exact cell (0 + i * 3 + 2) _ (by simpa using f2)
end Go.Proofs.YtoefekgfklillaaDoor
