/- Rows of one's own: what they hold, what is appended. -/
import Derived.Test.YtgpljjejfebhoaaDoorRParts
namespace Go.Proofs.YtgpljjejfebhoaaDoor
open Go.RowKit Go.Kx Go.Val
set_option maxRecDepth 100000
def flat2 (L : List Tx) : List Value := L.flatMap Tx.cs
theorem flat2_app (L M : List Tx) : flat2 (L ++ M) = flat2 L ++ flat2 M := by simp [flat2]
theorem cs_lenT (e : Tx) : e.cs.length = 2 := by cases e; rfl
theorem flat2_len (L : List Tx) : (flat2 L).length = L.length * 2 := by
  induction L with
  | nil => rfl
  | cons a l ih => rw [flat2, List.flatMap_cons, List.length_append, cs_lenT, List.length_cons]; have : (l.flatMap Tx.cs).length = l.length * 2 := ih; omega
theorem flat2_one (L : List Tx) : ∀ u ∈ flat2 L, u.oneCell' = true := by
  intro u hu
  obtain ⟨e, _, hu⟩ := List.mem_flatMap.1 hu
  cases e
  simp [Tx.cs] at hu
  rcases hu with rfl | rfl <;> rfl
theorem flat_atV : ∀ (L : List Vx) (i j : Nat) (e : Vx) (u : Value), L[i]? = some e → e.cs[j]? = some u → (flat4 L)[i * 4 + j]? = some u
  | [], i, j, e, u, h, _ => by simp at h
  | a :: L, 0, j, e, u, h, hu => by
    simp at h
    subst h
    rw [flat4, List.flatMap_cons, Nat.zero_mul, Nat.zero_add, List.getElem?_append_left (List.getElem?_eq_some_iff.1 hu).1]
    exact hu
  | a :: L, i + 1, j, e, u, h, hu => by
    rw [flat4, List.flatMap_cons, List.getElem?_append_right (by rw [cs_len]; omega), cs_len, show (i + 1) * 4 + j - 4 = i * 4 + j by omega]
    exact flat_atV L i j e u (by simpa using h) hu
theorem own_cellV {W : World} {B n c : Nat} {A : Option Addr} {xs : List Value} (h : W.ownsRow B 34 4 (.slice A n c) n xs) (hn : 0 < n) : ∃ g, A = some ⟨g, 0, none⟩ ∧ g < W.heap.size ∧ ∀ j u, xs[j]? = some u → W.cell? ⟨g, j, none⟩ = some u := by
  rcases h.2 with ⟨h1, h2⟩ | ⟨g, cap', cur, h1, hb, hg, hnc, hcm, hcs, hcur⟩
  · omega
  · injection h1 with hA _ _
    refine ⟨g, hA, Blk.lt (w := W) (t := 34) (cs := cur) hg, fun j u hj => ?_⟩
    rw [cell_of_row W g j cur 34 (0, 0) hg]
    rw [← hcur] at hj
    have hlt2 := (List.getElem?_eq_some_iff.1 hj).1
    rw [List.getElem?_take_of_lt (by simp at hlt2; omega)] at hj
    simpa using hj
theorem row_of_ownV {W : World} {B n c : Nat} {A : Option Addr} {L : List Vx} (h : W.ownsRow B 34 4 (.slice A n c) n (flat4 L)) (hn : L.length = n) : ∀ i e, L[i]? = some e → RowAtV W A i e := by
  intro i e hi
  have hlt := (List.getElem?_eq_some_iff.1 hi).1
  obtain ⟨g, rfl, hg, hc⟩ := own_cellV h (by omega)
  exact ⟨g, 0, rfl, hg, fun j v hv => by rw [Nat.zero_add]; exact hc _ _ (flat_atV L i j e v hi hv)⟩
theorem run_appV {w : World} {B n c z cz : Nat} {A : Option Addr} {L M : List Vx} (h : w.ownsRow B 34 4 (.slice A n c) n (flat4 L)) (hz : ∀ j u, (flat4 M)[j]? = some u → w.cell? ⟨z, j, none⟩ = some u) (hl : n + M.length ≤ 1048576) (hB : B ≤ w.heap.size) :
    ∃ A' c' w1, (Builtin.append_ #[32, 32] 32 #[.slice A n c, .slice (some ⟨z, 0, none⟩) M.length cz]).run Tryd.prog w = .ok (.slice A' (n + M.length) c') w1 ∧ w1.ownsRow B 34 4 (.slice A' (n + M.length) c') (n + M.length) (flat4 (L ++ M)) ∧ Only (A.toList.map (·.block)) w w1 ∧
      (∀ p, A' = some p → (∃ q, A = some q ∧ q.block = p.block) ∨ w.heap.size ≤ p.block) := by
  obtain ⟨i, hi, h0, h1, h2⟩ := info_parts infoV
  obtain ⟨v', w1, hr, ho, hg, hn, hat⟩ := run_append_own_at (P := Tryd.prog) w B 32 32 34 i zV 4 56 Tryd.underlying32 hi h0 h1 h2 rfl (by omega) _ n _ h ⟨z, 0, none⟩ M.length cz (flat4 M) (flat4_len M)
    (by intro j u hj; rw [Addr.add_lit, Nat.zero_add]; exact hz j u hj) (flat4_one M) (by unfold maxLen; omega) (by omega) hB
  rw [← flat4_app] at ho
  obtain ⟨A', c', rfl⟩ : ∃ A' c', v' = .slice A' (n + M.length) c' := by
    rcases ho.2 with ⟨rfl, h2⟩ | ⟨g, cap', cur, rfl, _⟩
    · exact ⟨none, 0, by rw [h2]⟩
    · exact ⟨_, _, rfl⟩
  refine ⟨A', c', w1, hr, ho, (Only.of_grownBy hg).mono (fun x hx => .inl (by
    cases A with
    | none => simp [Value.ownBlock] at hx
    | some p => simp [Value.ownBlock] at hx; simp [hx])), fun p hp => ?_⟩
  subst hp
  rcases hat with h | h
  · left
    cases A with
    | none => simp [Value.ownBlock] at h
    | some q => simp [Value.ownBlock] at h; exact ⟨q, rfl, h.symm⟩
  · right
    simp [Value.ownBlock] at h
    exact Nat.le_of_eq h.symm
theorem flat_atT : ∀ (L : List Tx) (i j : Nat) (e : Tx) (u : Value), L[i]? = some e → e.cs[j]? = some u → (flat2 L)[i * 2 + j]? = some u
  | [], i, j, e, u, h, _ => by simp at h
  | a :: L, 0, j, e, u, h, hu => by
    simp at h
    subst h
    rw [flat2, List.flatMap_cons, Nat.zero_mul, Nat.zero_add, List.getElem?_append_left (List.getElem?_eq_some_iff.1 hu).1]
    exact hu
  | a :: L, i + 1, j, e, u, h, hu => by
    rw [flat2, List.flatMap_cons, List.getElem?_append_right (by rw [cs_lenT]; omega), cs_lenT, show (i + 1) * 2 + j - 2 = i * 2 + j by omega]
    exact flat_atT L i j e u (by simpa using h) hu
theorem own_cellT {W : World} {B n c : Nat} {A : Option Addr} {xs : List Value} (h : W.ownsRow B 26 2 (.slice A n c) n xs) (hn : 0 < n) : ∃ g, A = some ⟨g, 0, none⟩ ∧ g < W.heap.size ∧ ∀ j u, xs[j]? = some u → W.cell? ⟨g, j, none⟩ = some u := by
  rcases h.2 with ⟨h1, h2⟩ | ⟨g, cap', cur, h1, hb, hg, hnc, hcm, hcs, hcur⟩
  · omega
  · injection h1 with hA _ _
    refine ⟨g, hA, Blk.lt (w := W) (t := 26) (cs := cur) hg, fun j u hj => ?_⟩
    rw [cell_of_row W g j cur 26 (0, 0) hg]
    rw [← hcur] at hj
    have hlt2 := (List.getElem?_eq_some_iff.1 hj).1
    rw [List.getElem?_take_of_lt (by simp at hlt2; omega)] at hj
    simpa using hj
theorem row_of_ownT {W : World} {B n c : Nat} {A : Option Addr} {L : List Tx} (h : W.ownsRow B 26 2 (.slice A n c) n (flat2 L)) (hn : L.length = n) : ∀ i e, L[i]? = some e → RowAtT W A i e := by
  intro i e hi
  have hlt := (List.getElem?_eq_some_iff.1 hi).1
  obtain ⟨g, rfl, hg, hc⟩ := own_cellT h (by omega)
  exact ⟨g, 0, rfl, hg, fun j v hv => by rw [Nat.zero_add]; exact hc _ _ (flat_atT L i j e v hi hv)⟩
theorem run_appT {w : World} {B n c z cz : Nat} {A : Option Addr} {L M : List Tx} (h : w.ownsRow B 26 2 (.slice A n c) n (flat2 L)) (hz : ∀ j u, (flat2 M)[j]? = some u → w.cell? ⟨z, j, none⟩ = some u) (hl : n + M.length ≤ 1048576) (hB : B ≤ w.heap.size) :
    ∃ A' c' w1, (Builtin.append_ #[24, 24] 24 #[.slice A n c, .slice (some ⟨z, 0, none⟩) M.length cz]).run Tryd.prog w = .ok (.slice A' (n + M.length) c') w1 ∧ w1.ownsRow B 26 2 (.slice A' (n + M.length) c') (n + M.length) (flat2 (L ++ M)) ∧ Only (A.toList.map (·.block)) w w1 ∧
      (∀ p, A' = some p → (∃ q, A = some q ∧ q.block = p.block) ∨ w.heap.size ≤ p.block) := by
  obtain ⟨i, hi, h0, h1, h2⟩ := info_parts infoT
  obtain ⟨v', w1, hr, ho, hg, hn, hat⟩ := run_append_own_at (P := Tryd.prog) w B 24 24 26 i zT 2 32 Tryd.underlying24 hi h0 h1 h2 rfl (by omega) _ n _ h ⟨z, 0, none⟩ M.length cz (flat2 M) (flat2_len M)
    (by intro j u hj; rw [Addr.add_lit, Nat.zero_add]; exact hz j u hj) (flat2_one M) (by unfold maxLen; omega) (by omega) hB
  rw [← flat2_app] at ho
  obtain ⟨A', c', rfl⟩ : ∃ A' c', v' = .slice A' (n + M.length) c' := by
    rcases ho.2 with ⟨rfl, h2⟩ | ⟨g, cap', cur, rfl, _⟩
    · exact ⟨none, 0, by rw [h2]⟩
    · exact ⟨_, _, rfl⟩
  refine ⟨A', c', w1, hr, ho, (Only.of_grownBy hg).mono (fun x hx => .inl (by
    cases A with
    | none => simp [Value.ownBlock] at hx
    | some p => simp [Value.ownBlock] at hx; simp [hx])), fun p hp => ?_⟩
  subst hp
  rcases hat with h | h
  · left
    cases A with
    | none => simp [Value.ownBlock] at h
    | some q => simp [Value.ownBlock] at h; exact ⟨q, rfl, h.symm⟩
  · right
    simp [Value.ownBlock] at h
    exact Nat.le_of_eq h.symm
end Go.Proofs.YtgpljjejfebhoaaDoor
