/- Rows of the document's items. -/
import Derived.Test.YtlhmhpopppfpkaaCopy
namespace Go.Proofs.Ytlhmhpopppfpkaa
open Go.RowKit Go.Kx Go.Maps
set_option maxRecDepth 20000

abbrev It := Pr × Int
theorem it_info : ((Try.prog.info? 52).map fun i => (i.zero, i.size, i.bytes)) = some (some (.agg #[.int .i64 0, .int .i64 0, .int .i64 0]), 3, 24) := by kernel_rfl
def cells3 (e : It) : List Value := [.int .i64 e.1.1, .int .i64 e.1.2, .int .i64 e.2]
def flat3 (L : List It) : List Value := L.flatMap cells3
theorem flat3_nil : flat3 [] = [] := rfl
theorem flat3_snoc (L : List It) (e : It) : flat3 (L ++ [e]) = flat3 L ++ cells3 e := by simp [flat3]
theorem flat3_append (L M : List It) : flat3 (L ++ M) = flat3 L ++ flat3 M := by simp [flat3]
theorem flat3_length : ∀ L : List It, (flat3 L).length = L.length * 3
  | [] => rfl
  | a :: L => by
    have : flat3 (a :: L) = cells3 a ++ flat3 L := rfl
    rw [this, List.length_append, flat3_length L, List.length_cons]
    simp [cells3]
    omega
theorem flat3_take : ∀ (L : List It) (n : Nat), (flat3 L).take (n * 3) = flat3 (L.take n)
  | [], n => by simp [flat3]
  | a :: L, 0 => by simp [flat3]
  | a :: L, n + 1 => by
    have e : (n + 1) * 3 = n * 3 + 1 + 1 + 1 := by omega
    show (cells3 a ++ flat3 L).take ((n + 1) * 3) = cells3 a ++ flat3 (L.take n)
    rw [e, ← flat3_take L n]
    rfl
theorem flat3_drop : ∀ (L : List It) (n : Nat), (flat3 L).drop (n * 3) = flat3 (L.drop n)
  | [], n => by simp [flat3]
  | a :: L, 0 => by simp
  | a :: L, n + 1 => by
    have e : (n + 1) * 3 = n * 3 + 1 + 1 + 1 := by omega
    show (cells3 a ++ flat3 L).drop ((n + 1) * 3) = flat3 (L.drop n)
    rw [e, ← flat3_drop L n]
    rfl
theorem flat3_at : ∀ (L : List It) (i : Nat) (e : It), L[i]? = some e → (flat3 L)[i * 3]? = some (.int .i64 e.1.1) ∧ (flat3 L)[i * 3 + 1]? = some (.int .i64 e.1.2) ∧ (flat3 L)[i * 3 + 2]? = some (.int .i64 e.2)
  | [], i, s, h => by simp at h
  | a :: L, 0, s, h => by simp at h; subst h; simp [flat3, cells3]
  | a :: L, i + 1, s, h => by
    have := flat3_at L i s (by simpa using h)
    have e (j : Nat) : (flat3 (a :: L))[(i + 1) * 3 + j]? = (flat3 L)[i * 3 + j]? := by
      have : (i + 1) * 3 + j = i * 3 + j + 1 + 1 + 1 := by omega
      rw [this]
      rfl
    have e0 := e 0
    simp only [Nat.add_zero] at e0
    rw [e0, e 1, e 2]
    exact this
/-- append(v, x) of one element of four cells, v nil or the call's own -/
theorem run_append3 {P : Program} {t e : TypeId} (te ty : TypeId) {z : Value} {bytes : Nat} (ht : P.underlying t = some (.slice e)) (hi : (P.info? e).map (fun i => (i.zero, i.size, i.bytes)) = some (some z, 3, bytes)) (hz : z.cells.size = 3)
    {w : World} {base : Nat} {v : Value} {n : Nat} {xs : List Value} (hown : w.ownsRow base e 3 v n xs) (x : It) (hbase : base ≤ w.heap.size) (h63 : n + 1 ≤ maxLen) (hb : (n + 1) * bytes ≤ 140737488355328) :
    ∃ g cap w1, (Builtin.append_ #[t, t] ty #[v, .slice (some ⟨w.heap.size, 0, none⟩) 1 1]).run P (w.alloc (.cells #[.int .i64 x.1.1, .int .i64 x.1.2, .int .i64 x.2] te)) = .ok (.slice (some ⟨g, 0, none⟩) (n + 1) cap) w1 ∧
      w1.ownsRow base e 3 (.slice (some ⟨g, 0, none⟩) (n + 1) cap) (n + 1) (xs ++ cells3 x) ∧ Only v.ownBlock.toList w w1 ∧ (v.ownBlock = some g ∨ w.heap.size ≤ g) := by
  obtain ⟨i, hi, h0, h1, h2⟩ := info_parts hi
  obtain ⟨v', w1, hr, ho, hg, hn, hat⟩ := run_append_own_at (P := P) (w.alloc (.cells #[.int .i64 x.1.1, .int .i64 x.1.2, .int .i64 x.2] te)) base t ty e i z 3 bytes ht hi h0 h1 h2 hz (by omega) v n xs (hown.alloc _) ⟨w.heap.size, 0, none⟩ 1 1 (cells3 x) rfl
    (by intro j u hj
        match j, hj with
        | 0, hj => simp [cells3] at hj; subst hj; simp [Addr.add]
        | 1, hj => simp [cells3] at hj; subst hj; simp [Addr.add]
        | 2, hj => simp [cells3] at hj; subst hj; simp [Addr.add])
    (by simp [cells3]; exact ⟨rfl, rfl, rfl⟩) h63 hb (by simp; omega)
  rcases ho.2 with ⟨rfl, hn0⟩ | ⟨g, cap, cur, rfl, hrest⟩
  · omega
  · refine ⟨g, cap, w1, hr, ho, ?_, ?_⟩
    · have := Only.of_grownBy hg
      exact ((Only.refl v.ownBlock.toList w).alloc _).trans this (fun _ h => .inl h)
    · rcases hat with h | h
      · left; rw [← h]; rfl
      · right; simp [Value.ownBlock] at h; omega
/-- the cells of an own row of entries -/
theorem own_cell {W : World} {base n cap : Nat} {A : Option Addr} {t : TypeId} {L : List It} (hn : n = L.length) (h : W.ownsRow base t 3 (.slice A n cap) n (flat3 L)) {i : Nat} {e : It} (hi : L[i]? = some e) :
    ∃ b, A = some ⟨b, 0, none⟩ ∧ b < W.heap.size ∧ base ≤ b ∧ W.cell? ⟨b, i * 3, none⟩ = some (.int .i64 e.1.1) ∧ W.cell? ⟨b, i * 3 + 1, none⟩ = some (.int .i64 e.1.2) ∧ W.cell? ⟨b, i * 3 + 2, none⟩ = some (.int .i64 e.2) := by
  subst hn
  have hil : i < L.length := (List.getElem?_eq_some_iff.1 hi).1
  rcases h.2 with ⟨h1, h2⟩ | ⟨g, cap', cur, h1, hb, hg, _, _, _, hcur⟩
  · omega
  · injection h1 with hA _ _
    subst hA
    have hlt : g < W.heap.size := (Array.getElem?_eq_some_iff.1 hg).1
    have cell (j : Nat) (v : Value) (hj : (flat3 L)[j]? = some v) : W.cell? ⟨g, j, none⟩ = some v := by
      rw [cell_of_row W g j cur t (0, 0) hg]
      rw [← hcur] at hj
      have hlt2 : j < (cur.toList.take (L.length * 3)).length := (List.getElem?_eq_some_iff.1 hj).1
      rw [List.getElem?_take_of_lt (by simp at hlt2; omega)] at hj
      simpa using hj
    obtain ⟨f0, f1, f2⟩ := flat3_at L i e hi
    exact ⟨g, rfl, hlt, hb, cell _ _ f0, cell _ _ f1, cell _ _ f2⟩
/-- a row of cells that holds these entries -/
def Row3 (w : World) (A : Option Addr) (M : List It) : Prop :=
  ∀ j u, (flat3 M)[j]? = some u → ∃ b o, A = some ⟨b, o, none⟩ ∧ b < w.heap.size ∧ w.cell? ⟨b, o + j, none⟩ = some u
theorem Row3.only {w w' : World} {A : Option Addr} {M : List It} (h : Row3 w A M) (ho : Only [] w w') : Row3 w' A M := fun j u hu => by
  obtain ⟨b, o, hA, hb, hc⟩ := h j u hu
  have := ho.size
  exact ⟨b, o, hA, by omega, (ho.cell (p := ⟨b, _, none⟩) hb (by simp)).trans hc⟩
theorem Row3.besides {S : List Nat} {w w' : World} {A : Option Addr} {M : List It} (h : Row3 w A M) (ho : Only S w w') (hn : ∀ p, A = some p → p.block ∉ S) : Row3 w' A M := fun j u hu => by
  obtain ⟨b, o, hA, hb, hc⟩ := h j u hu
  have := ho.size
  exact ⟨b, o, hA, by omega, (ho.cell (p := ⟨b, o + j, none⟩) hb (show b ∉ S from hn _ hA)).trans hc⟩
theorem own_row3 {W : World} {base n cap : Nat} {A : Option Addr} {t : TypeId} {L : List It} (hn : n = L.length) (h : W.ownsRow base t 3 (.slice A n cap) n (flat3 L)) : Row3 W A L := by
  subst hn
  intro j u hu
  have hj : j < (flat3 L).length := (List.getElem?_eq_some_iff.1 hu).1
  rw [flat3_length] at hj
  rcases h.2 with ⟨h1, h2⟩ | ⟨g, cap', cur, h1, hb, hg, _, _, _, hcur⟩
  · omega
  · injection h1 with hA _ _
    refine ⟨g, 0, hA, (Array.getElem?_eq_some_iff.1 hg).1, ?_⟩
    rw [Nat.zero_add, cell_of_row W g j cur t (0, 0) hg]
    rw [← hcur, List.getElem?_take_of_lt hj] at hu
    simpa using hu
theorem own_row3_drop {W : World} {base c b n : Nat} {t : TypeId} {L : List It} (hn : L.length = n) (h : W.ownsRow base t 3 (.slice (some ⟨b, 0, none⟩) n c) n (flat3 L)) (i : Nat) : Row3 W (some ⟨b, i * 3, none⟩) (L.drop i) := by
  intro j u hu
  rw [← flat3_drop, List.getElem?_drop] at hu
  obtain ⟨b', o', hA, hb, hc⟩ := own_row3 hn.symm h _ _ hu
  cases hA
  exact ⟨b, i * 3, rfl, hb, by rw [Nat.zero_add] at hc; exact hc⟩
theorem Row3.nil (w : World) (A : Option Addr) : Row3 w A [] := fun j u h => by simp [flat3] at h
theorem flat3_one' (L : List It) : ∀ u ∈ flat3 L, u.oneCell' = true := by
  intro u hu
  obtain ⟨e, _, hu⟩ := List.mem_flatMap.1 hu
  simp [cells3] at hu
  rcases hu with rfl | rfl | rfl <;> rfl
/-- append(v, x...) of entries, v nil or the call's own -/
theorem run_append_row3 {P : Program} {t e : TypeId} (ty : TypeId) {z : Value} {bytes : Nat} (ht : P.underlying t = some (.slice e)) (hi : (P.info? e).map (fun i => (i.zero, i.size, i.bytes)) = some (some z, 3, bytes)) (hz : z.cells.size = 3)
    {w : World} {base : Nat} {v : Value} {n : Nat} {L1 L2 : List It} (hown : w.ownsRow base e 3 v n (flat3 L1)) {A : Option Addr} {c m : Nat} (h2 : Row3 w A L2) (hm : L2.length = m) (hbase : base ≤ w.heap.size) (h63 : n + m ≤ maxLen) (hb : (n + m) * bytes ≤ 140737488355328) :
    ∃ A' c' w1, (Builtin.append_ #[t, t] ty #[v, .slice A m c]).run P w = .ok (.slice A' (n + m) c') w1 ∧ w1.ownsRow base e 3 (.slice A' (n + m) c') (n + m) (flat3 (L1 ++ L2)) ∧ Only v.ownBlock.toList w w1 ∧ (∀ p, A' = some p → v.ownBlock = some p.block ∨ w.heap.size ≤ p.block) := by
  obtain ⟨i, hi, h0, hsz, h2'⟩ := info_parts hi
  have form : ∀ {w' : World} {v' : Value} {k : Nat} {xs : List Value}, w'.ownsRow base e 3 v' k xs → ∃ A' c', v' = .slice A' k c' := fun h => by
    rcases h.2 with ⟨rfl, rfl⟩ | ⟨g, cap, cur, rfl, _⟩
    · exact ⟨none, 0, rfl⟩
    · exact ⟨_, _, rfl⟩
  cases A with
  | none =>
    have hL : L2 = [] := by
      cases L2 with
      | nil => rfl
      | cons e r => obtain ⟨b, o, h, _⟩ := h2 0 (.int .i64 e.1.1) rfl; cases h
    subst hL
    simp at hm
    subst hm
    obtain ⟨A', c', rfl⟩ := form hown
    refine ⟨A', c', w, ?_, by simpa using hown, Only.refl _ _, fun p h => .inl (by rw [h]; rfl)⟩
    rcases hown.2 with ⟨h1, rfl⟩ | ⟨g, cap, cur, h1, _, _, hnc, _⟩
    · rw [h1]
      simp [Builtin.append_, run_underlying ht, sizeOf, typeInfo, hi, Builtin.lenOf, Builtin.firstCells]
    · injection h1 with h1 _ hcc
      subst h1
      subst hcc
      simp [Builtin.append_, run_underlying ht, sizeOf, typeInfo, hi, Builtin.lenOf, Builtin.firstCells, hnc, storeCells]
  | some ad =>
    obtain ⟨v', w1, hrun, ho, hg, _, hat⟩ := run_append_own_at (P := P) w base t ty e i z 3 bytes ht hi h0 hsz h2' hz (by omega) v n (flat3 L1) hown ad m c (flat3 L2) (by rw [flat3_length, hm])
      (fun j u hj => by obtain ⟨b, o, h, _, hc⟩ := h2 j u hj; cases h; rw [Addr.add_lit]; exact hc) (flat3_one' _) h63 hb hbase
    obtain ⟨A', c', rfl⟩ := form ho
    rw [← flat3_append] at ho
    refine ⟨A', c', w1, hrun, ho, Only.of_grownBy hg, fun p h => ?_⟩
    subst h
    rcases hat with h | h
    · left; rw [← h]; rfl
    · right; simp [Value.ownBlock] at h; omega

end Go.Proofs.Ytlhmhpopppfpkaa
