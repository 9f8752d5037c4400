/- Entries and a heap in memory. -/
import Derived.Test.YtodiemichniehaaAt
import Derived.Test.YtodiemichniehaaWords
import Derived.Test.YtodiemichniehaaRows
namespace Go.Proofs.Ytodiemichniehaa
open Go.RowKit Go.Kx
set_option maxRecDepth 20000

theorem _root_.Go.Kx.Blk.facts1 {w : World} {g : Nat} {t : TypeId} {a : Value} (h : Blk w g t #[a]) : w.cell? ⟨g, 0, none⟩ = some a ∧ g < w.heap.size :=
  ⟨by simpa using h.cell 0, h.lt⟩
theorem _root_.Go.Kx.Blk.facts2 {w : World} {g : Nat} {t : TypeId} {a b : Value} (h : Blk w g t #[a, b]) : w.cell? ⟨g, 0, none⟩ = some a ∧ w.cell? ⟨g, 1, none⟩ = some b ∧ g < w.heap.size :=
  ⟨by simpa using h.cell 0, by simpa using h.cell 1, h.lt⟩
theorem _root_.Go.Kx.Blk.facts3 {w : World} {g : Nat} {t : TypeId} {a b c : Value} (h : Blk w g t #[a, b, c]) : w.cell? ⟨g, 0, none⟩ = some a ∧ w.cell? ⟨g, 1, none⟩ = some b ∧ w.cell? ⟨g, 2, none⟩ = some c ∧ g < w.heap.size :=
  ⟨by simpa using h.cell 0, by simpa using h.cell 1, by simpa using h.cell 2, h.lt⟩
theorem owns_ne {w : World} {base : Nat} {e t : TypeId} {size n : Nat} {v : Value} {xs : List Value} {g : Nat} {cs : Array Value} (h : w.ownsRow base e size v n xs) (hb : Blk w g t cs) (hne : e ≠ t) : v.ownBlock ≠ some g := by
  rcases h.2 with ⟨rfl, _⟩ | ⟨g', cap, cur, rfl, _, hg, _⟩
  · simp [Value.ownBlock]
  · intro k
    simp [Value.ownBlock] at k
    subst k
    unfold Blk at hb
    rw [hg] at hb
    injection hb with hb
    injection hb with _ h2 _
    exact hne h2
def cells2 (e : Ent) : List Value := [.int .i64 e.1, .int .i64 e.2]
def flat2 (L : List Ent) : List Value := L.flatMap cells2
theorem flat2_nil : flat2 [] = [] := rfl
theorem flat2_snoc (L : List Ent) (e : Ent) : flat2 (L ++ [e]) = flat2 L ++ cells2 e := by simp [flat2]
theorem flat2_append (L M : List Ent) : flat2 (L ++ M) = flat2 L ++ flat2 M := by simp [flat2]
theorem flat2_length : ∀ L : List Ent, (flat2 L).length = L.length * 2
  | [] => rfl
  | a :: L => by
    have : flat2 (a :: L) = cells2 a ++ flat2 L := rfl
    rw [this, List.length_append, flat2_length L, List.length_cons]
    simp [cells2]
    omega
theorem flat2_take : ∀ (L : List Ent) (n : Nat), (flat2 L).take (n * 2) = flat2 (L.take n)
  | [], n => by simp [flat2]
  | a :: L, 0 => by simp [flat2]
  | a :: L, n + 1 => by
    have e : (n + 1) * 2 = n * 2 + 1 + 1 := by omega
    show (cells2 a ++ flat2 L).take ((n + 1) * 2) = cells2 a ++ flat2 (L.take n)
    rw [e, ← flat2_take L n]
    rfl
theorem flat2_drop : ∀ (L : List Ent) (n : Nat), (flat2 L).drop (n * 2) = flat2 (L.drop n)
  | [], n => by simp [flat2]
  | a :: L, 0 => by simp
  | a :: L, n + 1 => by
    have e : (n + 1) * 2 = n * 2 + 1 + 1 := by omega
    show (cells2 a ++ flat2 L).drop ((n + 1) * 2) = flat2 (L.drop n)
    rw [e, ← flat2_drop L n]
    rfl
theorem flat2_at : ∀ (L : List Ent) (i : Nat) (e : Ent), L[i]? = some e → (flat2 L)[i * 2]? = some (.int .i64 e.1) ∧ (flat2 L)[i * 2 + 1]? = some (.int .i64 e.2)
  | [], i, s, h => by simp at h
  | a :: L, 0, s, h => by simp at h; subst h; simp [flat2, cells2]
  | a :: L, i + 1, s, h => by
    have := flat2_at L i s (by simpa using h)
    have e (j : Nat) : (flat2 (a :: L))[(i + 1) * 2 + j]? = (flat2 L)[i * 2 + j]? := by
      have : (i + 1) * 2 + j = i * 2 + j + 1 + 1 := by omega
      rw [this]
      rfl
    have e0 := e 0
    simp only [Nat.add_zero] at e0
    rw [e0, e 1]
    exact this
theorem flat2_set : ∀ (L : List Ent) (i : Nat) (x : Ent), flat2 (L.set i x) = if i < L.length then ((flat2 L).set (i * 2) (.int .i64 x.1)).set (i * 2 + 1) (.int .i64 x.2) else flat2 L
  | [], i, x => by simp
  | a :: L, 0, x => by simp [flat2, cells2]
  | a :: L, i + 1, x => by
    have e : (i + 1) * 2 = i * 2 + 1 + 1 := by omega
    show cells2 a ++ flat2 (L.set i x) = _
    rw [flat2_set L i x, List.length_cons]
    by_cases h : i < L.length
    · rw [if_pos h, if_pos (by omega), e]
      rfl
    · rw [if_neg h, if_neg (by omega)]
      rfl
theorem flat2_one (L : List Ent) : ∀ u ∈ flat2 L, u.oneCell' = true := by
  intro u hu
  obtain ⟨e, _, he⟩ := List.mem_flatMap.1 hu
  simp [cells2] at he
  rcases he with rfl | rfl <;> rfl
theorem wp_append_run {P : Program} {w w1 : World} {o : Oper} {a : Act} {K : Act → World → Prop} {Q : Exit → Act → World → Prop} {v xv r : Value} {t1 t2 ty : TypeId}
    (hrun : (Builtin.append_ #[t1, t2] ty #[v, xv]).run P w = .ok r w1) (s x : Operand)
    (hop : o.op = .call { callee := .builtin .append, args := #[s, x], argTypes := #[t1, t2] }) (hty : o.type = ty) (hs : a.eval s = v) (hx : a.eval x = xv)
    (hK : K (a.put o.dst r) w1) : o.wp P a w K Q := by
  subst hty
  unfold Oper.wp execOp
  simp only [hop, resolve, invoke, builtin, Sem.run_bind, Sem.run_pure, Result.andThen_ok, List.map_toArray, List.map_cons, List.map_nil, hs, hx, hrun]
  exact hK
theorem en_info : ((Try.prog.info? 40).map fun i => (i.zero, i.size, i.bytes)) = some (some (.agg #[.int .i64 0, .int .i64 0]), 2, 16) := by kernel_rfl
theorem re_info : ((Try.prog.info? 33).map fun i => (i.zero, i.size, i.bytes)) = some (some (.agg #[.int .i64 0, .int .i64 0]), 2, 16) := by kernel_rfl
/-- append(v, x) of one element of two cells, v nil or the call's own -/
theorem run_append2 {P : Program} {t e : TypeId} (te ty : TypeId) {z : Value} {bytes : Nat} (ht : P.underlying t = some (.slice e)) (hi : (P.info? e).map (fun i => (i.zero, i.size, i.bytes)) = some (some z, 2, bytes)) (hz : z.cells.size = 2)
    {w : World} {base : Nat} {v : Value} {n : Nat} {xs : List Value} (hown : w.ownsRow base e 2 v n xs) (x : Ent) (hbase : base ≤ w.heap.size) (h63 : n + 1 ≤ maxLen) (hb : (n + 1) * bytes ≤ 140737488355328) :
    ∃ g cap w1, (Builtin.append_ #[t, t] ty #[v, .slice (some ⟨w.heap.size, 0, none⟩) 1 1]).run P (w.alloc (.cells #[.int .i64 x.1, .int .i64 x.2] te)) = .ok (.slice (some ⟨g, 0, none⟩) (n + 1) cap) w1 ∧
      w1.ownsRow base e 2 (.slice (some ⟨g, 0, none⟩) (n + 1) cap) (n + 1) (xs ++ cells2 x) ∧ Only v.ownBlock.toList w w1 ∧ (v.ownBlock = some g ∨ w.heap.size ≤ g) := by
  obtain ⟨i, hi, h0, h1, h2⟩ := info_parts hi
  obtain ⟨v', w1, hr, ho, hg, hn, hat⟩ := run_append_own_at (P := P) (w.alloc (.cells #[.int .i64 x.1, .int .i64 x.2] te)) base t ty e i z 2 bytes ht hi h0 h1 h2 hz (by omega) v n xs (hown.alloc _) ⟨w.heap.size, 0, none⟩ 1 1 (cells2 x) rfl
    (by intro j u hj
        match j, hj with
        | 0, hj => simp [cells2] at hj; subst hj; simp [Addr.add]
        | 1, hj => simp [cells2] at hj; subst hj; simp [Addr.add])
    (by simp [cells2]; exact ⟨rfl, rfl⟩) h63 hb (by simp; omega)
  rcases ho.2 with ⟨rfl, hn0⟩ | ⟨g, cap, cur, rfl, hrest⟩
  · omega
  · refine ⟨g, cap, w1, hr, ho, ?_, ?_⟩
    · have := Only.of_grownBy hg
      exact ((Only.refl v.ownBlock.toList w).alloc _).trans this (fun _ h => .inl h)
    · rcases hat with h | h
      · left; rw [← h]; rfl
      · right; simp [Value.ownBlock] at h; omega
/-- the cells of an own row of entries -/
theorem own_cell {W : World} {base n cap : Nat} {A : Option Addr} {t : TypeId} {L : List Ent} (hn : n = L.length) (h : W.ownsRow base t 2 (.slice A n cap) n (flat2 L)) {i : Nat} {e : Ent} (hi : L[i]? = some e) :
    ∃ b, A = some ⟨b, 0, none⟩ ∧ b < W.heap.size ∧ base ≤ b ∧ W.cell? ⟨b, i * 2, none⟩ = some (.int .i64 e.1) ∧ W.cell? ⟨b, i * 2 + 1, none⟩ = some (.int .i64 e.2) := by
  subst hn
  have hil : i < L.length := (List.getElem?_eq_some_iff.1 hi).1
  rcases h.2 with ⟨h1, h2⟩ | ⟨g, cap', cur, h1, hb, hg, _, _, _, hcur⟩
  · omega
  · injection h1 with hA _ _
    subst hA
    have hlt : g < W.heap.size := (Array.getElem?_eq_some_iff.1 hg).1
    have cell (j : Nat) (v : Value) (hj : (flat2 L)[j]? = some v) : W.cell? ⟨g, j, none⟩ = some v := by
      rw [cell_of_row W g j cur t (0, 0) hg]
      rw [← hcur] at hj
      have hlt2 : j < (cur.toList.take (L.length * 2)).length := (List.getElem?_eq_some_iff.1 hj).1
      rw [List.getElem?_take_of_lt (by simp at hlt2; omega)] at hj
      simpa using hj
    obtain ⟨f0, f1⟩ := flat2_at L i e hi
    exact ⟨g, rfl, hlt, hb, cell _ _ f0, cell _ _ f1⟩

end Go.Proofs.Ytodiemichniehaa
