/- Items in memory: two cells each; ints: one cell each. -/
import Derived.Test.YtpedlapemgjgaaaStab
import Derived.Test.YtpedlapemgjgaaaWords
import Derived.Test.YtpedlapemgjgaaaProg
namespace Go.Proofs.Ytpedlapemgjgaaa
open Go.RowKit Go.Kx
set_option maxRecDepth 100000

abbrev Ent := Int × Int
theorem _root_.Go.Kx.Blk.facts1 {w : World} {g : Nat} {t : TypeId} {a : Value} (h : Blk w g t #[a]) : w.cell? ⟨g, 0, none⟩ = some a ∧ g < w.heap.size :=
  ⟨by simpa using h.cell 0, h.lt⟩
theorem _root_.Go.Kx.Blk.facts2 {w : World} {g : Nat} {t : TypeId} {a b : Value} (h : Blk w g t #[a, b]) : w.cell? ⟨g, 0, none⟩ = some a ∧ w.cell? ⟨g, 1, none⟩ = some b ∧ g < w.heap.size :=
  ⟨by simpa using h.cell 0, by simpa using h.cell 1, h.lt⟩
theorem _root_.Go.Kx.Blk.facts3 {w : World} {g : Nat} {t : TypeId} {a b c : Value} (h : Blk w g t #[a, b, c]) : w.cell? ⟨g, 0, none⟩ = some a ∧ w.cell? ⟨g, 1, none⟩ = some b ∧ w.cell? ⟨g, 2, none⟩ = some c ∧ g < w.heap.size :=
  ⟨by simpa using h.cell 0, by simpa using h.cell 1, by simpa using h.cell 2, h.lt⟩
theorem owns_ne {w : World} {base : Nat} {e t : TypeId} {size n : Nat} {v : Value} {xs : List Value} {g : Nat} {cs : Array Value} (h : w.ownsRow base e size v n xs) (hb : Blk w g t cs) (hne : e ≠ t) : v.ownBlock ≠ some g := by
  rcases h.2 with ⟨rfl, _⟩ | ⟨g', cap, cur, rfl, _, hg, _⟩
  · simp [Value.ownBlock]
  · intro k
    simp [Value.ownBlock] at k
    subst k
    unfold Blk at hb
    rw [hg] at hb
    injection hb with hb
    injection hb with _ h2 _
    exact hne h2
def cells2 (e : Ent) : List Value := [.int .i64 e.1, .int .i64 e.2]
def flat2 (L : List Ent) : List Value := L.flatMap cells2
theorem flat2_nil : flat2 [] = [] := rfl
theorem flat2_snoc (L : List Ent) (e : Ent) : flat2 (L ++ [e]) = flat2 L ++ cells2 e := by simp [flat2]
theorem flat2_append (L M : List Ent) : flat2 (L ++ M) = flat2 L ++ flat2 M := by simp [flat2]
theorem flat2_length : ∀ L : List Ent, (flat2 L).length = L.length * 2
  | [] => rfl
  | a :: L => by
    have : flat2 (a :: L) = cells2 a ++ flat2 L := rfl
    rw [this, List.length_append, flat2_length L, List.length_cons]
    simp [cells2]
    omega
theorem flat2_take : ∀ (L : List Ent) (n : Nat), (flat2 L).take (n * 2) = flat2 (L.take n)
  | [], n => by simp [flat2]
  | a :: L, 0 => by simp [flat2]
  | a :: L, n + 1 => by
    have e : (n + 1) * 2 = n * 2 + 1 + 1 := by omega
    show (cells2 a ++ flat2 L).take ((n + 1) * 2) = cells2 a ++ flat2 (L.take n)
    rw [e, ← flat2_take L n]
    rfl
theorem flat2_drop : ∀ (L : List Ent) (n : Nat), (flat2 L).drop (n * 2) = flat2 (L.drop n)
  | [], n => by simp [flat2]
  | a :: L, 0 => by simp
  | a :: L, n + 1 => by
    have e : (n + 1) * 2 = n * 2 + 1 + 1 := by omega
    show (cells2 a ++ flat2 L).drop ((n + 1) * 2) = flat2 (L.drop n)
    rw [e, ← flat2_drop L n]
    rfl
theorem flat2_at : ∀ (L : List Ent) (i : Nat) (e : Ent), L[i]? = some e → (flat2 L)[i * 2]? = some (.int .i64 e.1) ∧ (flat2 L)[i * 2 + 1]? = some (.int .i64 e.2)
  | [], i, s, h => by simp at h
  | a :: L, 0, s, h => by simp at h; subst h; simp [flat2, cells2]
  | a :: L, i + 1, s, h => by
    have := flat2_at L i s (by simpa using h)
    have e (j : Nat) : (flat2 (a :: L))[(i + 1) * 2 + j]? = (flat2 L)[i * 2 + j]? := by
      have : (i + 1) * 2 + j = i * 2 + j + 1 + 1 := by omega
      rw [this]
      rfl
    have e0 := e 0
    simp only [Nat.add_zero] at e0
    rw [e0, e 1]
    exact this
theorem flat2_set : ∀ (L : List Ent) (i : Nat) (x : Ent), flat2 (L.set i x) = if i < L.length then ((flat2 L).set (i * 2) (.int .i64 x.1)).set (i * 2 + 1) (.int .i64 x.2) else flat2 L
  | [], i, x => by simp
  | a :: L, 0, x => by simp [flat2, cells2]
  | a :: L, i + 1, x => by
    have e : (i + 1) * 2 = i * 2 + 1 + 1 := by omega
    show cells2 a ++ flat2 (L.set i x) = _
    rw [flat2_set L i x, List.length_cons]
    by_cases h : i < L.length
    · rw [if_pos h, if_pos (by omega), e]
      rfl
    · rw [if_neg h, if_neg (by omega)]
      rfl
theorem flat2_one (L : List Ent) : ∀ u ∈ flat2 L, u.oneCell' = true := by
  intro u hu
  obtain ⟨e, _, he⟩ := List.mem_flatMap.1 hu
  simp [cells2] at he
  rcases he with rfl | rfl <;> rfl
theorem wp_append_run {P : Program} {w w1 : World} {o : Oper} {a : Act} {K : Act → World → Prop} {Q : Exit → Act → World → Prop} {v xv r : Value} {t1 t2 ty : TypeId}
    (hrun : (Builtin.append_ #[t1, t2] ty #[v, xv]).run P w = .ok r w1) (s x : Operand)
    (hop : o.op = .call { callee := .builtin .append, args := #[s, x], argTypes := #[t1, t2] }) (hty : o.type = ty) (hs : a.eval s = v) (hx : a.eval x = xv)
    (hK : K (a.put o.dst r) w1) : o.wp P a w K Q := by
  subst hty
  unfold Oper.wp execOp
  simp only [hop, resolve, invoke, builtin, Sem.run_bind, Sem.run_pure, Result.andThen_ok, List.map_toArray, List.map_cons, List.map_nil, hs, hx, hrun]
  exact hK
/-- append(v, x) of one element of two cells, v nil or the call's own -/
theorem run_append2 {P : Program} {t e : TypeId} (te ty : TypeId) {z : Value} {bytes : Nat} (ht : P.underlying t = some (.slice e)) (hi : (P.info? e).map (fun i => (i.zero, i.size, i.bytes)) = some (some z, 2, bytes)) (hz : z.cells.size = 2)
    {w : World} {base : Nat} {v : Value} {n : Nat} {xs : List Value} (hown : w.ownsRow base e 2 v n xs) (x : Ent) (hbase : base ≤ w.heap.size) (h63 : n + 1 ≤ maxLen) (hb : (n + 1) * bytes ≤ 140737488355328) :
    ∃ g cap w1, (Builtin.append_ #[t, t] ty #[v, .slice (some ⟨w.heap.size, 0, none⟩) 1 1]).run P (w.alloc (.cells #[.int .i64 x.1, .int .i64 x.2] te)) = .ok (.slice (some ⟨g, 0, none⟩) (n + 1) cap) w1 ∧
      w1.ownsRow base e 2 (.slice (some ⟨g, 0, none⟩) (n + 1) cap) (n + 1) (xs ++ cells2 x) ∧ Only v.ownBlock.toList w w1 ∧ (v.ownBlock = some g ∨ w.heap.size ≤ g) := by
  obtain ⟨i, hi, h0, h1, h2⟩ := info_parts hi
  obtain ⟨v', w1, hr, ho, hg, hn, hat⟩ := run_append_own_at (P := P) (w.alloc (.cells #[.int .i64 x.1, .int .i64 x.2] te)) base t ty e i z 2 bytes ht hi h0 h1 h2 hz (by omega) v n xs (hown.alloc _) ⟨w.heap.size, 0, none⟩ 1 1 (cells2 x) rfl
    (by intro j u hj
        match j, hj with
        | 0, hj => simp [cells2] at hj; subst hj; simp [Addr.add]
        | 1, hj => simp [cells2] at hj; subst hj; simp [Addr.add])
    (by simp [cells2]; exact ⟨rfl, rfl⟩) h63 hb (by simp; omega)
  rcases ho.2 with ⟨rfl, hn0⟩ | ⟨g, cap, cur, rfl, hrest⟩
  · omega
  · refine ⟨g, cap, w1, hr, ho, ?_, ?_⟩
    · have := Only.of_grownBy hg
      exact ((Only.refl v.ownBlock.toList w).alloc _).trans this (fun _ h => .inl h)
    · rcases hat with h | h
      · left; rw [← h]; rfl
      · right; simp [Value.ownBlock] at h; omega
/-- the cells of an own row of entries -/
theorem own_cell {W : World} {base n cap : Nat} {A : Option Addr} {t : TypeId} {L : List Ent} (hn : n = L.length) (h : W.ownsRow base t 2 (.slice A n cap) n (flat2 L)) {i : Nat} {e : Ent} (hi : L[i]? = some e) :
    ∃ b, A = some ⟨b, 0, none⟩ ∧ b < W.heap.size ∧ base ≤ b ∧ W.cell? ⟨b, i * 2, none⟩ = some (.int .i64 e.1) ∧ W.cell? ⟨b, i * 2 + 1, none⟩ = some (.int .i64 e.2) := by
  subst hn
  have hil : i < L.length := (List.getElem?_eq_some_iff.1 hi).1
  rcases h.2 with ⟨h1, h2⟩ | ⟨g, cap', cur, h1, hb, hg, _, _, _, hcur⟩
  · omega
  · injection h1 with hA _ _
    subst hA
    have hlt : g < W.heap.size := (Array.getElem?_eq_some_iff.1 hg).1
    have cell (j : Nat) (v : Value) (hj : (flat2 L)[j]? = some v) : W.cell? ⟨g, j, none⟩ = some v := by
      rw [cell_of_row W g j cur t (0, 0) hg]
      rw [← hcur] at hj
      have hlt2 : j < (cur.toList.take (L.length * 2)).length := (List.getElem?_eq_some_iff.1 hj).1
      rw [List.getElem?_take_of_lt (by simp at hlt2; omega)] at hj
      simpa using hj
    obtain ⟨f0, f1⟩ := flat2_at L i e hi
    exact ⟨g, rfl, hlt, hb, cell _ _ f0, cell _ _ f1⟩

theorem own_set1 {W : World} {base n cap b j : Nat} {t : TypeId} {xs : List Value} {u : Value} (h : W.ownsRow base t 2 (.slice (some ⟨b, 0, none⟩) n cap) n xs) :
    (W.setCell ⟨b, j, none⟩ u).ownsRow base t 2 (.slice (some ⟨b, 0, none⟩) n cap) n (xs.set j u) := by
  rcases h.2 with ⟨h1, h2⟩ | ⟨g, cap', cur, h1, hb, hg, hnc, hcm, hcs, hcur⟩
  · cases h1
  · injection h1 with h1 _ h3
    injection h1 with h1
    injection h1 with h1 _ _
    subst h1
    subst h3
    refine ⟨by rw [List.length_set]; exact h.1, .inr ⟨b, cap, cur.setIfInBounds j u, rfl, hb, Blk.set_ (w := W) (cs := cur) (t := t) hg _ _, hnc, hcm, by simp [hcs], ?_⟩⟩
    rw [← hcur]
    simp [List.take_set]
theorem own_set2 {W : World} {base cap b i : Nat} {t : TypeId} {L : List Ent} {x : Ent} {n : Nat} (hn : L.length = n) (h : W.ownsRow base t 2 (.slice (some ⟨b, 0, none⟩) n cap) n (flat2 L)) (hi : i < n) :
    ((W.setCell ⟨b, i * 2, none⟩ (.int .i64 x.1)).setCell ⟨b, i * 2 + 1, none⟩ (.int .i64 x.2)).ownsRow base t 2 (.slice (some ⟨b, 0, none⟩) n cap) n (flat2 (L.set i x)) := by
  rw [flat2_set, if_pos (by omega)]
  exact own_set1 (own_set1 h)
theorem item_info : ((Try.prog.info? 49).map fun i => (i.zero, i.size, i.bytes)) = some (some (.agg #[.int .i64 0, .int .i64 0]), 2, 16) := by kernel_rfl
theorem int_info : ((Try.prog.info? 3).map fun i => (i.zero, i.size, i.bytes)) = some (some (.int .i64 0), 1, 8) := by kernel_rfl
/-! ### ints -/
def cells1 (e : Int) : List Value := [.int .i64 e]
def flat1 (L : List Int) : List Value := L.map (Value.int .i64)
theorem flat1_snoc (L : List Int) (e : Int) : flat1 (L ++ [e]) = flat1 L ++ cells1 e := by simp [flat1, cells1]
theorem flat1_append (L M : List Int) : flat1 (L ++ M) = flat1 L ++ flat1 M := by simp [flat1]
theorem flat1_length (L : List Int) : (flat1 L).length = L.length := by simp [flat1]
theorem flat1_take (L : List Int) (n : Nat) : (flat1 L).take n = flat1 (L.take n) := by simp [flat1]
theorem flat1_drop (L : List Int) (n : Nat) : (flat1 L).drop n = flat1 (L.drop n) := by simp [flat1]
theorem flat1_at {L : List Int} {i : Nat} {e : Int} (h : L[i]? = some e) : (flat1 L)[i]? = some (.int .i64 e) := by simp [flat1, h]
theorem flat1_set (L : List Int) (i : Nat) (x : Int) : flat1 (L.set i x) = (flat1 L).set i (.int .i64 x) := by simp [flat1, List.map_set]
theorem flat1_one (L : List Int) : ∀ u ∈ flat1 L, u.oneCell' = true := by
  intro u hu
  obtain ⟨e, _, rfl⟩ := List.mem_map.1 hu
  rfl
theorem own_cell1 {W : World} {base n cap : Nat} {A : Option Addr} {t : TypeId} {L : List Int} (hn : n = L.length) (h : W.ownsRow base t 1 (.slice A n cap) n (flat1 L)) {i : Nat} {e : Int} (hi : L[i]? = some e) :
    ∃ b, A = some ⟨b, 0, none⟩ ∧ b < W.heap.size ∧ base ≤ b ∧ W.cell? ⟨b, i, none⟩ = some (.int .i64 e) := by
  subst hn
  have hil : i < L.length := (List.getElem?_eq_some_iff.1 hi).1
  rcases h.2 with ⟨h1, h2⟩ | ⟨g, cap', cur, h1, hb, hg, _, _, _, hcur⟩
  · omega
  · injection h1 with h1 _ _
    subst h1
    have hB : Blk W g t cur := hg
    refine ⟨g, rfl, hB.lt, hb, ?_⟩
    rw [hB.cell]
    have h2 := flat1_at hi
    rw [← hcur, List.getElem?_take] at h2
    split at h2
    · simpa using h2
    · cases h2
theorem own1_set {W : World} {base n cap b j : Nat} {t : TypeId} {xs : List Value} {u : Value} (h : W.ownsRow base t 1 (.slice (some ⟨b, 0, none⟩) n cap) n xs) :
    (W.setCell ⟨b, j, none⟩ u).ownsRow base t 1 (.slice (some ⟨b, 0, none⟩) n cap) n (xs.set j u) := by
  rcases h.2 with ⟨h1, h2⟩ | ⟨g, cap', cur, h1, hb, hg, hnc, hcm, hcs, hcur⟩
  · cases h1
  · injection h1 with h1 _ h3
    injection h1 with h1
    injection h1 with h1 _ _
    subst h1
    subst h3
    refine ⟨by rw [List.length_set]; exact h.1, .inr ⟨b, cap, cur.setIfInBounds j u, rfl, hb, Blk.set_ (w := W) (cs := cur) (t := t) hg _ _, hnc, hcm, by simp [hcs], ?_⟩⟩
    rw [← hcur]
    simp [List.take_set]
/-! ### an exchange -/
def swap {α : Type} (L : List α) (i j : Nat) (x z : α) : List α := (L.set i z).set j x
theorem swap_mid {α : Type} (L1 L2 L3 : List α) (x z : α) : swap (L1 ++ x :: (L2 ++ z :: L3)) L1.length (L1.length + 1 + L2.length) x z = L1 ++ z :: (L2 ++ x :: L3) := by
  unfold swap
  rw [List.set_append_right _ _ (by omega), Nat.sub_self, List.set_cons_zero, List.set_append_right _ _ (by omega)]
  have e : L1.length + 1 + L2.length - L1.length = L2.length + 1 := by omega
  rw [e, List.set_cons_succ, List.set_append_right _ _ (by omega), Nat.sub_self, List.set_cons_zero]
theorem own_swap1 {W : World} {base n cap b i j : Nat} {t : TypeId} {L : List Int} {x z : Int} (h : W.ownsRow base t 1 (.slice (some ⟨b, 0, none⟩) n cap) n (flat1 L)) :
    ((W.setCell ⟨b, i, none⟩ (.int .i64 z)).setCell ⟨b, j, none⟩ (.int .i64 x)).drew.ownsRow base t 1 (.slice (some ⟨b, 0, none⟩) n cap) n (flat1 (swap L i j x z)) := by
  unfold swap
  rw [flat1_set, flat1_set]
  exact ownsRow_only (Only.refl [] _).drew (own1_set (own1_set h)) (fun _ _ => by simp)
theorem own_swap2 {W : World} {base n cap b i j : Nat} {t : TypeId} {L : List Ent} {x z : Ent} (hn : L.length = n) (h : W.ownsRow base t 2 (.slice (some ⟨b, 0, none⟩) n cap) n (flat2 L)) (hi : i < n) (hj : j < n) :
    ((((W.setCell ⟨b, i * 2, none⟩ (.int .i64 z.1)).setCell ⟨b, i * 2 + 1, none⟩ (.int .i64 z.2)).setCell ⟨b, j * 2, none⟩ (.int .i64 x.1)).setCell ⟨b, j * 2 + 1, none⟩ (.int .i64 x.2)).drew.ownsRow base t 2 (.slice (some ⟨b, 0, none⟩) n cap) n (flat2 (swap L i j x z)) := by
  unfold swap
  exact ownsRow_only (Only.refl [] _).drew (own_set2 (by simp [hn]) (own_set2 hn h hi) hj) (fun _ _ => by simp)
theorem own_frozen {W : World} {base n cap b : Nat} {t : TypeId} {size : Nat} {xs : List Value} (h : W.ownsRow base t size (.slice (some ⟨b, 0, none⟩) n cap) n xs) (k : Nat) : W.frozen? ⟨b, k, none⟩ = false := by
  rcases h.2 with ⟨h1, _⟩ | ⟨q, _, cur, h1, _, hq, _⟩
  · cases h1
  · injection h1 with h1; injection h1 with h1; injection h1 with h1; subst h1
    exact Blk.frozen (w := W) (cs := cur) (t := t) hq k
end Go.Proofs.Ytpedlapemgjgaaa
