/- A track in memory. -/
import Derived.Test.YtcggeogpanackaaTrk
namespace Go.Proofs.Ytcggeogpanackaa
open Go.RowKit Go.Kx
set_option maxRecDepth 20000

theorem lessr (a b : St) (ha : a.ok) (hb : b.ok) {x : Int} (h : stC a b = x) {y : Bool} (hy : decide (x = -1) = y) (w : World) : Calls Try.prog 27 #[.agg #[.int .i64 a.1.1, .int .i64 a.1.2, .int .i64 a.2], .agg #[.int .i64 b.1.1, .int .i64 b.1.2, .int .i64 b.2]] w fun e w' => e = .returned (.bool y) ∧ Only [] w w' := by
  subst hy
  exact stless_any a b ha hb h w
theorem less_lt (a b : St) (ha : a.ok) (hb : b.ok) {y : Bool} (hy : decide (stC a b < 0) = y) (w : World) : Calls Try.prog 27 #[.agg #[.int .i64 a.1.1, .int .i64 a.1.2, .int .i64 a.2], .agg #[.int .i64 b.1.1, .int .i64 b.1.2, .int .i64 b.2]] w fun e w' => e = .returned (.bool y) ∧ Only [] w w' :=
  lessr a b ha hb rfl (by rw [← hy]; rcases stC_range a b with h | h | h <;> rw [h] <;> rfl) w

theorem _root_.Go.Kx.Blk.facts1 {w : World} {g : Nat} {t : TypeId} {a : Value} (h : Blk w g t #[a]) : w.cell? ⟨g, 0, none⟩ = some a ∧ g < w.heap.size :=
  ⟨by simpa using h.cell 0, h.lt⟩
theorem _root_.Go.Kx.Blk.facts4 {w : World} {g : Nat} {t : TypeId} {a b c d : Value} (h : Blk w g t #[a, b, c, d]) : w.cell? ⟨g, 0, none⟩ = some a ∧ w.cell? ⟨g, 1, none⟩ = some b ∧ w.cell? ⟨g, 2, none⟩ = some c ∧ w.cell? ⟨g, 3, none⟩ = some d ∧ g < w.heap.size :=
  ⟨by simpa using h.cell 0, by simpa using h.cell 1, by simpa using h.cell 2, by simpa using h.cell 3, h.lt⟩
theorem owns_ne {w : World} {base : Nat} {e t : TypeId} {size n : Nat} {v : Value} {xs : List Value} {g : Nat} {cs : Array Value} (h : w.ownsRow base e size v n xs) (hb : Blk w g t cs) (hne : e ≠ t) : v.ownBlock ≠ some g := by
  rcases h.2 with ⟨rfl, _⟩ | ⟨g', cap, cur, rfl, _, hg, _⟩
  · simp [Value.ownBlock]
  · intro k
    simp [Value.ownBlock] at k
    subst k
    unfold Blk at hb
    rw [hg] at hb
    injection hb with hb
    injection hb with _ h2 _
    exact hne h2
def cells4 (e : En) : List Value := [.int .i64 e.1.1.1, .int .i64 e.1.1.2, .int .i64 e.1.2, .int .i64 e.2]
def flat4 (L : List En) : List Value := L.flatMap cells4
theorem flat4_nil : flat4 [] = [] := rfl
theorem flat4_snoc (L : List En) (e : En) : flat4 (L ++ [e]) = flat4 L ++ cells4 e := by simp [flat4]
theorem flat4_append (L M : List En) : flat4 (L ++ M) = flat4 L ++ flat4 M := by simp [flat4]
theorem flat4_length : ∀ L : List En, (flat4 L).length = L.length * 4
  | [] => rfl
  | a :: L => by
    have : flat4 (a :: L) = cells4 a ++ flat4 L := rfl
    rw [this, List.length_append, flat4_length L, List.length_cons]
    simp [cells4]
    omega
theorem flat4_take : ∀ (L : List En) (n : Nat), (flat4 L).take (n * 4) = flat4 (L.take n)
  | [], n => by simp [flat4]
  | a :: L, 0 => by simp [flat4]
  | a :: L, n + 1 => by
    have e : (n + 1) * 4 = n * 4 + 1 + 1 + 1 + 1 := by omega
    show (cells4 a ++ flat4 L).take ((n + 1) * 4) = cells4 a ++ flat4 (L.take n)
    rw [e, ← flat4_take L n]
    rfl
theorem flat4_drop : ∀ (L : List En) (n : Nat), (flat4 L).drop (n * 4) = flat4 (L.drop n)
  | [], n => by simp [flat4]
  | a :: L, 0 => by simp
  | a :: L, n + 1 => by
    have e : (n + 1) * 4 = n * 4 + 1 + 1 + 1 + 1 := by omega
    show (cells4 a ++ flat4 L).drop ((n + 1) * 4) = flat4 (L.drop n)
    rw [e, ← flat4_drop L n]
    rfl
theorem flat4_at : ∀ (L : List En) (i : Nat) (e : En), L[i]? = some e → (flat4 L)[i * 4]? = some (.int .i64 e.1.1.1) ∧ (flat4 L)[i * 4 + 1]? = some (.int .i64 e.1.1.2) ∧ (flat4 L)[i * 4 + 2]? = some (.int .i64 e.1.2) ∧ (flat4 L)[i * 4 + 3]? = some (.int .i64 e.2)
  | [], i, s, h => by simp at h
  | a :: L, 0, s, h => by simp at h; subst h; simp [flat4, cells4]
  | a :: L, i + 1, s, h => by
    have := flat4_at L i s (by simpa using h)
    have e (j : Nat) : (flat4 (a :: L))[(i + 1) * 4 + j]? = (flat4 L)[i * 4 + j]? := by
      have : (i + 1) * 4 + j = i * 4 + j + 1 + 1 + 1 + 1 := by omega
      rw [this]
      rfl
    have e0 := e 0
    simp only [Nat.add_zero] at e0
    rw [e0, e 1, e 2, e 3]
    exact this
theorem wp_append_run {P : Program} {w w1 : World} {o : Oper} {a : Act} {K : Act → World → Prop} {Q : Exit → Act → World → Prop} {v xv r : Value} {t1 t2 ty : TypeId}
    (hrun : (Builtin.append_ #[t1, t2] ty #[v, xv]).run P w = .ok r w1) (s x : Operand)
    (hop : o.op = .call { callee := .builtin .append, args := #[s, x], argTypes := #[t1, t2] }) (hty : o.type = ty) (hs : a.eval s = v) (hx : a.eval x = xv)
    (hK : K (a.put o.dst r) w1) : o.wp P a w K Q := by
  subst hty
  unfold Oper.wp execOp
  simp only [hop, resolve, invoke, builtin, Sem.run_bind, Sem.run_pure, Result.andThen_ok, List.map_toArray, List.map_cons, List.map_nil, hs, hx, hrun]
  exact hK
theorem en_info : ((Try.prog.info? 71).map fun i => (i.zero, i.size, i.bytes)) = some (some (.agg #[.int .i64 0, .int .i64 0, .int .i64 0, .int .i64 0]), 4, 32) := by kernel_rfl
/-- append(v, x) of one element of four cells, v nil or the call's own -/
theorem run_append4 {P : Program} {t e : TypeId} (te ty : TypeId) {z : Value} {bytes : Nat} (ht : P.underlying t = some (.slice e)) (hi : (P.info? e).map (fun i => (i.zero, i.size, i.bytes)) = some (some z, 4, bytes)) (hz : z.cells.size = 4)
    {w : World} {base : Nat} {v : Value} {n : Nat} {xs : List Value} (hown : w.ownsRow base e 4 v n xs) (x : En) (hbase : base ≤ w.heap.size) (h63 : n + 1 ≤ maxLen) (hb : (n + 1) * bytes ≤ 140737488355328) :
    ∃ g cap w1, (Builtin.append_ #[t, t] ty #[v, .slice (some ⟨w.heap.size, 0, none⟩) 1 1]).run P (w.alloc (.cells #[.int .i64 x.1.1.1, .int .i64 x.1.1.2, .int .i64 x.1.2, .int .i64 x.2] te)) = .ok (.slice (some ⟨g, 0, none⟩) (n + 1) cap) w1 ∧
      w1.ownsRow base e 4 (.slice (some ⟨g, 0, none⟩) (n + 1) cap) (n + 1) (xs ++ cells4 x) ∧ Only v.ownBlock.toList w w1 ∧ (v.ownBlock = some g ∨ w.heap.size ≤ g) := by
  obtain ⟨i, hi, h0, h1, h2⟩ := info_parts hi
  obtain ⟨v', w1, hr, ho, hg, hn, hat⟩ := run_append_own_at (P := P) (w.alloc (.cells #[.int .i64 x.1.1.1, .int .i64 x.1.1.2, .int .i64 x.1.2, .int .i64 x.2] te)) base t ty e i z 4 bytes ht hi h0 h1 h2 hz (by omega) v n xs (hown.alloc _) ⟨w.heap.size, 0, none⟩ 1 1 (cells4 x) rfl
    (by intro j u hj
        match j, hj with
        | 0, hj => simp [cells4] at hj; subst hj; simp [Addr.add]
        | 1, hj => simp [cells4] at hj; subst hj; simp [Addr.add]
        | 2, hj => simp [cells4] at hj; subst hj; simp [Addr.add]
        | 3, hj => simp [cells4] at hj; subst hj; simp [Addr.add])
    (by simp [cells4]; exact ⟨rfl, rfl, rfl, rfl⟩) h63 hb (by simp; omega)
  rcases ho.2 with ⟨rfl, hn0⟩ | ⟨g, cap, cur, rfl, hrest⟩
  · omega
  · refine ⟨g, cap, w1, hr, ho, ?_, ?_⟩
    · have := Only.of_grownBy hg
      exact ((Only.refl v.ownBlock.toList w).alloc _).trans this (fun _ h => .inl h)
    · rcases hat with h | h
      · left; rw [← h]; rfl
      · right; simp [Value.ownBlock] at h; omega
/-- the cells of an own row of entries -/
theorem own_cell {W : World} {base n cap : Nat} {A : Option Addr} {t : TypeId} {L : List En} (hn : n = L.length) (h : W.ownsRow base t 4 (.slice A n cap) n (flat4 L)) {i : Nat} {e : En} (hi : L[i]? = some e) :
    ∃ b, A = some ⟨b, 0, none⟩ ∧ b < W.heap.size ∧ base ≤ b ∧ W.cell? ⟨b, i * 4, none⟩ = some (.int .i64 e.1.1.1) ∧ W.cell? ⟨b, i * 4 + 1, none⟩ = some (.int .i64 e.1.1.2) ∧ W.cell? ⟨b, i * 4 + 2, none⟩ = some (.int .i64 e.1.2) ∧ W.cell? ⟨b, i * 4 + 3, none⟩ = some (.int .i64 e.2) := by
  subst hn
  have hil : i < L.length := (List.getElem?_eq_some_iff.1 hi).1
  rcases h.2 with ⟨h1, h2⟩ | ⟨g, cap', cur, h1, hb, hg, _, _, _, hcur⟩
  · omega
  · injection h1 with hA _ _
    subst hA
    have hlt : g < W.heap.size := (Array.getElem?_eq_some_iff.1 hg).1
    have cell (j : Nat) (v : Value) (hj : (flat4 L)[j]? = some v) : W.cell? ⟨g, j, none⟩ = some v := by
      rw [cell_of_row W g j cur t (0, 0) hg]
      rw [← hcur] at hj
      have hlt2 : j < (cur.toList.take (L.length * 4)).length := (List.getElem?_eq_some_iff.1 hj).1
      rw [List.getElem?_take_of_lt (by simp at hlt2; omega)] at hj
      simpa using hj
    obtain ⟨f0, f1, f2, f3⟩ := flat4_at L i e hi
    exact ⟨g, rfl, hlt, hb, cell _ _ f0, cell _ _ f1, cell _ _ f2, cell _ _ f3⟩
/-- a track -/
structure TB (B : Nat) (w : World) (g : Nat) (room : Int) (L : List En) (A : Option Addr) (c : Nat) : Prop where
  blk : Blk w g 66 #[.int .i64 room, .slice A L.length c]
  own : w.ownsRow B 71 4 (.slice A L.length c) L.length (flat4 L)
  base : B ≤ g
theorem TB.keep {B : Nat} {w w' : World} {g : Nat} {room : Int} {L : List En} {A : Option Addr} {c : Nat} (h : TB B w g room L A c) (o : Only [] w w') : TB B w' g room L A c :=
  ⟨o.blk h.blk (by simp), ownsRow_only o h.own (fun _ _ => by simp), h.base⟩
theorem TB.lt {B : Nat} {w : World} {g : Nat} {room : Int} {L : List En} {A : Option Addr} {c : Nat} (h : TB B w g room L A c) : ∀ p, A = some p → p.block < w.heap.size ∧ B ≤ p.block ∧ p.block ≠ g := fun p e => by
  have h1 := h.own.lt p.block (by rw [e]; rfl)
  exact ⟨h1.2, h1.1, fun k => owns_ne h.own h.blk (by decide) (by rw [e, ← k]; rfl)⟩
theorem TB.keeps {B : Nat} {S : List Nat} {w w' : World} {g : Nat} {room : Int} {L : List En} {A : Option Addr} {c : Nat} (h : TB B w g room L A c) (o : Only S w w') (hg : g ∉ S) (hA : ∀ p, A = some p → p.block ∉ S) : TB B w' g room L A c :=
  ⟨o.blk h.blk hg, ownsRow_only o h.own (fun b hb => by cases A with | none => simp [Value.ownBlock] at hb | some p => simp [Value.ownBlock] at hb; subst hb; exact hA p rfl), h.base⟩

end Go.Proofs.Ytcggeogpanackaa
