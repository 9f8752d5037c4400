/- Types made or collected: where they lie, rows of one's own. -/
import Derived.Test.YtjhpckeoackblaaDoorTRefSame
import Derived.Test.YtjhpckeoackblaaDoorTRefRight
import Derived.Maps.AppendAt
namespace Go.Proofs.YtjhpckeoackblaaDoor
open Go.RowKit Go.Kx
open Go.Val (Tt)
set_option maxRecDepth 100000
def hdB (A : Option Addr) (n : Nat) : List Nat := if n = 0 then [] else A.toList.map (·.block)
/-- the blocks where it lies -/
def Tx.bks : Tx → List Nat
  | .mk _ A _ l => hdB A l.length ++ (l.map Tx.bks).flatten
theorem Tx.bks_mk (k : Int) (A : Option Addr) (cap : Nat) (l : List Tx) : (Tx.mk k A cap l).bks = hdB A l.length ++ (l.map Tx.bks).flatten := by rw [Tx.bks]
theorem bks_A {k : Int} {A : Option Addr} {cap : Nat} {l : List Tx} {p : Addr} {i : Nat} {e : Tx} (hi : l[i]? = some e) (h : A = some p) : p.block ∈ (Tx.mk k A cap l).bks := by
  subst h
  have := (List.getElem?_eq_some_iff.1 hi).1
  rw [Tx.bks_mk, hdB, if_neg (by omega)]
  simp
theorem bks_sub {k : Int} {A : Option Addr} {cap : Nat} {l : List Tx} {a : Tx} (h : a ∈ l) {b : Nat} (hb : b ∈ a.bks) : b ∈ (Tx.mk k A cap l).bks := by
  rw [Tx.bks_mk, List.mem_append]
  exact .inr (List.mem_flatten.2 ⟨_, List.mem_map.2 ⟨a, h, rfl⟩, hb⟩)
theorem bks_cases {k : Int} {A : Option Addr} {cap : Nat} {l : List Tx} {b : Nat} (h : b ∈ (Tx.mk k A cap l).bks) : (∃ p e, A = some p ∧ l[0]? = some e ∧ p.block = b) ∨ ∃ a ∈ l, b ∈ a.bks := by
  rw [Tx.bks_mk, List.mem_append] at h
  rcases h with h | h
  · left
    unfold hdB at h
    split at h
    · simp at h
    · rename_i hn
      obtain ⟨p, hp, rfl⟩ := List.mem_map.1 h
      exact ⟨p, l[0]'(by omega), by simpa using hp, List.getElem?_eq_getElem (by omega), rfl⟩
  · right
    obtain ⟨m, hm, hb⟩ := List.mem_flatten.1 h
    obtain ⟨a, ha, rfl⟩ := List.mem_map.1 hm
    exact ⟨a, ha, hb⟩
theorem LiesT.only {T : List Nat} {w w' : World} {e : Tx} (h : LiesT w e) (o : Only T w w') (hT : ∀ b ∈ e.bks, b ∉ T) : LiesT w' e := by
  induction h with
  | mk h1 h5 h6 h7 ih =>
    exact .mk h1 h5 (fun i e he => (h6 i e he).only o (fun p hp => hT _ (bks_A he hp))) (fun e he => ih e he (fun b hb => hT b (bks_sub he hb)))
theorem LiesT.lt {w : World} {e : Tx} (h : LiesT w e) : ∀ b ∈ e.bks, b < w.heap.size := by
  induction h with
  | mk h1 h5 h6 h7 ih =>
    intro b hb
    rcases bks_cases hb with ⟨p, e, hp, he, rfl⟩ | ⟨a, ha, hb⟩
    · obtain ⟨b, o, hA, hlt, -⟩ := h6 0 e he
      rw [hp] at hA
      injection hA with hA
      subst hA
      exact hlt
    · exact ih a ha b hb
theorem RowLT.bks {w : World} {A : Option Addr} {l : List Tx} (h : RowLT w A l) (k : Int) (cap : Nat) (hk : I64 k) : LiesT w (.mk k A cap l) := .mk hk h.len h.row h.sub
def zT : Value := .agg #[.int .i64 0, .slice none 0 0]
theorem infoT : ((Tryd.prog.info? 34).map fun i => (i.zero, i.size, i.bytes)) = some (some zT, 2, 32) := by kernel_rfl
def flat2 (L : List Tx) : List Value := L.flatMap Tx.cs
theorem flat2_app (L M : List Tx) : flat2 (L ++ M) = flat2 L ++ flat2 M := by simp [flat2]
theorem cs_lenT (e : Tx) : e.cs.length = 2 := by cases e; rfl
theorem flat2_len (L : List Tx) : (flat2 L).length = L.length * 2 := by
  induction L with
  | nil => rfl
  | cons a l ih => rw [flat2, List.flatMap_cons, List.length_append, cs_lenT, List.length_cons]; have : (l.flatMap Tx.cs).length = l.length * 2 := ih; omega
theorem flat2_one (L : List Tx) : ∀ u ∈ flat2 L, u.oneCell' = true := by
  intro u hu
  obtain ⟨e, _, hu⟩ := List.mem_flatMap.1 hu
  cases e
  simp [Tx.cs] at hu
  rcases hu with rfl | rfl <;> rfl
theorem flat_atT : ∀ (L : List Tx) (i j : Nat) (e : Tx) (u : Value), L[i]? = some e → e.cs[j]? = some u → (flat2 L)[i * 2 + j]? = some u
  | [], i, j, e, u, h, _ => by simp at h
  | a :: L, 0, j, e, u, h, hu => by
    simp at h
    subst h
    rw [flat2, List.flatMap_cons, Nat.zero_mul, Nat.zero_add, List.getElem?_append_left (List.getElem?_eq_some_iff.1 hu).1]
    exact hu
  | a :: L, i + 1, j, e, u, h, hu => by
    rw [flat2, List.flatMap_cons, List.getElem?_append_right (by rw [cs_lenT]; omega), cs_lenT, show (i + 1) * 2 + j - 2 = i * 2 + j by omega]
    exact flat_atT L i j e u (by simpa using h) hu
theorem own_cellT {W : World} {B n c : Nat} {A : Option Addr} {xs : List Value} (h : W.ownsRow B 34 2 (.slice A n c) n xs) (hn : 0 < n) : ∃ g, A = some ⟨g, 0, none⟩ ∧ g < W.heap.size ∧ ∀ j u, xs[j]? = some u → W.cell? ⟨g, j, none⟩ = some u := by
  rcases h.2 with ⟨h1, h2⟩ | ⟨g, cap', cur, h1, hb, hg, hnc, hcm, hcs, hcur⟩
  · omega
  · injection h1 with hA _ _
    refine ⟨g, hA, Blk.lt (w := W) (t := 34) (cs := cur) hg, fun j u hj => ?_⟩
    rw [cell_of_row W g j cur 34 (0, 0) hg]
    rw [← hcur] at hj
    have hlt2 := (List.getElem?_eq_some_iff.1 hj).1
    rw [List.getElem?_take_of_lt (by simp at hlt2; omega)] at hj
    simpa using hj
theorem row_of_ownT {W : World} {B n c : Nat} {A : Option Addr} {L : List Tx} (h : W.ownsRow B 34 2 (.slice A n c) n (flat2 L)) (hn : L.length = n) : ∀ i e, L[i]? = some e → RowAtT W A i e := by
  intro i e hi
  have hlt := (List.getElem?_eq_some_iff.1 hi).1
  obtain ⟨g, rfl, hg, hc⟩ := own_cellT h (by omega)
  exact ⟨g, 0, rfl, hg, fun j v hv => by rw [Nat.zero_add]; exact hc _ _ (flat_atT L i j e v hi hv)⟩
theorem run_appT {w : World} {B n c z cz : Nat} {A : Option Addr} {L M : List Tx} (h : w.ownsRow B 34 2 (.slice A n c) n (flat2 L)) (hz : ∀ j u, (flat2 M)[j]? = some u → w.cell? ⟨z, j, none⟩ = some u) (hl : n + M.length ≤ 1048576) (hB : B ≤ w.heap.size) :
    ∃ A' c' w1, (Builtin.append_ #[32, 32] 32 #[.slice A n c, .slice (some ⟨z, 0, none⟩) M.length cz]).run Tryd.prog w = .ok (.slice A' (n + M.length) c') w1 ∧ w1.ownsRow B 34 2 (.slice A' (n + M.length) c') (n + M.length) (flat2 (L ++ M)) ∧ Only (A.toList.map (·.block)) w w1 ∧
      (∀ p, A' = some p → (∃ q, A = some q ∧ q.block = p.block) ∨ w.heap.size ≤ p.block) := by
  obtain ⟨i, hi, h0, h1, h2⟩ := info_parts infoT
  obtain ⟨v', w1, hr, ho, hg, hn, hat⟩ := run_append_own_at (P := Tryd.prog) w B 32 32 34 i zT 2 32 Tryd.underlying32 hi h0 h1 h2 rfl (by omega) _ n _ h ⟨z, 0, none⟩ M.length cz (flat2 M) (flat2_len M)
    (by intro j u hj; rw [Addr.add_lit, Nat.zero_add]; exact hz j u hj) (flat2_one M) (by unfold maxLen; omega) (by omega) hB
  rw [← flat2_app] at ho
  obtain ⟨A', c', rfl⟩ : ∃ A' c', v' = .slice A' (n + M.length) c' := by
    rcases ho.2 with ⟨rfl, h2⟩ | ⟨g, cap', cur, rfl, _⟩
    · exact ⟨none, 0, by rw [h2]⟩
    · exact ⟨_, _, rfl⟩
  refine ⟨A', c', w1, hr, ho, (Only.of_grownBy hg).mono (fun x hx => .inl (by
    cases A with
    | none => simp [Value.ownBlock] at hx
    | some p => simp [Value.ownBlock] at hx; simp [hx])), fun p hp => ?_⟩
  subst hp
  rcases hat with h | h
  · left
    cases A with
    | none => simp [Value.ownBlock] at h
    | some q => simp [Value.ownBlock] at h; exact ⟨q, rfl, h.symm⟩
  · right
    simp [Value.ownBlock] at h
    exact Nat.le_of_eq h.symm
/-- types collected in a row of one's own -/
structure ArgsT (B : Nat) (w : World) (A : Option Addr) (c : Nat) (es : List Tx) : Prop where
  own : w.ownsRow B 34 2 (.slice A es.length c) es.length (flat2 es)
  lies : ∀ e' ∈ es, LiesT w e'
  off : ∀ e' ∈ es, ∀ b ∈ e'.bks, ∀ p, A = some p → p.block ≠ b
theorem ArgsT.nil (B : Nat) (w : World) : ArgsT B w none 0 [] := ⟨World.ownsRow_nil _ _ _ _, fun e h => by simp at h, fun e h => by simp at h⟩
theorem ArgsT.keep {B : Nat} {w w' : World} {A : Option Addr} {c : Nat} {es : List Tx} (h : ArgsT B w A c es) (o : Only [] w w') : ArgsT B w' A c es :=
  ⟨ownsRow_only o h.own (fun _ _ => by simp), fun e he => (h.lies e he).keep o, h.off⟩
theorem ArgsT.blk {B : Nat} {w : World} {A : Option Addr} {c : Nat} {es : List Tx} (h : ArgsT B w A c es) : ∀ b ∈ A.toList.map (·.block), B ≤ b ∧ b < w.heap.size := fun b hb => by
  cases A with
  | none => simp at hb
  | some p => simp at hb; subst hb; exact h.own.lt p.block rfl
theorem ArgsT.row {B : Nat} {w : World} {A : Option Addr} {c : Nat} {es : List Tx} (h : ArgsT B w A c es) (hm : es.length ≤ 1048576) : RowLT w A es := ⟨row_of_ownT h.own rfl, h.lies, by omega⟩
theorem ArgsT.step {B B0 : Nat} {w w1 w2 w3 : World} {A A' : Option Addr} {c c' : Nat} {es : List Tx} {y : Tx} {T : List Nat} (h : ArgsT B w A c es) (h0 : B0 ≤ B) (_hB : B ≤ w.heap.size) (o0 : Only [] w w1) (hL : LiesT w1 y) (hy : ∀ b ∈ y.bks, b < B0 ∨ w.heap.size ≤ b)
    (ho : Only (A.toList.map (·.block)) w1 w2) (hown : w2.ownsRow B 34 2 (.slice A' (es.length + 1) c') (es.length + 1) (flat2 (es ++ [y]))) (hA' : ∀ p, A' = some p → (∃ q, A = some q ∧ q.block = p.block) ∨ w1.heap.size ≤ p.block)
    (o3 : Only T w2 w3) (hT : ∀ x ∈ T, x < B ∧ (∀ e ∈ es, x ∉ e.bks) ∧ x ∉ y.bks) : ArgsT B w3 A' c' (es ++ [y]) := by
  have h1 := h.keep o0
  have key : ∀ e' : Tx, LiesT w1 e' → (∀ b ∈ e'.bks, ∀ p, A = some p → p.block ≠ b) → (∀ x ∈ T, x ∉ e'.bks) → LiesT w3 e' ∧ ∀ b ∈ e'.bks, ∀ p, A' = some p → p.block ≠ b := fun e' hL hb hx => by
    refine ⟨(hL.only ho (fun b hbb hm => ?_)).only o3 (fun b hbb hm => hx b hm hbb), fun b hbb p hp he => ?_⟩
    · cases A with
      | none => simp at hm
      | some p => simp at hm; exact hb b hbb p rfl hm.symm
    · rcases hA' p hp with ⟨q, hq, hqp⟩ | h8
      · exact hb b hbb q hq (by omega)
      · have := hL.lt b hbb
        omega
  have hya : ∀ b ∈ y.bks, ∀ p, A = some p → p.block ≠ b := fun b hb p hp he => by
    have := h.blk p.block (by rw [hp]; simp)
    rcases hy b hb with h | h <;> omega
  refine ⟨?_, fun e' he => ?_, fun e' he => ?_⟩
  · rw [List.length_append]
    exact ownsRow_only o3 hown (fun g hg hm => by have := (hown.lt g hg).1; have := (hT g hm).1; omega)
  · rcases List.mem_append.1 he with he | he
    · exact (key e' (h1.lies e' he) (h1.off e' he) (fun x hx => (hT x hx).2.1 e' he)).1
    · simp at he
      subst he
      exact (key _ hL hya (fun x hx => (hT x hx).2.2)).1
  · rcases List.mem_append.1 he with he | he
    · exact (key e' (h1.lies e' he) (h1.off e' he) (fun x hx => (hT x hx).2.1 e' he)).2
    · simp at he
      subst he
      exact (key _ hL hya (fun x hx => (hT x hx).2.2)).2
end Go.Proofs.YtjhpckeoackblaaDoor
