/- The expressions of a program, and where they stand; rows of spots, with copies. -/
import Derived.Test.YtfnacnlaphpflaaDoorSm24
import Derived.Test.YtfnacnlaphpflaaDoorCopy
import Derived.Maps.AppendAt
namespace Go.Proofs.YtfnacnlaphpflaaDoor
open Go.RowKit Go.Kx
set_option maxRecDepth 100000
section
variable {α : Type} (cs : α → List Value) {K : Nat}
def flatG (L : List α) : List Value := L.flatMap cs
theorem flatG_app (L M : List α) : flatG cs (L ++ M) = flatG cs L ++ flatG cs M := by simp [flatG]
theorem flatG_len (hcs : ∀ a, (cs a).length = K) (L : List α) : (flatG cs L).length = L.length * K := by
  induction L with
  | nil => simp [flatG]
  | cons a l ih =>
    have : (l.flatMap cs).length = l.length * K := ih
    rw [flatG, List.flatMap_cons, List.length_append, hcs, List.length_cons, this, Nat.add_mul, Nat.one_mul, Nat.add_comm]
theorem flatG_one (h1 : ∀ a, ∀ u ∈ cs a, u.oneCell' = true) (L : List α) : ∀ u ∈ flatG cs L, u.oneCell' = true := by
  intro u hu
  obtain ⟨e, _, hu⟩ := List.mem_flatMap.1 hu
  exact h1 e u hu
theorem flatG_at (hcs : ∀ a, (cs a).length = K) : ∀ (L : List α) (i j : Nat) (e : α) (u : Value), L[i]? = some e → (cs e)[j]? = some u → (flatG cs L)[i * K + j]? = some u
  | [], i, j, e, u, h, _ => by simp at h
  | a :: L, 0, j, e, u, h, hu => by
    simp at h
    subst h
    rw [flatG, List.flatMap_cons, Nat.zero_mul, Nat.zero_add, List.getElem?_append_left (List.getElem?_eq_some_iff.1 hu).1]
    exact hu
  | a :: L, i + 1, j, e, u, h, hu => by
    have e1 : (i + 1) * K = i * K + K := by rw [Nat.add_mul, Nat.one_mul]
    rw [flatG, List.flatMap_cons, List.getElem?_append_right (by rw [hcs]; omega), hcs, show (i + 1) * K + j - K = i * K + j by omega]
    exact flatG_at hcs L i j e u (by simpa using h) hu
theorem own_cellG {TE : TypeId} {W : World} {B n c : Nat} {A : Option Addr} {xs : List Value} (h : W.ownsRow B TE K (.slice A n c) n xs) (hn : 0 < n) : ∃ g, A = some ⟨g, 0, none⟩ ∧ g < W.heap.size ∧ ∀ j u, xs[j]? = some u → W.cell? ⟨g, j, none⟩ = some u := by
  rcases h.2 with ⟨h1, h2⟩ | ⟨g, cap', cur, h1, hb, hg, hnc, hcm, hcs, hcur⟩
  · omega
  · injection h1 with hA _ _
    refine ⟨g, hA, Blk.lt (w := W) (t := TE) (cs := cur) hg, fun j u hj => ?_⟩
    rw [cell_of_row W g j cur TE (0, 0) hg]
    rw [← hcur] at hj
    have hlt2 := (List.getElem?_eq_some_iff.1 hj).1
    rw [List.getElem?_take_of_lt (by simp at hlt2; omega)] at hj
    simpa using hj
theorem row_of_ownG {TE : TypeId} (hcs : ∀ a, (cs a).length = K) {W : World} {B n c : Nat} {A : Option Addr} {L : List α} (h : W.ownsRow B TE K (.slice A n c) n (flatG cs L)) (hn : L.length = n) :
    ∀ i e, L[i]? = some e → ∃ b o, A = some ⟨b, o, none⟩ ∧ b < W.heap.size ∧ ∀ j v, (cs e)[j]? = some v → W.cell? ⟨b, o + i * K + j, none⟩ = some v := by
  intro i e hi
  have hlt := (List.getElem?_eq_some_iff.1 hi).1
  obtain ⟨g, rfl, hg, hc⟩ := own_cellG h (by omega)
  exact ⟨g, 0, rfl, hg, fun j v hv => by rw [Nat.zero_add]; exact hc _ _ (flatG_at cs hcs L i j e v hi hv)⟩
theorem run_appG {TS TE : TypeId} {zv : Value} {bytes : Nat} (hcs : ∀ a, (cs a).length = K) (h1 : ∀ a, ∀ u ∈ cs a, u.oneCell' = true) (hT : Tryd.prog.underlying TS = some (.slice TE)) (hinfo : ((Tryd.prog.info? TE).map fun i => (i.zero, i.size, i.bytes)) = some (some zv, K, bytes)) (hzs : zv.cells.size = K) (h0 : 0 < K) (hb64 : bytes ≤ 128)
    {w : World} {B n c z oz m cz : Nat} {A : Option Addr} {L M : List α} (h : w.ownsRow B TE K (.slice A n c) n (flatG cs L)) (hm : M.length = m) (hz : ∀ j u, (flatG cs M)[j]? = some u → w.cell? ⟨z, oz + j, none⟩ = some u) (hl : n + m ≤ 1048576) (hB : B ≤ w.heap.size) :
    ∃ A' c' w1, (Builtin.append_ #[TS, TS] TS #[.slice A n c, .slice (some ⟨z, oz, none⟩) m cz]).run Tryd.prog w = .ok (.slice A' (n + m) c') w1 ∧ w1.ownsRow B TE K (.slice A' (n + m) c') (n + m) (flatG cs (L ++ M)) ∧ Only (A.toList.map (·.block)) w w1 ∧
      (∀ p, A' = some p → (∃ q, A = some q ∧ q.block = p.block) ∨ w.heap.size ≤ p.block) := by
  subst hm
  obtain ⟨i, hi, h0', h1', h2⟩ := info_parts hinfo
  obtain ⟨v', w1, hr, ho, hg, hn, hat⟩ := run_append_own_at (P := Tryd.prog) w B TS TS TE i zv K bytes hT hi h0' h1' h2 hzs h0 _ n _ h ⟨z, oz, none⟩ M.length cz (flatG cs M) (flatG_len cs hcs M)
    (by intro j u hj; rw [Addr.add_lit]; exact hz j u hj) (flatG_one cs h1 M) (by unfold maxLen; omega) (Nat.le_trans (Nat.mul_le_mul hl hb64) (by omega)) hB
  rw [← flatG_app] at ho
  obtain ⟨A', c', rfl⟩ : ∃ A' c', v' = .slice A' (n + M.length) c' := by
    rcases ho.2 with ⟨rfl, h2⟩ | ⟨g, cap', cur, rfl, _⟩
    · exact ⟨none, 0, by rw [h2]⟩
    · exact ⟨_, _, rfl⟩
  refine ⟨A', c', w1, hr, ho, (Only.of_grownBy hg).mono (fun x hx => .inl (by
    cases A with
    | none => simp [Value.ownBlock] at hx
    | some p => simp [Value.ownBlock] at hx; simp [hx])), fun p hp => ?_⟩
  subst hp
  rcases hat with h | h
  · left
    cases A with
    | none => simp [Value.ownBlock] at h
    | some q => simp [Value.ownBlock] at h; exact ⟨q, rfl, h.symm⟩
  · right
    simp [Value.ownBlock] at h
    exact Nat.le_of_eq h.symm
end
/-- an expression at a place -/
structure Sp where
  m : Nat
  p : Nat
  i : Nat
  e : Ex
/-- as the program keeps it -/
def Sp.cs : Sp → List Value
  | ⟨m, p, i, .mk o n s u A c l⟩ => [.int .i64 m, .int .i64 p, .int .i64 i, .int .i64 0, .int .i64 o, .int .i64 n, .string s, .string u, .slice A l.length c]
/-- as the document keeps it -/
def Sp.cd : Sp → List Value
  | ⟨m, p, i, .mk o n s u A c l⟩ => [.int .i64 m, .int .i64 p, .int .i64 i, .int .i64 o, .int .i64 n, .string s, .string u, .slice A l.length c]
def Sp.key (s : Sp) : Nat × Nat × Nat × Tr := (s.m, s.p, s.i, s.e.tr)
theorem spcs_len (s : Sp) : s.cs.length = 9 := by obtain ⟨m, p, i, e⟩ := s; cases e; rfl
theorem spcd_len (s : Sp) : s.cd.length = 8 := by obtain ⟨m, p, i, e⟩ := s; cases e; rfl
theorem spcs_one (s : Sp) : ∀ u ∈ s.cs, u.oneCell' = true := by
  intro u hu
  obtain ⟨m, p, i, e⟩ := s
  cases e
  simp [Sp.cs] at hu
  rcases hu with rfl | rfl | rfl | rfl | rfl | rfl | rfl | rfl | rfl <;> rfl
theorem spcd_one (s : Sp) : ∀ u ∈ s.cd, u.oneCell' = true := by
  intro u hu
  obtain ⟨m, p, i, e⟩ := s
  cases e
  simp [Sp.cd] at hu
  rcases hu with rfl | rfl | rfl | rfl | rfl | rfl | rfl | rfl <;> rfl
theorem info87 : ((Tryd.prog.info? 87).map fun i => (i.zero, i.size, i.bytes)) = some (some (.agg #[.int .i64 0, .int .i64 0, .int .i64 0, .int .i64 0, .int .i64 0, .int .i64 0, .string ⟨#[]⟩, .string ⟨#[]⟩, .slice none 0 0]), 9, 104) := by kernel_rfl
theorem info54 : ((Tryd.prog.info? 54).map fun i => (i.zero, i.size, i.bytes)) = some (some (.agg #[.int .i64 0, .int .i64 0, .int .i64 0, .int .i64 0, .int .i64 0, .string ⟨#[]⟩, .string ⟨#[]⟩, .slice none 0 0]), 8, 96) := by kernel_rfl
/-- the expressions of a list's entries -/
def spL {α : Type} (f : α → Ex) (m p : Nat) (l : List α) : List Sp := l.mapIdx fun i a => ⟨m, p, i, f a⟩
theorem spL_take {α : Type} {f : α → Ex} {m p : Nat} {l : List α} {k : Nat} {a : α} (h : l[k]? = some a) : spL f m p (l.take (k + 1)) = spL f m p (l.take k) ++ [⟨m, p, k, f a⟩] := by
  have hk := (List.getElem?_eq_some_iff.1 h).1
  have e : l.take (k + 1) = l.take k ++ [a] := by rw [List.take_add_one, h]; rfl
  rw [spL, e, List.mapIdx_append]
  simp [spL, Nat.min_eq_left (Nat.le_of_lt hk)]
theorem spL_len {α : Type} (f : α → Ex) (m p : Nat) (l : List α) : (spL f m p l).length = l.length := by simp [spL]
/-- the expressions of a list's entries' rows -/
def ifL (m : Nat) (l : List Em) : List Sp := (l.mapIdx fun i x => x.i_.map fun e => (⟨m, 3, i, e⟩ : Sp)).flatten
theorem ifL_take {m : Nat} {l : List Em} {k : Nat} {x : Em} (h : l[k]? = some x) : ifL m (l.take (k + 1)) = ifL m (l.take k) ++ x.i_.map fun e => (⟨m, 3, k, e⟩ : Sp) := by
  have hk := (List.getElem?_eq_some_iff.1 h).1
  have e : l.take (k + 1) = l.take k ++ [x] := by rw [List.take_add_one, h]; rfl
  rw [ifL, e, List.mapIdx_append, List.flatten_append]
  simp [ifL, Nat.min_eq_left (Nat.le_of_lt hk)]
theorem mapIdx_len {α β γ : Type} (g : Nat → α → List β) (f : α → List γ) (h : ∀ i a, (g i a).length = (f a).length) : ∀ l : List α, ((l.mapIdx g).flatten).length = (l.flatMap f).length := by
  intro l
  induction l generalizing g with
  | nil => rfl
  | cons a l ih =>
    rw [List.mapIdx_cons, List.flatten_cons, List.flatMap_cons, List.length_append, List.length_append, h, ih (fun i => g (i + 1)) (fun i a => h (i + 1) a)]
theorem ifL_len (m : Nat) (l : List Em) : (ifL m l).length = (l.flatMap Em.i_).length := mapIdx_len _ _ (fun _ _ => by simp) l
def mdL (m : Nat) (x : Md) : List Sp := spL Se.e_ m 0 x.vars_ ++ spL id m 1 x.ta_ ++ spL Em.e_ m 2 x.emits_ ++ ifL m x.emits_ ++ spL Se.e_ m 4 x.int_ ++ spL Se.e_ m 5 x.ext_ ++ spL Se.e_ m 6 x.own_ ++ spL Ru.e_ m 7 x.rules_
theorem emes_len : ∀ l : List Em, (l.flatMap Em.es).length = l.length + (l.flatMap Em.i_).length := by
  intro l
  induction l with
  | nil => rfl
  | cons a l ih =>
    rw [List.flatMap_cons, List.flatMap_cons, List.length_append, List.length_append, ih, List.length_cons, Em.es, List.length_cons]
    omega
theorem mdL_len (m : Nat) (x : Md) : (mdL m x).length = x.es.length := by
  simp only [mdL, Md.es, List.length_append, spL_len, ifL_len, List.length_map, emes_len]
  omega
/-- all expressions of a program, where they stand -/
def allL (ms : List Md) : List Sp := (ms.mapIdx mdL).flatten
theorem allL_len (ms : List Md) : (allL ms).length = (ms.flatMap Md.es).length := mapIdx_len _ _ (fun i a => mdL_len i a) ms
theorem allL_take {ms : List Md} {k : Nat} {x : Md} (h : ms[k]? = some x) : allL (ms.take (k + 1)) = allL (ms.take k) ++ mdL k x := by
  have hk := (List.getElem?_eq_some_iff.1 h).1
  have e : ms.take (k + 1) = ms.take k ++ [x] := by rw [List.take_add_one, h]; rfl
  rw [allL, e, List.mapIdx_append, List.flatten_append]
  simp [allL, Nat.min_eq_left (Nat.le_of_lt hk)]
/-- a row of spots of one's own: L as it ought to be, L' as it is, with copies -/
structure SpR (B : Nat) (w : World) (A : Option Addr) (c : Nat) (L L' : List Sp) : Prop where
  own : w.ownsRow B 87 9 (.slice A L'.length c) L'.length (flatG Sp.cs L')
  key : L'.map Sp.key = L.map Sp.key
  lies : ∀ s ∈ L', Lies w s.e
  off : ∀ s ∈ L', ∀ b ∈ s.e.blks, B ≤ b ∧ b < w.heap.size
  far : ∀ s ∈ L', ∀ p, A = some p → p.block ∉ s.e.blks
theorem SpR.len {B : Nat} {w : World} {A : Option Addr} {c : Nat} {L L' : List Sp} (h : SpR B w A c L L') : L'.length = L.length := by
  have := congrArg List.length h.key
  simpa using this
theorem SpR.low {B : Nat} {w : World} {A : Option Addr} {c : Nat} {L L' : List Sp} (h : SpR B w A c L L') : ∀ p, A = some p → B ≤ p.block ∧ p.block < w.heap.size := fun p hp => by
  subst hp
  exact h.own.lt p.block rfl
theorem SpR.keep {B : Nat} {w w' : World} {A : Option Addr} {c : Nat} {L L' : List Sp} (h : SpR B w A c L L') (o : Only [] w w') : SpR B w' A c L L' :=
  ⟨ownsRow_only o h.own (fun _ _ => by simp), h.key, fun s hs => (h.lies s hs).keep o, fun s hs b hb => ⟨(h.off s hs b hb).1, Nat.lt_of_lt_of_le (h.off s hs b hb).2 o.size⟩, h.far⟩
theorem SpR.nil (B : Nat) (w : World) : SpR B w none 0 [] [] := ⟨World.ownsRow_nil _ _ _ _, rfl, by simp, by simp, by simp⟩
/-- of what there was, the row alone has turned; it may have moved to new memory -/
structure GrowR (w : World) (A : Option Addr) (w' : World) (A' : Option Addr) : Prop where
  only : Only (A.toList.map (·.block)) w w'
  at_ : ∀ p, A' = some p → (∃ q, A = some q ∧ q.block = p.block) ∨ w.heap.size ≤ p.block
theorem GrowR.refl (w : World) (A : Option Addr) : GrowR w A w A := ⟨Only.refl _ _, fun p hp => .inl ⟨p, hp, rfl⟩⟩
theorem GrowR.trans {w w1 w2 : World} {A A1 A2 : Option Addr} (h : GrowR w A w1 A1) (k : GrowR w1 A1 w2 A2) : GrowR w A w2 A2 := by
  refine ⟨h.only.trans k.only (fun x hx => ?_), fun p hp => ?_⟩
  · cases A1 with
    | none => simp at hx
    | some q =>
      simp at hx
      subst hx
      rcases h.at_ q rfl with ⟨r, rfl, hr⟩ | hr
      · left; simp [hr]
      · exact .inr hr
  · rcases k.at_ p hp with ⟨q, hq, hqp⟩ | hq
    · rcases h.at_ q hq with ⟨r, hr, hrq⟩ | hr
      · exact .inl ⟨r, hr, hrq.trans hqp⟩
      · exact .inr (by omega)
    · exact .inr (Nat.le_trans h.only.size hq)
theorem GrowR.still {w w1 : World} {A : Option Addr} (o : Only [] w w1) : GrowR w A w1 A := ⟨o.mono (by simp), fun p hp => .inl ⟨p, hp, rfl⟩⟩
theorem GrowR.base {W0 w w' : World} {A A' : Option Addr} (h : GrowR w A w' A') (o : Only [] W0 w) (hA : ∀ p, A = some p → W0.heap.size ≤ p.block) : Only [] W0 w' := o.trans h.only (fun x hx => by
  cases A with
  | none => simp at hx
  | some q => simp at hx; subst hx; exact .inr (hA q rfl))
theorem GrowR.blk {w w' : World} {A A' : Option Addr} (h : GrowR w A w' A') {g : Nat} {t : TypeId} {cs : Array Value} (hb : Blk w g t cs) (hg : ∀ p, A = some p → p.block ≠ g) : Blk w' g t cs := h.only.blk hb (by
  cases A with
  | none => simp
  | some q => simp; exact fun e => hg q rfl e.symm)
theorem SpR.app {B b0 z n m p i : Nat} {w w1 : World} {A : Option Addr} {c : Nat} {L L' : List Sp} {e e' : Ex} (h : SpR B w A c L L') (hn : L'.length = n) (o : Only [] w w1) (hB : B ≤ w.heap.size) (hc : Cp b0 w1 e e') (hb0 : w.heap.size ≤ b0)
    (hz : ∀ j u, (Sp.cs ⟨m, p, i, e'⟩)[j]? = some u → w1.cell? ⟨z, j, none⟩ = some u) (hl : n + 1 ≤ 1048576) :
    ∃ A' c' w2, (Builtin.append_ #[83, 83] 83 #[.slice A n c, .slice (some ⟨z, 0, none⟩) 1 1]).run Tryd.prog w1 = .ok (.slice A' (n + 1) c') w2 ∧ SpR B w2 A' c' (L ++ [⟨m, p, i, e⟩]) (L' ++ [⟨m, p, i, e'⟩]) ∧ GrowR w A w2 A' := by
  subst hn
  have h1 := h.keep o
  obtain ⟨A', c', w2, hr, ho, oo, hat⟩ := run_appG Sp.cs (K := 9) (TS := 83) (TE := 87) spcs_len spcs_one Tryd.underlying83 info87 rfl (by omega) (by omega) (w := w1) (L := L') (M := [⟨m, p, i, e'⟩]) (m := 1) (z := z) (oz := 0) (cz := 1) h1.own rfl (fun j u hj => by rw [Nat.zero_add]; exact hz j u (by simpa [flatG] using hj)) hl (Nat.le_trans hB o.size)
  have gr : GrowR w1 A w2 A' := ⟨oo, hat⟩
  have hA0 : ∀ q, A = some q → q.block < w.heap.size := fun q hq => (h.low q hq).2
  have hnew : ∀ b ∈ e'.blks, b ∉ A.toList.map (·.block) := fun b hb hm => by
    cases A with
    | none => simp at hm
    | some q => simp at hm; have := hA0 q rfl; have := hc.off b hb; omega
  have hold : ∀ s ∈ L', ∀ b ∈ s.e.blks, b ∉ A.toList.map (·.block) := fun s hs b hb hm => by
    cases A with
    | none => simp at hm
    | some q => simp at hm; subst hm; exact h.far s hs q rfl hb
  refine ⟨A', c', w2, hr, ⟨by simpa using ho, by rw [List.map_append, List.map_append, h.key]; simp [Sp.key, hc.tr], fun s hs => ?_, fun s hs b hb => ?_, fun s hs q hq hb => ?_⟩, (GrowR.still o).trans gr⟩
  · rcases List.mem_append.1 hs with hs | hs
    · exact (h1.lies s hs).only oo (hold s hs)
    · simp at hs; subst hs; exact hc.lies.only oo hnew
  · rcases List.mem_append.1 hs with hs | hs
    · exact ⟨(h1.off s hs b hb).1, Nat.lt_of_lt_of_le (h1.off s hs b hb).2 oo.size⟩
    · simp at hs; subst hs; exact ⟨Nat.le_trans hB (Nat.le_trans hb0 (hc.off b hb)), Nat.lt_of_lt_of_le (hc.top b hb) oo.size⟩
  · rcases List.mem_append.1 hs with hs | hs
    · rcases hat q hq with ⟨r, hr', hrq⟩ | hge
      · exact hold s hs q.block hb (by rw [hr']; simp [hrq])
      · have := (h1.off s hs _ hb).2; omega
    · simp at hs; subst hs
      rcases hat q hq with ⟨r, hr', hrq⟩ | hge
      · exact hnew q.block hb (by rw [hr']; simp [hrq])
      · have := hc.top _ hb; omega
/-- the row, so long -/
def SpSt (B : Nat) (W : World) (A : Option Addr) (c j : Nat) (L : List Sp) : Prop := ∃ L2, List.length L2 = j ∧ SpR B W A c L L2
theorem SpSt.len {B : Nat} {w : World} {A : Option Addr} {c j : Nat} {L : List Sp} (h : SpSt B w A c j L) : j = L.length := by
  obtain ⟨L2, h1, h2⟩ := h
  rw [← h1, h2.len]
theorem SpSt.low {B : Nat} {w : World} {A : Option Addr} {c j : Nat} {L : List Sp} (h : SpSt B w A c j L) : ∀ p, A = some p → B ≤ p.block ∧ p.block < w.heap.size := by
  obtain ⟨L2, _, h2⟩ := h
  exact h2.low
theorem SpSt.keep {B : Nat} {w w' : World} {A : Option Addr} {c j : Nat} {L : List Sp} (h : SpSt B w A c j L) (o : Only [] w w') : SpSt B w' A c j L := by
  obtain ⟨L2, h1, h2⟩ := h
  exact ⟨L2, h1, h2.keep o⟩
theorem SpSt.only {T : List Nat} {B : Nat} {w w' : World} {A : Option Addr} {c j : Nat} {L : List Sp} (h : SpSt B w A c j L) (o : Only T w w') (hT : ∀ x ∈ T, x < B) : SpSt B w' A c j L := by
  obtain ⟨L2, h1, h2⟩ := h
  refine ⟨L2, h1, ⟨ownsRow_only o h2.own (fun g hg hm => ?_), h2.key, fun s hs => (h2.lies s hs).only o (fun b hb hm => ?_), fun s hs b hb => ⟨(h2.off s hs b hb).1, Nat.lt_of_lt_of_le (h2.off s hs b hb).2 o.size⟩, h2.far⟩⟩
  · have := (h2.own.lt g hg).1; have := hT g hm; omega
  · have := (h2.off s hs b hb).1; have := hT b hm; omega
theorem SpSt.to {B : Nat} {w : World} {A : Option Addr} {c j : Nat} {L M : List Sp} (h : SpSt B w A c j L) (e : L = M) : SpSt B w A c j M := e ▸ h
theorem SpSt.nil (B : Nat) (w : World) : SpSt B w none 0 0 [] := ⟨[], rfl, SpR.nil B w⟩
theorem SpSt.app {B b0 z j m p i : Nat} {w w1 : World} {A : Option Addr} {c : Nat} {L : List Sp} {e e' : Ex} (h : SpSt B w A c j L) (o : Only [] w w1) (hB : B ≤ w.heap.size) (hc : Cp b0 w1 e e') (hb0 : w.heap.size ≤ b0)
    (hz : ∀ j u, (Sp.cs ⟨m, p, i, e'⟩)[j]? = some u → w1.cell? ⟨z, j, none⟩ = some u) (hl : j + 1 ≤ 1048576) :
    ∃ A' c' w2, (Builtin.append_ #[83, 83] 83 #[.slice A j c, .slice (some ⟨z, 0, none⟩) 1 1]).run Tryd.prog w1 = .ok (.slice A' (j + 1) c') w2 ∧ SpSt B w2 A' c' (j + 1) (L ++ [⟨m, p, i, e⟩]) ∧ GrowR w A w2 A' := by
  obtain ⟨L2, h1, h2⟩ := h
  obtain ⟨A', c', w2, hr, hs, hg⟩ := h2.app h1 o hB hc hb0 hz hl
  exact ⟨A', c', w2, hr, ⟨_, by rw [List.length_append, h1]; rfl, hs⟩, hg⟩
/-- what comes out: the row of these spots -/
def SpOut (B : Nat) (w : World) (A : Option Addr) (L : List Sp) (r : Ending) (w' : World) : Prop := ∃ A' c' j, r = .returned (.slice A' j c') ∧ SpSt B w' A' c' j L ∧ GrowR w A w' A'
theorem ifL_le {m : Nat} {l : List Em} {k : Nat} {x : Em} (h : l[k]? = some x) : (ifL m (l.take k)).length + x.i_.length ≤ (ifL m l).length := by
  have h1 := congrArg List.length (ifL_take (m := m) h)
  rw [List.length_append, List.length_map] at h1
  rw [← h1, ifL_len, ifL_len]
  conv => rhs; rw [← List.take_append_drop (k + 1) l]
  rw [List.flatMap_append, List.length_append]
  omega
theorem allL_le {ms : List Md} {k : Nat} {x : Md} (h : ms[k]? = some x) : (allL (ms.take k)).length + (mdL k x).length ≤ (allL ms).length := by
  have h1 := congrArg List.length (allL_take h)
  rw [List.length_append] at h1
  rw [← h1, allL_len, allL_len]
  conv => rhs; rw [← List.take_append_drop (k + 1) ms]
  rw [List.flatMap_append, List.length_append]
  omega
/-- a row of the document's -/
structure AtR (B : Nat) (w : World) (A : Option Addr) (c : Nat) (L : List Sp) : Prop where
  own : w.ownsRow B 54 8 (.slice A L.length c) L.length (flatG Sp.cd L)
theorem AtR.keep {B : Nat} {w w' : World} {A : Option Addr} {c : Nat} {L : List Sp} (h : AtR B w A c L) (o : Only [] w w') : AtR B w' A c L := ⟨ownsRow_only o h.own (fun _ _ => by simp)⟩
theorem AtR.nil (B : Nat) (w : World) : AtR B w none 0 [] := ⟨World.ownsRow_nil _ _ _ _⟩
theorem AtR.low {B : Nat} {w : World} {A : Option Addr} {c : Nat} {L : List Sp} (h : AtR B w A c L) : ∀ p, A = some p → B ≤ p.block ∧ p.block < w.heap.size := fun p hp => by
  subst hp
  exact h.own.lt p.block rfl
theorem AtR.app {B z n : Nat} {w w1 : World} {A : Option Addr} {c : Nat} {L : List Sp} {s : Sp} (h : AtR B w A c L) (hn : L.length = n) (o : Only [] w w1) (hB : B ≤ w.heap.size)
    (hz : ∀ j u, s.cd[j]? = some u → w1.cell? ⟨z, j, none⟩ = some u) (hl : n + 1 ≤ 1048576) :
    ∃ A' c' w2, (Builtin.append_ #[44, 44] 44 #[.slice A n c, .slice (some ⟨z, 0, none⟩) 1 1]).run Tryd.prog w1 = .ok (.slice A' (n + 1) c') w2 ∧ AtR B w2 A' c' (L ++ [s]) ∧ GrowR w A w2 A' := by
  subst hn
  have h1 := h.keep o
  obtain ⟨A', c', w2, hr, ho, oo, hat⟩ := run_appG Sp.cd (K := 8) (TS := 44) (TE := 54) spcd_len spcd_one Tryd.underlying44 info54 rfl (by omega) (by omega) (w := w1) (L := L) (M := [s]) (m := 1) (z := z) (oz := 0) (cz := 1) h1.own rfl (fun j u hj => by rw [Nat.zero_add]; exact hz j u (by simpa [flatG] using hj)) hl (Nat.le_trans hB o.size)
  exact ⟨A', c', w2, hr, ⟨by simpa using ho⟩, (GrowR.still o).trans ⟨oo, hat⟩⟩
end Go.Proofs.YtfnacnlaphpflaaDoor
