/- A program: where it lies. -/
import Derived.Test.YtfnacnlaphpflaaDoorExpr
import Derived.Test.YtfnacnlaphpflaaDoorTTree
namespace Go.Proofs.YtfnacnlaphpflaaDoor
open Go.ChangeShapes Go.WideShapes Go.ChangeAt Go.RowKit Go.Deep Go.Kx
open Go.Val (Tt)
set_option maxRecDepth 100000
/-- the cells of one entry, at a place of a row -/
def AtX {α : Type} (cs : α → List Value) (K : Nat) (w : World) (A : Option Addr) (i : Nat) (e : α) : Prop :=
  ∃ b o, A = some ⟨b, o, none⟩ ∧ b < w.heap.size ∧ ∀ j v, (cs e)[j]? = some v → w.cell? ⟨b, o + i * K + j, none⟩ = some v
theorem AtX.only {α : Type} {cs : α → List Value} {K : Nat} {S : List Nat} {w w' : World} {A : Option Addr} {i : Nat} {e : α} (h : AtX cs K w A i e) (o : Only S w w') (hA : ∀ p, A = some p → p.block ∉ S) : AtX cs K w' A i e := by
  obtain ⟨b, f, rfl, hb, hc⟩ := h
  exact ⟨b, f, rfl, Nat.lt_of_lt_of_le hb o.size, fun j v hv => (o.cell (p := ⟨b, f + i * K + j, none⟩) hb (show b ∉ S from hA _ rfl)).trans (hc j v hv)⟩
theorem AtX.keep {α : Type} {cs : α → List Value} {K : Nat} {w w' : World} {A : Option Addr} {i : Nat} {e : α} (h : AtX cs K w A i e) (o : Only [] w w') : AtX cs K w' A i e := h.only o (by simp)
/-- a row of entries, wherever it is asked -/
structure RowX {α : Type} (cs : α → List Value) (K : Nat) (Li : World → α → Prop) (w : World) (A : Option Addr) (l : List α) : Prop where
  row : ∀ i e, l[i]? = some e → AtX cs K w A i e
  sub : ∀ e, e ∈ l → Li w e
  len : l.length ≤ 9223372036854775807
theorem RowX.keep {α : Type} {cs : α → List Value} {K : Nat} {Li : World → α → Prop} (hL : ∀ w w' e, Li w e → Only [] w w' → Li w' e) {w w' : World} {A : Option Addr} {l : List α} (h : RowX cs K Li w A l) (o : Only [] w w') : RowX cs K Li w' A l :=
  ⟨fun i e he => (h.row i e he).keep o, fun e he => hL _ _ _ (h.sub e he) o, h.len⟩
def okS (s : ByteArray) : Prop := s.size ≤ 9223372036854775807
theorem open_rowG {α : Type} [Inhabited α] (cs : α → List Value) (Li : World → α → Prop) {H : Type} {enc : TypeId × Value → H} {W : World} {base : Nat} {sp : Nat → Bool} {held : Bool} {T E : TypeId} {K : Nat} (hT : Tryd.prog.underlying T = some (.slice E)) (hK : Tryd.prog.cellsOf E = K) (h0 : 0 < K) (hcs : ∀ a, (cs a).length = K)
    (el : ∀ fuel c x, DataW.trod enc Tryd.prog W base sp held fuel E c = some x → ∃ a, c = cs a ∧ Li W a) {n : Nat} {c : Value} {y : DataW H × List MemPlace} (h : DataW.trod enc Tryd.prog W base sp held n T [c] = some y) :
    ∃ (A : Option Addr) (cap : Nat) (l : List α), c = .slice A l.length cap ∧ l.length ≤ 9223372036854775807 ∧ (∀ i e, l[i]? = some e → ∃ b o, A = some ⟨b, o, none⟩ ∧ b < W.heap.size ∧ ∀ j v, (cs e)[j]? = some v → W.cell? ⟨b, o + i * K + j, none⟩ = some v) ∧ ∀ e ∈ l, Li W e := by
  rcases DataW.trod_slice hT h with ⟨hc, _⟩ | ⟨a, len, cap, elems, rest, k, hk, hc, _, _, hlc, hcm, hel, hat, _⟩
  · simp at hc
    subst hc
    exact ⟨none, 0, [], rfl, by simp, fun i e he => by simp at he, fun e he => by simp at he⟩
  · simp at hc
    subst hc
    rw [hK] at hat
    have H : ∀ i, i < len → ∃ e : α, Li W e ∧ ∀ j v, (cs e)[j]? = some v → W.cell? ((a.add (i * K)).add j) = some v := fun i hi => by
      have h := hat i hi
      rw [List.getElem?_eq_getElem (by omega)] at h
      obtain ⟨cs', hc', ht⟩ := Option.bind_eq_some_iff.1 h
      obtain ⟨e, rfl, hL⟩ := el _ cs' _ ht
      obtain ⟨_, hcl, hatc⟩ := World.cells?_some hc'
      refine ⟨e, hL, fun j v hv => ?_⟩
      have hj : j < (cs e).length := (List.getElem?_eq_some_iff.1 hv).1
      have := hatc j (by omega)
      rw [this]
      simpa using hv
    let f (i : Nat) : α := if h : i < len then Classical.choose (H i h) else default
    have hfi : ∀ i (h : i < len), Li W (f i) ∧ ∀ j v, (cs (f i))[j]? = some v → W.cell? ((a.add (i * K)).add j) = some v := fun i h => by
      simp only [f, dif_pos h]
      exact Classical.choose_spec (H i h)
    have hlenr : ((List.range len).map f).length = len := by simp
    have hz : ∀ e : α, ∃ v, (cs e)[0]? = some v := fun e => ⟨_, List.getElem?_eq_getElem (by rw [hcs]; exact h0)⟩
    refine ⟨some a, cap, (List.range len).map f, by simp, by rw [hlenr]; unfold maxLen at hcm; omega, fun i e he => ?_, fun e he => ?_⟩
    · have hi : i < len := by have := (List.getElem?_eq_some_iff.1 he).1; omega
      rw [List.getElem?_map, List.getElem?_range hi] at he
      simp at he
      subst he
      have h0' : ∃ v0, W.cell? (a.add 0) = some v0 := by
        obtain ⟨_, g⟩ := hfi 0 (by omega)
        obtain ⟨v, hv⟩ := hz (f 0)
        have := g 0 v hv
        rw [Go.Deep.add_add] at this
        exact ⟨v, by simpa using this⟩
      obtain ⟨_, g⟩ := hfi i hi
      have key : ∀ j v, (cs (f i))[j]? = some v → some a = some ⟨a.block, a.off, none⟩ ∧ a.block < W.heap.size ∧ W.cell? ⟨a.block, a.off + i * K + j, none⟩ = some v := fun j v hv => by
        have h := g j v hv
        rw [Go.Deep.add_add] at h
        have q := cell_add h h0'
        exact ⟨by rw [← q.1], q.2.1, by simpa [Nat.add_assoc] using q.2.2⟩
      obtain ⟨v, hv⟩ := hz (f i)
      obtain ⟨k1, k2, _⟩ := key 0 v hv
      exact ⟨a.block, a.off, k1, k2, fun j v hv => (key j v hv).2.2⟩
    · obtain ⟨i, hi, rfl⟩ := List.mem_map.1 he
      exact (hfi i (List.mem_range.1 hi)).1
theorem listP3 {α : Type} {l : List α} (h : l.length = 3) : ∃ x0 x1 x2, l = [x0, x1, x2] := by
  match l, h with
  | [x0, x1, x2], _ => exact ⟨x0, x1, x2, rfl⟩
theorem listP6 {α : Type} {l : List α} (h : l.length = 6) : ∃ x0 x1 x2 x3 x4 x5, l = [x0, x1, x2, x3, x4, x5] := by
  match l, h with
  | [x0, x1, x2, x3, x4, x5], _ => exact ⟨x0, x1, x2, x3, x4, x5, rfl⟩
theorem listP7 {α : Type} {l : List α} (h : l.length = 7) : ∃ x0 x1 x2 x3 x4 x5 x6, l = [x0, x1, x2, x3, x4, x5, x6] := by
  match l, h with
  | [x0, x1, x2, x3, x4, x5, x6], _ => exact ⟨x0, x1, x2, x3, x4, x5, x6, rfl⟩
theorem listP14 {α : Type} {l : List α} (h : l.length = 14) : ∃ x0 x1 x2 x3 x4 x5 x6 x7 x8 x9 x10 x11 x12 x13, l = [x0, x1, x2, x3, x4, x5, x6, x7, x8, x9, x10, x11, x12, x13] := by
  match l, h with
  | [x0, x1, x2, x3, x4, x5, x6, x7, x8, x9, x10, x11, x12, x13], _ => exact ⟨x0, x1, x2, x3, x4, x5, x6, x7, x8, x9, x10, x11, x12, x13, rfl⟩
theorem listP1 {α : Type} {l : List α} (h : l.length = 1) : ∃ x0, l = [x0] := by
  match l, h with
  | [x0], _ => exact ⟨x0, rfl⟩
theorem listP2 {α : Type} {l : List α} (h : l.length = 2) : ∃ x0 x1, l = [x0, x1] := by
  match l, h with
  | [x0, x1], _ => exact ⟨x0, x1, rfl⟩
theorem listP4 {α : Type} {l : List α} (h : l.length = 4) : ∃ x0 x1 x2 x3, l = [x0, x1, x2, x3] := by
  match l, h with
  | [x0, x1, x2, x3], _ => exact ⟨x0, x1, x2, x3, rfl⟩
theorem _root_.Go.Kx.Blk.facts3 {w : World} {g : Nat} {t : TypeId} {a0 a1 a2 : Value} (h : Blk w g t #[a0, a1, a2]) : w.cell? ⟨g, 0, none⟩ = some a0 ∧ w.cell? ⟨g, 1, none⟩ = some a1 ∧ w.cell? ⟨g, 2, none⟩ = some a2 ∧ g < w.heap.size := by
  refine ⟨?_, ?_, ?_, h.lt⟩ <;> (rw [h.cell]; rfl)
theorem _root_.Go.Kx.Blk.facts6 {w : World} {g : Nat} {t : TypeId} {a0 a1 a2 a3 a4 a5 : Value} (h : Blk w g t #[a0, a1, a2, a3, a4, a5]) : w.cell? ⟨g, 0, none⟩ = some a0 ∧ w.cell? ⟨g, 1, none⟩ = some a1 ∧ w.cell? ⟨g, 2, none⟩ = some a2 ∧ w.cell? ⟨g, 3, none⟩ = some a3 ∧ w.cell? ⟨g, 4, none⟩ = some a4 ∧ w.cell? ⟨g, 5, none⟩ = some a5 ∧ g < w.heap.size := by
  refine ⟨?_, ?_, ?_, ?_, ?_, ?_, h.lt⟩ <;> (rw [h.cell]; rfl)
theorem _root_.Go.Kx.Blk.facts7 {w : World} {g : Nat} {t : TypeId} {a0 a1 a2 a3 a4 a5 a6 : Value} (h : Blk w g t #[a0, a1, a2, a3, a4, a5, a6]) : w.cell? ⟨g, 0, none⟩ = some a0 ∧ w.cell? ⟨g, 1, none⟩ = some a1 ∧ w.cell? ⟨g, 2, none⟩ = some a2 ∧ w.cell? ⟨g, 3, none⟩ = some a3 ∧ w.cell? ⟨g, 4, none⟩ = some a4 ∧ w.cell? ⟨g, 5, none⟩ = some a5 ∧ w.cell? ⟨g, 6, none⟩ = some a6 ∧ g < w.heap.size := by
  refine ⟨?_, ?_, ?_, ?_, ?_, ?_, ?_, h.lt⟩ <;> (rw [h.cell]; rfl)
theorem _root_.Go.Kx.Blk.facts14 {w : World} {g : Nat} {t : TypeId} {a0 a1 a2 a3 a4 a5 a6 a7 a8 a9 a10 a11 a12 a13 : Value} (h : Blk w g t #[a0, a1, a2, a3, a4, a5, a6, a7, a8, a9, a10, a11, a12, a13]) : w.cell? ⟨g, 0, none⟩ = some a0 ∧ w.cell? ⟨g, 1, none⟩ = some a1 ∧ w.cell? ⟨g, 2, none⟩ = some a2 ∧ w.cell? ⟨g, 3, none⟩ = some a3 ∧ w.cell? ⟨g, 4, none⟩ = some a4 ∧ w.cell? ⟨g, 5, none⟩ = some a5 ∧ w.cell? ⟨g, 6, none⟩ = some a6 ∧ w.cell? ⟨g, 7, none⟩ = some a7 ∧ w.cell? ⟨g, 8, none⟩ = some a8 ∧ w.cell? ⟨g, 9, none⟩ = some a9 ∧ w.cell? ⟨g, 10, none⟩ = some a10 ∧ w.cell? ⟨g, 11, none⟩ = some a11 ∧ w.cell? ⟨g, 12, none⟩ = some a12 ∧ w.cell? ⟨g, 13, none⟩ = some a13 ∧ g < w.heap.size := by
  refine ⟨?_, ?_, ?_, ?_, ?_, ?_, ?_, ?_, ?_, ?_, ?_, ?_, ?_, ?_, h.lt⟩ <;> (rw [h.cell]; rfl)
/-- api.Port -/
inductive Po where
  | mk (xn : ByteArray) (xtk : Int) (xtA : Option Addr) (xtc : Nat) (xtl : List Tx)
instance : Inhabited Po := ⟨.mk ⟨#[]⟩ 0 none 0 []⟩
def Po.cs : Po → List Value
  | .mk xn xtk xtA xtc xtl => [.string xn, .int .i64 xtk, .slice xtA xtl.length xtc]
def Po.val (e : Po) : Value := .agg e.cs.toArray
def Po.n_ : Po → ByteArray
  | .mk xn _xtk _xtA _xtc _xtl => xn
def Po.t_ : Po → Tx
  | .mk _xn xtk xtA xtc xtl => .mk xtk xtA xtc xtl
def Po.Li (w : World) : Po → Prop
  | .mk xn xtk xtA xtc xtl => okS xn ∧ LiesT w (.mk xtk xtA xtc xtl)
theorem Po.Li.keep (w w' : World) (e : Po) (h : Po.Li w e) (o : Only [] w w') : Po.Li w' e := by
  cases e
  exact ⟨h.1, h.2.keep o⟩
theorem Po.at_cells {w : World} {A : Option Addr} {i : Nat} {xn : ByteArray} {xtk : Int} {xtA : Option Addr} {xtc : Nat} {xtl : List Tx} (h : AtX Po.cs 3 w A i (.mk xn xtk xtA xtc xtl)) :
    ∃ b o, A = some ⟨b, o, none⟩ ∧ b < w.heap.size ∧ w.cell? ⟨b, o + i * 3, none⟩ = some (.string xn) ∧ w.cell? ⟨b, o + i * 3 + 1, none⟩ = some (.int .i64 xtk) ∧ w.cell? ⟨b, o + i * 3 + 2, none⟩ = some (.slice xtA xtl.length xtc) := by
  obtain ⟨b, o, hA, hb, hc⟩ := h
  exact ⟨b, o, hA, hb, hc 0 _ rfl, hc 1 _ rfl, hc 2 _ rfl⟩
theorem cellsP95 : Tryd.prog.cellsOf 95 = 3 := by kernel_rfl
theorem cellsP9 : Tryd.prog.cellsOf 9 = 1 := by kernel_rfl
theorem cellsP93 : Tryd.prog.cellsOf 93 = 2 := by kernel_rfl
theorem open_Po {H : Type} {enc : TypeId × Value → H} {W : World} {base : Nat} {sp : Nat → Bool} {held : Bool} : ∀ (fuel : Nat) (cs : List Value) (x : DataW H × List MemPlace), DataW.trod enc Tryd.prog W base sp held fuel 95 cs = some x → ∃ e : Po, cs = e.cs ∧ Po.Li W e := by
  intro fuel cs x hx
  obtain ⟨xs, n, hn, rfl, hl, hlen, hf⟩ := DataW.trod_struct Tryd.underlying95 hx
  rw [cellsP95] at hl
  obtain ⟨c0, c1, c2, rfl⟩ := listP3 hl
  obtain ⟨y0, y1, rfl⟩ := listP2 (l := xs) (by simpa using hlen)
  have e0 : DataW.trod enc Tryd.prog W base sp held n 9 (([c0, c1, c2].drop 0).take (Tryd.prog.cellsOf 9)) = some y0 := hf 0 _ rfl
  rw [cellsP9] at e0
  have e1 : DataW.trod enc Tryd.prog W base sp held n 93 (([c0, c1, c2].drop 1).take (Tryd.prog.cellsOf 93)) = some y1 := hf 1 _ rfl
  rw [cellsP93] at e1
  obtain ⟨s0, q0, _, w0⟩ := DataW.trod_string Tryd.underlying9 (show DataW.trod enc Tryd.prog W base sp held n 9 [c0] = some y0 from e0)
  simp at q0
  subst q0
  unfold maxLen at w0
  obtain ⟨⟨a1, g1, h1, l1⟩, he1, hL1⟩ := open_Tx n [c1, c2] y1 e1
  simp [Tx.cs] at he1
  obtain ⟨rfl, rfl⟩ := he1
  exact ⟨.mk s0 a1 g1 h1 l1, rfl, (by unfold okS; omega), hL1⟩
/-- api.Set -/
inductive Se where
  | mk (xn : ByteArray) (xeo : Int) (xen : Int) (xes : ByteArray) (xeu : ByteArray) (xeA : Option Addr) (xec : Nat) (xel : List Ex)
instance : Inhabited Se := ⟨.mk ⟨#[]⟩ 0 0 ⟨#[]⟩ ⟨#[]⟩ none 0 []⟩
def Se.cs : Se → List Value
  | .mk xn xeo xen xes xeu xeA xec xel => [.string xn, .int .i64 xeo, .int .i64 xen, .string xes, .string xeu, .slice xeA xel.length xec]
def Se.val (e : Se) : Value := .agg e.cs.toArray
def Se.n_ : Se → ByteArray
  | .mk xn _xeo _xen _xes _xeu _xeA _xec _xel => xn
def Se.e_ : Se → Ex
  | .mk _xn xeo xen xes xeu xeA xec xel => .mk xeo xen xes xeu xeA xec xel
def Se.Li (w : World) : Se → Prop
  | .mk xn xeo xen xes xeu xeA xec xel => okS xn ∧ Lies w (.mk xeo xen xes xeu xeA xec xel)
theorem Se.Li.keep (w w' : World) (e : Se) (h : Se.Li w e) (o : Only [] w w') : Se.Li w' e := by
  cases e
  exact ⟨h.1, h.2.keep o⟩
theorem Se.at_cells {w : World} {A : Option Addr} {i : Nat} {xn : ByteArray} {xeo : Int} {xen : Int} {xes : ByteArray} {xeu : ByteArray} {xeA : Option Addr} {xec : Nat} {xel : List Ex} (h : AtX Se.cs 6 w A i (.mk xn xeo xen xes xeu xeA xec xel)) :
    ∃ b o, A = some ⟨b, o, none⟩ ∧ b < w.heap.size ∧ w.cell? ⟨b, o + i * 6, none⟩ = some (.string xn) ∧ w.cell? ⟨b, o + i * 6 + 1, none⟩ = some (.int .i64 xeo) ∧ w.cell? ⟨b, o + i * 6 + 2, none⟩ = some (.int .i64 xen) ∧ w.cell? ⟨b, o + i * 6 + 3, none⟩ = some (.string xes) ∧ w.cell? ⟨b, o + i * 6 + 4, none⟩ = some (.string xeu) ∧ w.cell? ⟨b, o + i * 6 + 5, none⟩ = some (.slice xeA xel.length xec) := by
  obtain ⟨b, o, hA, hb, hc⟩ := h
  exact ⟨b, o, hA, hb, hc 0 _ rfl, hc 1 _ rfl, hc 2 _ rfl, hc 3 _ rfl, hc 4 _ rfl, hc 5 _ rfl⟩
theorem cellsP97 : Tryd.prog.cellsOf 97 = 6 := by kernel_rfl
theorem cellsP24 : Tryd.prog.cellsOf 24 = 5 := by kernel_rfl
theorem open_Se {H : Type} {enc : TypeId × Value → H} {W : World} {base : Nat} {sp : Nat → Bool} {held : Bool} : ∀ (fuel : Nat) (cs : List Value) (x : DataW H × List MemPlace), DataW.trod enc Tryd.prog W base sp held fuel 97 cs = some x → ∃ e : Se, cs = e.cs ∧ Se.Li W e := by
  intro fuel cs x hx
  obtain ⟨xs, n, hn, rfl, hl, hlen, hf⟩ := DataW.trod_struct Tryd.underlying97 hx
  rw [cellsP97] at hl
  obtain ⟨c0, c1, c2, c3, c4, c5, rfl⟩ := listP6 hl
  obtain ⟨y0, y1, rfl⟩ := listP2 (l := xs) (by simpa using hlen)
  have e0 : DataW.trod enc Tryd.prog W base sp held n 9 (([c0, c1, c2, c3, c4, c5].drop 0).take (Tryd.prog.cellsOf 9)) = some y0 := hf 0 _ rfl
  rw [cellsP9] at e0
  have e1 : DataW.trod enc Tryd.prog W base sp held n 24 (([c0, c1, c2, c3, c4, c5].drop 1).take (Tryd.prog.cellsOf 24)) = some y1 := hf 1 _ rfl
  rw [cellsP24] at e1
  obtain ⟨s0, q0, _, w0⟩ := DataW.trod_string Tryd.underlying9 (show DataW.trod enc Tryd.prog W base sp held n 9 [c0] = some y0 from e0)
  simp at q0
  subst q0
  unfold maxLen at w0
  obtain ⟨⟨a1, b1, d1, f1, g1, h1, l1⟩, he1, hL1⟩ := open_ex n [c1, c2, c3, c4, c5] y1 e1
  simp [Ex.cs] at he1
  obtain ⟨rfl, rfl, rfl, rfl, rfl⟩ := he1
  exact ⟨.mk s0 a1 b1 d1 f1 g1 h1 l1, rfl, (by unfold okS; omega), hL1⟩
/-- api.Emit -/
inductive Em where
  | mk (xp : ByteArray) (xeo : Int) (xen : Int) (xes : ByteArray) (xeu : ByteArray) (xeA : Option Addr) (xec : Nat) (xel : List Ex) (xiA : Option Addr) (xic : Nat) (xil : List Ex)
instance : Inhabited Em := ⟨.mk ⟨#[]⟩ 0 0 ⟨#[]⟩ ⟨#[]⟩ none 0 [] none 0 []⟩
def Em.cs : Em → List Value
  | .mk xp xeo xen xes xeu xeA xec xel xiA xic xil => [.string xp, .int .i64 xeo, .int .i64 xen, .string xes, .string xeu, .slice xeA xel.length xec, .slice xiA xil.length xic]
def Em.val (e : Em) : Value := .agg e.cs.toArray
def Em.p_ : Em → ByteArray
  | .mk xp _xeo _xen _xes _xeu _xeA _xec _xel _xiA _xic _xil => xp
def Em.e_ : Em → Ex
  | .mk _xp xeo xen xes xeu xeA xec xel _xiA _xic _xil => .mk xeo xen xes xeu xeA xec xel
def Em.i_ : Em → List Ex
  | .mk _xp _xeo _xen _xes _xeu _xeA _xec _xel _xiA _xic xil => xil
def Em.Li (w : World) : Em → Prop
  | .mk xp xeo xen xes xeu xeA xec xel xiA _xic xil => okS xp ∧ Lies w (.mk xeo xen xes xeu xeA xec xel) ∧ RowL w xiA xil
theorem Em.Li.keep (w w' : World) (e : Em) (h : Em.Li w e) (o : Only [] w w') : Em.Li w' e := by
  cases e
  exact ⟨h.1, h.2.1.keep o, h.2.2.keep o⟩
theorem Em.at_cells {w : World} {A : Option Addr} {i : Nat} {xp : ByteArray} {xeo : Int} {xen : Int} {xes : ByteArray} {xeu : ByteArray} {xeA : Option Addr} {xec : Nat} {xel : List Ex} {xiA : Option Addr} {xic : Nat} {xil : List Ex} (h : AtX Em.cs 7 w A i (.mk xp xeo xen xes xeu xeA xec xel xiA xic xil)) :
    ∃ b o, A = some ⟨b, o, none⟩ ∧ b < w.heap.size ∧ w.cell? ⟨b, o + i * 7, none⟩ = some (.string xp) ∧ w.cell? ⟨b, o + i * 7 + 1, none⟩ = some (.int .i64 xeo) ∧ w.cell? ⟨b, o + i * 7 + 2, none⟩ = some (.int .i64 xen) ∧ w.cell? ⟨b, o + i * 7 + 3, none⟩ = some (.string xes) ∧ w.cell? ⟨b, o + i * 7 + 4, none⟩ = some (.string xeu) ∧ w.cell? ⟨b, o + i * 7 + 5, none⟩ = some (.slice xeA xel.length xec) ∧ w.cell? ⟨b, o + i * 7 + 6, none⟩ = some (.slice xiA xil.length xic) := by
  obtain ⟨b, o, hA, hb, hc⟩ := h
  exact ⟨b, o, hA, hb, hc 0 _ rfl, hc 1 _ rfl, hc 2 _ rfl, hc 3 _ rfl, hc 4 _ rfl, hc 5 _ rfl, hc 6 _ rfl⟩
theorem cellsP74 : Tryd.prog.cellsOf 74 = 7 := by kernel_rfl
theorem cellsP22 : Tryd.prog.cellsOf 22 = 1 := by kernel_rfl
theorem open_Em {H : Type} {enc : TypeId × Value → H} {W : World} {base : Nat} {sp : Nat → Bool} {held : Bool} : ∀ (fuel : Nat) (cs : List Value) (x : DataW H × List MemPlace), DataW.trod enc Tryd.prog W base sp held fuel 74 cs = some x → ∃ e : Em, cs = e.cs ∧ Em.Li W e := by
  intro fuel cs x hx
  obtain ⟨xs, n, hn, rfl, hl, hlen, hf⟩ := DataW.trod_struct Tryd.underlying74 hx
  rw [cellsP74] at hl
  obtain ⟨c0, c1, c2, c3, c4, c5, c6, rfl⟩ := listP7 hl
  obtain ⟨y0, y1, y2, rfl⟩ := listP3 (l := xs) (by simpa using hlen)
  have e0 : DataW.trod enc Tryd.prog W base sp held n 9 (([c0, c1, c2, c3, c4, c5, c6].drop 0).take (Tryd.prog.cellsOf 9)) = some y0 := hf 0 _ rfl
  rw [cellsP9] at e0
  have e1 : DataW.trod enc Tryd.prog W base sp held n 24 (([c0, c1, c2, c3, c4, c5, c6].drop 1).take (Tryd.prog.cellsOf 24)) = some y1 := hf 1 _ rfl
  rw [cellsP24] at e1
  have e2 : DataW.trod enc Tryd.prog W base sp held n 22 (([c0, c1, c2, c3, c4, c5, c6].drop 6).take (Tryd.prog.cellsOf 22)) = some y2 := hf 2 _ rfl
  rw [cellsP22] at e2
  obtain ⟨s0, q0, _, w0⟩ := DataW.trod_string Tryd.underlying9 (show DataW.trod enc Tryd.prog W base sp held n 9 [c0] = some y0 from e0)
  simp at q0
  subst q0
  unfold maxLen at w0
  obtain ⟨⟨a1, b1, d1, f1, g1, h1, l1⟩, he1, hL1⟩ := open_ex n [c1, c2, c3, c4, c5] y1 e1
  simp [Ex.cs] at he1
  obtain ⟨rfl, rfl, rfl, rfl, rfl⟩ := he1
  obtain ⟨g2, h2, l2, rfl, hl2, hr2, hs2⟩ := open_rowG Ex.cs (fun W e => Lies W e) Tryd.underlying22 cells24 (by omega) (fun a => by cases a; rfl) open_ex (c := c6) e2
  exact ⟨.mk s0 a1 b1 d1 f1 g1 h1 l1 g2 h2 l2, rfl, (by unfold okS; omega), hL1, ⟨hr2, hs2, hl2⟩⟩
/-- api.Part -/
inductive Pa where
  | mk (xn : ByteArray) (xm : ByteArray)
instance : Inhabited Pa := ⟨.mk ⟨#[]⟩ ⟨#[]⟩⟩
def Pa.cs : Pa → List Value
  | .mk xn xm => [.string xn, .string xm]
def Pa.val (e : Pa) : Value := .agg e.cs.toArray
def Pa.n_ : Pa → ByteArray
  | .mk xn _xm => xn
def Pa.m_ : Pa → ByteArray
  | .mk _xn xm => xm
def Pa.Li (_w : World) : Pa → Prop
  | .mk xn xm => okS xn ∧ okS xm
theorem Pa.Li.keep (w w' : World) (e : Pa) (h : Pa.Li w e) (_o : Only [] w w') : Pa.Li w' e := by
  cases e
  exact ⟨h.1, h.2⟩
theorem Pa.at_cells {w : World} {A : Option Addr} {i : Nat} {xn : ByteArray} {xm : ByteArray} (h : AtX Pa.cs 2 w A i (.mk xn xm)) :
    ∃ b o, A = some ⟨b, o, none⟩ ∧ b < w.heap.size ∧ w.cell? ⟨b, o + i * 2, none⟩ = some (.string xn) ∧ w.cell? ⟨b, o + i * 2 + 1, none⟩ = some (.string xm) := by
  obtain ⟨b, o, hA, hb, hc⟩ := h
  exact ⟨b, o, hA, hb, hc 0 _ rfl, hc 1 _ rfl⟩
theorem cellsP106 : Tryd.prog.cellsOf 106 = 2 := by kernel_rfl
theorem open_Pa {H : Type} {enc : TypeId × Value → H} {W : World} {base : Nat} {sp : Nat → Bool} {held : Bool} : ∀ (fuel : Nat) (cs : List Value) (x : DataW H × List MemPlace), DataW.trod enc Tryd.prog W base sp held fuel 106 cs = some x → ∃ e : Pa, cs = e.cs ∧ Pa.Li W e := by
  intro fuel cs x hx
  obtain ⟨xs, n, hn, rfl, hl, hlen, hf⟩ := DataW.trod_struct Tryd.underlying106 hx
  rw [cellsP106] at hl
  obtain ⟨c0, c1, rfl⟩ := listP2 hl
  obtain ⟨y0, y1, rfl⟩ := listP2 (l := xs) (by simpa using hlen)
  have e0 : DataW.trod enc Tryd.prog W base sp held n 9 (([c0, c1].drop 0).take (Tryd.prog.cellsOf 9)) = some y0 := hf 0 _ rfl
  rw [cellsP9] at e0
  have e1 : DataW.trod enc Tryd.prog W base sp held n 9 (([c0, c1].drop 1).take (Tryd.prog.cellsOf 9)) = some y1 := hf 1 _ rfl
  rw [cellsP9] at e1
  obtain ⟨s0, q0, _, w0⟩ := DataW.trod_string Tryd.underlying9 (show DataW.trod enc Tryd.prog W base sp held n 9 [c0] = some y0 from e0)
  simp at q0
  subst q0
  unfold maxLen at w0
  obtain ⟨s1, q1, _, w1⟩ := DataW.trod_string Tryd.underlying9 (show DataW.trod enc Tryd.prog W base sp held n 9 [c1] = some y1 from e1)
  simp at q1
  subst q1
  unfold maxLen at w1
  exact ⟨.mk s0 s1, rfl, (by unfold okS; omega), (by unfold okS; omega)⟩
theorem cellsP110 : Tryd.prog.cellsOf 110 = 2 := by kernel_rfl
theorem open_End {H : Type} {enc : TypeId × Value → H} {W : World} {base : Nat} {sp : Nat → Bool} {held : Bool} : ∀ (fuel : Nat) (cs : List Value) (x : DataW H × List MemPlace), DataW.trod enc Tryd.prog W base sp held fuel 110 cs = some x → ∃ a b, cs = [.string a, .string b] ∧ okS a ∧ okS b := by
  intro fuel cs x hx
  obtain ⟨xs, n, hn, rfl, hl, hlen, hf⟩ := DataW.trod_struct Tryd.underlying110 hx
  rw [cellsP110] at hl
  obtain ⟨c0, c1, rfl⟩ := listP2 hl
  obtain ⟨y0, y1, rfl⟩ := listP2 (l := xs) (by simpa using hlen)
  have e0 : DataW.trod enc Tryd.prog W base sp held n 9 (([c0, c1].drop 0).take (Tryd.prog.cellsOf 9)) = some y0 := hf 0 _ rfl
  rw [cellsP9] at e0
  have e1 : DataW.trod enc Tryd.prog W base sp held n 9 (([c0, c1].drop 1).take (Tryd.prog.cellsOf 9)) = some y1 := hf 1 _ rfl
  rw [cellsP9] at e1
  obtain ⟨s0, q0, _, w0⟩ := DataW.trod_string Tryd.underlying9 (show DataW.trod enc Tryd.prog W base sp held n 9 [c0] = some y0 from e0)
  simp at q0
  subst q0
  unfold maxLen at w0
  obtain ⟨s1, q1, _, w1⟩ := DataW.trod_string Tryd.underlying9 (show DataW.trod enc Tryd.prog W base sp held n 9 [c1] = some y1 from e1)
  simp at q1
  subst q1
  unfold maxLen at w1
  exact ⟨s0, s1, rfl, by unfold okS; omega, by unfold okS; omega⟩
/-- api.Link -/
inductive Lk where
  | mk (xa : ByteArray) (xb : ByteArray) (xc : ByteArray) (xd : ByteArray)
instance : Inhabited Lk := ⟨.mk ⟨#[]⟩ ⟨#[]⟩ ⟨#[]⟩ ⟨#[]⟩⟩
def Lk.cs : Lk → List Value
  | .mk xa xb xc xd => [.string xa, .string xb, .string xc, .string xd]
def Lk.val (e : Lk) : Value := .agg e.cs.toArray
def Lk.a_ : Lk → ByteArray
  | .mk xa _xb _xc _xd => xa
def Lk.b_ : Lk → ByteArray
  | .mk _xa xb _xc _xd => xb
def Lk.c_ : Lk → ByteArray
  | .mk _xa _xb xc _xd => xc
def Lk.d_ : Lk → ByteArray
  | .mk _xa _xb _xc xd => xd
def Lk.Li (_w : World) : Lk → Prop
  | .mk xa xb xc xd => okS xa ∧ okS xb ∧ okS xc ∧ okS xd
theorem Lk.Li.keep (w w' : World) (e : Lk) (h : Lk.Li w e) (_o : Only [] w w') : Lk.Li w' e := by
  cases e
  exact ⟨h.1, h.2.1, h.2.2.1, h.2.2.2⟩
theorem Lk.at_cells {w : World} {A : Option Addr} {i : Nat} {xa : ByteArray} {xb : ByteArray} {xc : ByteArray} {xd : ByteArray} (h : AtX Lk.cs 4 w A i (.mk xa xb xc xd)) :
    ∃ b o, A = some ⟨b, o, none⟩ ∧ b < w.heap.size ∧ w.cell? ⟨b, o + i * 4, none⟩ = some (.string xa) ∧ w.cell? ⟨b, o + i * 4 + 1, none⟩ = some (.string xb) ∧ w.cell? ⟨b, o + i * 4 + 2, none⟩ = some (.string xc) ∧ w.cell? ⟨b, o + i * 4 + 3, none⟩ = some (.string xd) := by
  obtain ⟨b, o, hA, hb, hc⟩ := h
  exact ⟨b, o, hA, hb, hc 0 _ rfl, hc 1 _ rfl, hc 2 _ rfl, hc 3 _ rfl⟩
theorem cellsP112 : Tryd.prog.cellsOf 112 = 4 := by kernel_rfl
theorem open_Lk {H : Type} {enc : TypeId × Value → H} {W : World} {base : Nat} {sp : Nat → Bool} {held : Bool} : ∀ (fuel : Nat) (cs : List Value) (x : DataW H × List MemPlace), DataW.trod enc Tryd.prog W base sp held fuel 112 cs = some x → ∃ e : Lk, cs = e.cs ∧ Lk.Li W e := by
  intro fuel cs x hx
  obtain ⟨xs, n, hn, rfl, hl, hlen, hf⟩ := DataW.trod_struct Tryd.underlying112 hx
  rw [cellsP112] at hl
  obtain ⟨c0, c1, c2, c3, rfl⟩ := listP4 hl
  obtain ⟨y0, y1, rfl⟩ := listP2 (l := xs) (by simpa using hlen)
  have e0 : DataW.trod enc Tryd.prog W base sp held n 110 (([c0, c1, c2, c3].drop 0).take (Tryd.prog.cellsOf 110)) = some y0 := hf 0 _ rfl
  rw [cellsP110] at e0
  have e1 : DataW.trod enc Tryd.prog W base sp held n 110 (([c0, c1, c2, c3].drop 2).take (Tryd.prog.cellsOf 110)) = some y1 := hf 1 _ rfl
  rw [cellsP110] at e1
  obtain ⟨a0, b0, he0, hL0⟩ := open_End n [c0, c1] y0 e0
  simp at he0
  obtain ⟨rfl, rfl⟩ := he0
  obtain ⟨a1, b1, he1, hL1⟩ := open_End n [c2, c3] y1 e1
  simp at he1
  obtain ⟨rfl, rfl⟩ := he1
  exact ⟨.mk a0 b0 a1 b1, rfl, hL0.1, hL0.2, hL1.1, hL1.2⟩
/-- api.Act -/
inductive Ac where
  | mk (xk : Int) (xn : ByteArray) (xm : ByteArray) (xa : ByteArray) (xb : ByteArray) (xc : ByteArray) (xd : ByteArray)
instance : Inhabited Ac := ⟨.mk 0 ⟨#[]⟩ ⟨#[]⟩ ⟨#[]⟩ ⟨#[]⟩ ⟨#[]⟩ ⟨#[]⟩⟩
def Ac.cs : Ac → List Value
  | .mk xk xn xm xa xb xc xd => [.int .i64 xk, .string xn, .string xm, .string xa, .string xb, .string xc, .string xd]
def Ac.val (e : Ac) : Value := .agg e.cs.toArray
def Ac.k_ : Ac → Int
  | .mk xk _xn _xm _xa _xb _xc _xd => xk
def Ac.n_ : Ac → ByteArray
  | .mk _xk xn _xm _xa _xb _xc _xd => xn
def Ac.m_ : Ac → ByteArray
  | .mk _xk _xn xm _xa _xb _xc _xd => xm
def Ac.a_ : Ac → ByteArray
  | .mk _xk _xn _xm xa _xb _xc _xd => xa
def Ac.b_ : Ac → ByteArray
  | .mk _xk _xn _xm _xa xb _xc _xd => xb
def Ac.c_ : Ac → ByteArray
  | .mk _xk _xn _xm _xa _xb xc _xd => xc
def Ac.d_ : Ac → ByteArray
  | .mk _xk _xn _xm _xa _xb _xc xd => xd
def Ac.Li (_w : World) : Ac → Prop
  | .mk xk xn xm xa xb xc xd => I64 xk ∧ okS xn ∧ okS xm ∧ okS xa ∧ okS xb ∧ okS xc ∧ okS xd
theorem Ac.Li.keep (w w' : World) (e : Ac) (h : Ac.Li w e) (_o : Only [] w w') : Ac.Li w' e := by
  cases e
  exact ⟨h.1, h.2.1, h.2.2.1, h.2.2.2.1, h.2.2.2.2.1, h.2.2.2.2.2.1, h.2.2.2.2.2.2⟩
theorem Ac.at_cells {w : World} {A : Option Addr} {i : Nat} {xk : Int} {xn : ByteArray} {xm : ByteArray} {xa : ByteArray} {xb : ByteArray} {xc : ByteArray} {xd : ByteArray} (h : AtX Ac.cs 7 w A i (.mk xk xn xm xa xb xc xd)) :
    ∃ b o, A = some ⟨b, o, none⟩ ∧ b < w.heap.size ∧ w.cell? ⟨b, o + i * 7, none⟩ = some (.int .i64 xk) ∧ w.cell? ⟨b, o + i * 7 + 1, none⟩ = some (.string xn) ∧ w.cell? ⟨b, o + i * 7 + 2, none⟩ = some (.string xm) ∧ w.cell? ⟨b, o + i * 7 + 3, none⟩ = some (.string xa) ∧ w.cell? ⟨b, o + i * 7 + 4, none⟩ = some (.string xb) ∧ w.cell? ⟨b, o + i * 7 + 5, none⟩ = some (.string xc) ∧ w.cell? ⟨b, o + i * 7 + 6, none⟩ = some (.string xd) := by
  obtain ⟨b, o, hA, hb, hc⟩ := h
  exact ⟨b, o, hA, hb, hc 0 _ rfl, hc 1 _ rfl, hc 2 _ rfl, hc 3 _ rfl, hc 4 _ rfl, hc 5 _ rfl, hc 6 _ rfl⟩
theorem cellsP120 : Tryd.prog.cellsOf 120 = 7 := by kernel_rfl
theorem cellsP3 : Tryd.prog.cellsOf 3 = 1 := by kernel_rfl
theorem open_Ac {H : Type} {enc : TypeId × Value → H} {W : World} {base : Nat} {sp : Nat → Bool} {held : Bool} : ∀ (fuel : Nat) (cs : List Value) (x : DataW H × List MemPlace), DataW.trod enc Tryd.prog W base sp held fuel 120 cs = some x → ∃ e : Ac, cs = e.cs ∧ Ac.Li W e := by
  intro fuel cs x hx
  obtain ⟨xs, n, hn, rfl, hl, hlen, hf⟩ := DataW.trod_struct Tryd.underlying120 hx
  rw [cellsP120] at hl
  obtain ⟨c0, c1, c2, c3, c4, c5, c6, rfl⟩ := listP7 hl
  obtain ⟨y0, y1, y2, y3, rfl⟩ := listP4 (l := xs) (by simpa using hlen)
  have e0 : DataW.trod enc Tryd.prog W base sp held n 3 (([c0, c1, c2, c3, c4, c5, c6].drop 0).take (Tryd.prog.cellsOf 3)) = some y0 := hf 0 _ rfl
  rw [cellsP3] at e0
  have e1 : DataW.trod enc Tryd.prog W base sp held n 9 (([c0, c1, c2, c3, c4, c5, c6].drop 1).take (Tryd.prog.cellsOf 9)) = some y1 := hf 1 _ rfl
  rw [cellsP9] at e1
  have e2 : DataW.trod enc Tryd.prog W base sp held n 9 (([c0, c1, c2, c3, c4, c5, c6].drop 2).take (Tryd.prog.cellsOf 9)) = some y2 := hf 2 _ rfl
  rw [cellsP9] at e2
  have e3 : DataW.trod enc Tryd.prog W base sp held n 112 (([c0, c1, c2, c3, c4, c5, c6].drop 3).take (Tryd.prog.cellsOf 112)) = some y3 := hf 3 _ rfl
  rw [cellsP112] at e3
  obtain ⟨s0, q0, _, w0⟩ := DataW.trod_int Tryd.underlying3 (show DataW.trod enc Tryd.prog W base sp held n 3 [c0] = some y0 from e0)
  simp at q0
  subst q0
  obtain ⟨s1, q1, _, w1⟩ := DataW.trod_string Tryd.underlying9 (show DataW.trod enc Tryd.prog W base sp held n 9 [c1] = some y1 from e1)
  simp at q1
  subst q1
  unfold maxLen at w1
  obtain ⟨s2, q2, _, w2⟩ := DataW.trod_string Tryd.underlying9 (show DataW.trod enc Tryd.prog W base sp held n 9 [c2] = some y2 from e2)
  simp at q2
  subst q2
  unfold maxLen at w2
  obtain ⟨⟨a3, b3, d3, f3⟩, he3, hL3⟩ := open_Lk n [c3, c4, c5, c6] y3 e3
  simp [Lk.cs] at he3
  obtain ⟨rfl, rfl, rfl, rfl⟩ := he3
  exact ⟨.mk s0 s1 s2 a3 b3 d3 f3, rfl, i64_of w0, (by unfold okS; omega), (by unfold okS; omega), hL3.1, hL3.2.1, hL3.2.2.1, hL3.2.2.2⟩
/-- api.Rule -/
inductive Ru where
  | mk (xeo : Int) (xen : Int) (xes : ByteArray) (xeu : ByteArray) (xeA : Option Addr) (xec : Nat) (xel : List Ex) (xsA : Option Addr) (xsc : Nat) (xsl : List Ac)
instance : Inhabited Ru := ⟨.mk 0 0 ⟨#[]⟩ ⟨#[]⟩ none 0 [] none 0 []⟩
def Ru.cs : Ru → List Value
  | .mk xeo xen xes xeu xeA xec xel xsA xsc xsl => [.int .i64 xeo, .int .i64 xen, .string xes, .string xeu, .slice xeA xel.length xec, .slice xsA xsl.length xsc]
def Ru.val (e : Ru) : Value := .agg e.cs.toArray
def Ru.e_ : Ru → Ex
  | .mk xeo xen xes xeu xeA xec xel _xsA _xsc _xsl => .mk xeo xen xes xeu xeA xec xel
def Ru.s_ : Ru → List Ac
  | .mk _xeo _xen _xes _xeu _xeA _xec _xel _xsA _xsc xsl => xsl
def Ru.Li (w : World) : Ru → Prop
  | .mk xeo xen xes xeu xeA xec xel xsA _xsc xsl => Lies w (.mk xeo xen xes xeu xeA xec xel) ∧ RowX Ac.cs 7 Ac.Li w xsA xsl
theorem Ru.Li.keep (w w' : World) (e : Ru) (h : Ru.Li w e) (o : Only [] w w') : Ru.Li w' e := by
  cases e
  exact ⟨h.1.keep o, h.2.keep Ac.Li.keep o⟩
theorem Ru.at_cells {w : World} {A : Option Addr} {i : Nat} {xeo : Int} {xen : Int} {xes : ByteArray} {xeu : ByteArray} {xeA : Option Addr} {xec : Nat} {xel : List Ex} {xsA : Option Addr} {xsc : Nat} {xsl : List Ac} (h : AtX Ru.cs 6 w A i (.mk xeo xen xes xeu xeA xec xel xsA xsc xsl)) :
    ∃ b o, A = some ⟨b, o, none⟩ ∧ b < w.heap.size ∧ w.cell? ⟨b, o + i * 6, none⟩ = some (.int .i64 xeo) ∧ w.cell? ⟨b, o + i * 6 + 1, none⟩ = some (.int .i64 xen) ∧ w.cell? ⟨b, o + i * 6 + 2, none⟩ = some (.string xes) ∧ w.cell? ⟨b, o + i * 6 + 3, none⟩ = some (.string xeu) ∧ w.cell? ⟨b, o + i * 6 + 4, none⟩ = some (.slice xeA xel.length xec) ∧ w.cell? ⟨b, o + i * 6 + 5, none⟩ = some (.slice xsA xsl.length xsc) := by
  obtain ⟨b, o, hA, hb, hc⟩ := h
  exact ⟨b, o, hA, hb, hc 0 _ rfl, hc 1 _ rfl, hc 2 _ rfl, hc 3 _ rfl, hc 4 _ rfl, hc 5 _ rfl⟩
theorem cellsP77 : Tryd.prog.cellsOf 77 = 6 := by kernel_rfl
theorem cellsP75 : Tryd.prog.cellsOf 75 = 1 := by kernel_rfl
theorem open_Ru {H : Type} {enc : TypeId × Value → H} {W : World} {base : Nat} {sp : Nat → Bool} {held : Bool} : ∀ (fuel : Nat) (cs : List Value) (x : DataW H × List MemPlace), DataW.trod enc Tryd.prog W base sp held fuel 77 cs = some x → ∃ e : Ru, cs = e.cs ∧ Ru.Li W e := by
  intro fuel cs x hx
  obtain ⟨xs, n, hn, rfl, hl, hlen, hf⟩ := DataW.trod_struct Tryd.underlying77 hx
  rw [cellsP77] at hl
  obtain ⟨c0, c1, c2, c3, c4, c5, rfl⟩ := listP6 hl
  obtain ⟨y0, y1, rfl⟩ := listP2 (l := xs) (by simpa using hlen)
  have e0 : DataW.trod enc Tryd.prog W base sp held n 24 (([c0, c1, c2, c3, c4, c5].drop 0).take (Tryd.prog.cellsOf 24)) = some y0 := hf 0 _ rfl
  rw [cellsP24] at e0
  have e1 : DataW.trod enc Tryd.prog W base sp held n 75 (([c0, c1, c2, c3, c4, c5].drop 5).take (Tryd.prog.cellsOf 75)) = some y1 := hf 1 _ rfl
  rw [cellsP75] at e1
  obtain ⟨⟨a0, b0, d0, f0, g0, h0, l0⟩, he0, hL0⟩ := open_ex n [c0, c1, c2, c3, c4] y0 e0
  simp [Ex.cs] at he0
  obtain ⟨rfl, rfl, rfl, rfl, rfl⟩ := he0
  obtain ⟨g1, h1, l1, rfl, hl1, hr1, hs1⟩ := open_rowG Ac.cs (fun W e => Ac.Li W e) Tryd.underlying75 cellsP120 (by omega) (fun a => by cases a; rfl) open_Ac (c := c5) e1
  exact ⟨.mk a0 b0 d0 f0 g0 h0 l0 g1 h1 l1, rfl, hL0, ⟨hr1, hs1, hl1⟩⟩
/-- api.Model -/
inductive Md where
  | mk (xn : ByteArray) (xcp : Bool) (xinsA : Option Addr) (xinsc : Nat) (xinsl : List Po) (xoutsA : Option Addr) (xoutsc : Nat) (xoutsl : List Po) (xvarsA : Option Addr) (xvarsc : Nat) (xvarsl : List Se) (xtaA : Option Addr) (xtac : Nat) (xtal : List Ex) (xemitsA : Option Addr) (xemitsc : Nat) (xemitsl : List Em) (xintA : Option Addr) (xintc : Nat) (xintl : List Se) (xextA : Option Addr) (xextc : Nat) (xextl : List Se) (xcon : Int) (xownA : Option Addr) (xownc : Nat) (xownl : List Se) (xpartsA : Option Addr) (xpartsc : Nat) (xpartsl : List Pa) (xlinksA : Option Addr) (xlinksc : Nat) (xlinksl : List Lk) (xrulesA : Option Addr) (xrulesc : Nat) (xrulesl : List Ru)
instance : Inhabited Md := ⟨.mk ⟨#[]⟩ false none 0 [] none 0 [] none 0 [] none 0 [] none 0 [] none 0 [] none 0 [] 0 none 0 [] none 0 [] none 0 [] none 0 []⟩
def Md.cs : Md → List Value
  | .mk xn xcp xinsA xinsc xinsl xoutsA xoutsc xoutsl xvarsA xvarsc xvarsl xtaA xtac xtal xemitsA xemitsc xemitsl xintA xintc xintl xextA xextc xextl xcon xownA xownc xownl xpartsA xpartsc xpartsl xlinksA xlinksc xlinksl xrulesA xrulesc xrulesl => [.string xn, .bool xcp, .slice xinsA xinsl.length xinsc, .slice xoutsA xoutsl.length xoutsc, .slice xvarsA xvarsl.length xvarsc, .slice xtaA xtal.length xtac, .slice xemitsA xemitsl.length xemitsc, .slice xintA xintl.length xintc, .slice xextA xextl.length xextc, .int .i64 xcon, .slice xownA xownl.length xownc, .slice xpartsA xpartsl.length xpartsc, .slice xlinksA xlinksl.length xlinksc, .slice xrulesA xrulesl.length xrulesc]
def Md.val (e : Md) : Value := .agg e.cs.toArray
def Md.n_ : Md → ByteArray
  | .mk xn _xcp _xinsA _xinsc _xinsl _xoutsA _xoutsc _xoutsl _xvarsA _xvarsc _xvarsl _xtaA _xtac _xtal _xemitsA _xemitsc _xemitsl _xintA _xintc _xintl _xextA _xextc _xextl _xcon _xownA _xownc _xownl _xpartsA _xpartsc _xpartsl _xlinksA _xlinksc _xlinksl _xrulesA _xrulesc _xrulesl => xn
def Md.cp_ : Md → Bool
  | .mk _xn xcp _xinsA _xinsc _xinsl _xoutsA _xoutsc _xoutsl _xvarsA _xvarsc _xvarsl _xtaA _xtac _xtal _xemitsA _xemitsc _xemitsl _xintA _xintc _xintl _xextA _xextc _xextl _xcon _xownA _xownc _xownl _xpartsA _xpartsc _xpartsl _xlinksA _xlinksc _xlinksl _xrulesA _xrulesc _xrulesl => xcp
def Md.ins_ : Md → List Po
  | .mk _xn _xcp _xinsA _xinsc xinsl _xoutsA _xoutsc _xoutsl _xvarsA _xvarsc _xvarsl _xtaA _xtac _xtal _xemitsA _xemitsc _xemitsl _xintA _xintc _xintl _xextA _xextc _xextl _xcon _xownA _xownc _xownl _xpartsA _xpartsc _xpartsl _xlinksA _xlinksc _xlinksl _xrulesA _xrulesc _xrulesl => xinsl
def Md.outs_ : Md → List Po
  | .mk _xn _xcp _xinsA _xinsc _xinsl _xoutsA _xoutsc xoutsl _xvarsA _xvarsc _xvarsl _xtaA _xtac _xtal _xemitsA _xemitsc _xemitsl _xintA _xintc _xintl _xextA _xextc _xextl _xcon _xownA _xownc _xownl _xpartsA _xpartsc _xpartsl _xlinksA _xlinksc _xlinksl _xrulesA _xrulesc _xrulesl => xoutsl
def Md.vars_ : Md → List Se
  | .mk _xn _xcp _xinsA _xinsc _xinsl _xoutsA _xoutsc _xoutsl _xvarsA _xvarsc xvarsl _xtaA _xtac _xtal _xemitsA _xemitsc _xemitsl _xintA _xintc _xintl _xextA _xextc _xextl _xcon _xownA _xownc _xownl _xpartsA _xpartsc _xpartsl _xlinksA _xlinksc _xlinksl _xrulesA _xrulesc _xrulesl => xvarsl
def Md.ta_ : Md → List Ex
  | .mk _xn _xcp _xinsA _xinsc _xinsl _xoutsA _xoutsc _xoutsl _xvarsA _xvarsc _xvarsl _xtaA _xtac xtal _xemitsA _xemitsc _xemitsl _xintA _xintc _xintl _xextA _xextc _xextl _xcon _xownA _xownc _xownl _xpartsA _xpartsc _xpartsl _xlinksA _xlinksc _xlinksl _xrulesA _xrulesc _xrulesl => xtal
def Md.emits_ : Md → List Em
  | .mk _xn _xcp _xinsA _xinsc _xinsl _xoutsA _xoutsc _xoutsl _xvarsA _xvarsc _xvarsl _xtaA _xtac _xtal _xemitsA _xemitsc xemitsl _xintA _xintc _xintl _xextA _xextc _xextl _xcon _xownA _xownc _xownl _xpartsA _xpartsc _xpartsl _xlinksA _xlinksc _xlinksl _xrulesA _xrulesc _xrulesl => xemitsl
def Md.int_ : Md → List Se
  | .mk _xn _xcp _xinsA _xinsc _xinsl _xoutsA _xoutsc _xoutsl _xvarsA _xvarsc _xvarsl _xtaA _xtac _xtal _xemitsA _xemitsc _xemitsl _xintA _xintc xintl _xextA _xextc _xextl _xcon _xownA _xownc _xownl _xpartsA _xpartsc _xpartsl _xlinksA _xlinksc _xlinksl _xrulesA _xrulesc _xrulesl => xintl
def Md.ext_ : Md → List Se
  | .mk _xn _xcp _xinsA _xinsc _xinsl _xoutsA _xoutsc _xoutsl _xvarsA _xvarsc _xvarsl _xtaA _xtac _xtal _xemitsA _xemitsc _xemitsl _xintA _xintc _xintl _xextA _xextc xextl _xcon _xownA _xownc _xownl _xpartsA _xpartsc _xpartsl _xlinksA _xlinksc _xlinksl _xrulesA _xrulesc _xrulesl => xextl
def Md.con_ : Md → Int
  | .mk _xn _xcp _xinsA _xinsc _xinsl _xoutsA _xoutsc _xoutsl _xvarsA _xvarsc _xvarsl _xtaA _xtac _xtal _xemitsA _xemitsc _xemitsl _xintA _xintc _xintl _xextA _xextc _xextl xcon _xownA _xownc _xownl _xpartsA _xpartsc _xpartsl _xlinksA _xlinksc _xlinksl _xrulesA _xrulesc _xrulesl => xcon
def Md.own_ : Md → List Se
  | .mk _xn _xcp _xinsA _xinsc _xinsl _xoutsA _xoutsc _xoutsl _xvarsA _xvarsc _xvarsl _xtaA _xtac _xtal _xemitsA _xemitsc _xemitsl _xintA _xintc _xintl _xextA _xextc _xextl _xcon _xownA _xownc xownl _xpartsA _xpartsc _xpartsl _xlinksA _xlinksc _xlinksl _xrulesA _xrulesc _xrulesl => xownl
def Md.parts_ : Md → List Pa
  | .mk _xn _xcp _xinsA _xinsc _xinsl _xoutsA _xoutsc _xoutsl _xvarsA _xvarsc _xvarsl _xtaA _xtac _xtal _xemitsA _xemitsc _xemitsl _xintA _xintc _xintl _xextA _xextc _xextl _xcon _xownA _xownc _xownl _xpartsA _xpartsc xpartsl _xlinksA _xlinksc _xlinksl _xrulesA _xrulesc _xrulesl => xpartsl
def Md.links_ : Md → List Lk
  | .mk _xn _xcp _xinsA _xinsc _xinsl _xoutsA _xoutsc _xoutsl _xvarsA _xvarsc _xvarsl _xtaA _xtac _xtal _xemitsA _xemitsc _xemitsl _xintA _xintc _xintl _xextA _xextc _xextl _xcon _xownA _xownc _xownl _xpartsA _xpartsc _xpartsl _xlinksA _xlinksc xlinksl _xrulesA _xrulesc _xrulesl => xlinksl
def Md.rules_ : Md → List Ru
  | .mk _xn _xcp _xinsA _xinsc _xinsl _xoutsA _xoutsc _xoutsl _xvarsA _xvarsc _xvarsl _xtaA _xtac _xtal _xemitsA _xemitsc _xemitsl _xintA _xintc _xintl _xextA _xextc _xextl _xcon _xownA _xownc _xownl _xpartsA _xpartsc _xpartsl _xlinksA _xlinksc _xlinksl _xrulesA _xrulesc xrulesl => xrulesl
def Md.Li (w : World) : Md → Prop
  | .mk xn _xcp xinsA _xinsc xinsl xoutsA _xoutsc xoutsl xvarsA _xvarsc xvarsl xtaA _xtac xtal xemitsA _xemitsc xemitsl xintA _xintc xintl xextA _xextc xextl xcon xownA _xownc xownl xpartsA _xpartsc xpartsl xlinksA _xlinksc xlinksl xrulesA _xrulesc xrulesl => okS xn ∧ True ∧ RowX Po.cs 3 Po.Li w xinsA xinsl ∧ RowX Po.cs 3 Po.Li w xoutsA xoutsl ∧ RowX Se.cs 6 Se.Li w xvarsA xvarsl ∧ RowL w xtaA xtal ∧ RowX Em.cs 7 Em.Li w xemitsA xemitsl ∧ RowX Se.cs 6 Se.Li w xintA xintl ∧ RowX Se.cs 6 Se.Li w xextA xextl ∧ I64 xcon ∧ RowX Se.cs 6 Se.Li w xownA xownl ∧ RowX Pa.cs 2 Pa.Li w xpartsA xpartsl ∧ RowX Lk.cs 4 Lk.Li w xlinksA xlinksl ∧ RowX Ru.cs 6 Ru.Li w xrulesA xrulesl
theorem Md.Li.keep (w w' : World) (e : Md) (h : Md.Li w e) (o : Only [] w w') : Md.Li w' e := by
  cases e
  exact ⟨h.1, h.2.1, h.2.2.1.keep Po.Li.keep o, h.2.2.2.1.keep Po.Li.keep o, h.2.2.2.2.1.keep Se.Li.keep o, h.2.2.2.2.2.1.keep o, h.2.2.2.2.2.2.1.keep Em.Li.keep o, h.2.2.2.2.2.2.2.1.keep Se.Li.keep o, h.2.2.2.2.2.2.2.2.1.keep Se.Li.keep o, h.2.2.2.2.2.2.2.2.2.1, h.2.2.2.2.2.2.2.2.2.2.1.keep Se.Li.keep o, h.2.2.2.2.2.2.2.2.2.2.2.1.keep Pa.Li.keep o, h.2.2.2.2.2.2.2.2.2.2.2.2.1.keep Lk.Li.keep o, h.2.2.2.2.2.2.2.2.2.2.2.2.2.keep Ru.Li.keep o⟩
theorem Md.at_cells {w : World} {A : Option Addr} {i : Nat} {xn : ByteArray} {xcp : Bool} {xinsA : Option Addr} {xinsc : Nat} {xinsl : List Po} {xoutsA : Option Addr} {xoutsc : Nat} {xoutsl : List Po} {xvarsA : Option Addr} {xvarsc : Nat} {xvarsl : List Se} {xtaA : Option Addr} {xtac : Nat} {xtal : List Ex} {xemitsA : Option Addr} {xemitsc : Nat} {xemitsl : List Em} {xintA : Option Addr} {xintc : Nat} {xintl : List Se} {xextA : Option Addr} {xextc : Nat} {xextl : List Se} {xcon : Int} {xownA : Option Addr} {xownc : Nat} {xownl : List Se} {xpartsA : Option Addr} {xpartsc : Nat} {xpartsl : List Pa} {xlinksA : Option Addr} {xlinksc : Nat} {xlinksl : List Lk} {xrulesA : Option Addr} {xrulesc : Nat} {xrulesl : List Ru} (h : AtX Md.cs 14 w A i (.mk xn xcp xinsA xinsc xinsl xoutsA xoutsc xoutsl xvarsA xvarsc xvarsl xtaA xtac xtal xemitsA xemitsc xemitsl xintA xintc xintl xextA xextc xextl xcon xownA xownc xownl xpartsA xpartsc xpartsl xlinksA xlinksc xlinksl xrulesA xrulesc xrulesl)) :
    ∃ b o, A = some ⟨b, o, none⟩ ∧ b < w.heap.size ∧ w.cell? ⟨b, o + i * 14, none⟩ = some (.string xn) ∧ w.cell? ⟨b, o + i * 14 + 1, none⟩ = some (.bool xcp) ∧ w.cell? ⟨b, o + i * 14 + 2, none⟩ = some (.slice xinsA xinsl.length xinsc) ∧ w.cell? ⟨b, o + i * 14 + 3, none⟩ = some (.slice xoutsA xoutsl.length xoutsc) ∧ w.cell? ⟨b, o + i * 14 + 4, none⟩ = some (.slice xvarsA xvarsl.length xvarsc) ∧ w.cell? ⟨b, o + i * 14 + 5, none⟩ = some (.slice xtaA xtal.length xtac) ∧ w.cell? ⟨b, o + i * 14 + 6, none⟩ = some (.slice xemitsA xemitsl.length xemitsc) ∧ w.cell? ⟨b, o + i * 14 + 7, none⟩ = some (.slice xintA xintl.length xintc) ∧ w.cell? ⟨b, o + i * 14 + 8, none⟩ = some (.slice xextA xextl.length xextc) ∧ w.cell? ⟨b, o + i * 14 + 9, none⟩ = some (.int .i64 xcon) ∧ w.cell? ⟨b, o + i * 14 + 10, none⟩ = some (.slice xownA xownl.length xownc) ∧ w.cell? ⟨b, o + i * 14 + 11, none⟩ = some (.slice xpartsA xpartsl.length xpartsc) ∧ w.cell? ⟨b, o + i * 14 + 12, none⟩ = some (.slice xlinksA xlinksl.length xlinksc) ∧ w.cell? ⟨b, o + i * 14 + 13, none⟩ = some (.slice xrulesA xrulesl.length xrulesc) := by
  obtain ⟨b, o, hA, hb, hc⟩ := h
  exact ⟨b, o, hA, hb, hc 0 _ rfl, hc 1 _ rfl, hc 2 _ rfl, hc 3 _ rfl, hc 4 _ rfl, hc 5 _ rfl, hc 6 _ rfl, hc 7 _ rfl, hc 8 _ rfl, hc 9 _ rfl, hc 10 _ rfl, hc 11 _ rfl, hc 12 _ rfl, hc 13 _ rfl⟩
theorem cellsP70 : Tryd.prog.cellsOf 70 = 14 := by kernel_rfl
theorem cellsP4 : Tryd.prog.cellsOf 4 = 1 := by kernel_rfl
theorem cellsP63 : Tryd.prog.cellsOf 63 = 1 := by kernel_rfl
theorem cellsP64 : Tryd.prog.cellsOf 64 = 1 := by kernel_rfl
theorem cellsP65 : Tryd.prog.cellsOf 65 = 1 := by kernel_rfl
theorem cellsP66 : Tryd.prog.cellsOf 66 = 1 := by kernel_rfl
theorem cellsP67 : Tryd.prog.cellsOf 67 = 1 := by kernel_rfl
theorem cellsP68 : Tryd.prog.cellsOf 68 = 1 := by kernel_rfl
theorem open_Md {H : Type} {enc : TypeId × Value → H} {W : World} {base : Nat} {sp : Nat → Bool} {held : Bool} : ∀ (fuel : Nat) (cs : List Value) (x : DataW H × List MemPlace), DataW.trod enc Tryd.prog W base sp held fuel 70 cs = some x → ∃ e : Md, cs = e.cs ∧ Md.Li W e := by
  intro fuel cs x hx
  obtain ⟨xs, n, hn, rfl, hl, hlen, hf⟩ := DataW.trod_struct Tryd.underlying70 hx
  rw [cellsP70] at hl
  obtain ⟨c0, c1, c2, c3, c4, c5, c6, c7, c8, c9, c10, c11, c12, c13, rfl⟩ := listP14 hl
  obtain ⟨y0, y1, y2, y3, y4, y5, y6, y7, y8, y9, y10, y11, y12, y13, rfl⟩ := listP14 (l := xs) (by simpa using hlen)
  have e0 : DataW.trod enc Tryd.prog W base sp held n 9 (([c0, c1, c2, c3, c4, c5, c6, c7, c8, c9, c10, c11, c12, c13].drop 0).take (Tryd.prog.cellsOf 9)) = some y0 := hf 0 _ rfl
  rw [cellsP9] at e0
  have e1 : DataW.trod enc Tryd.prog W base sp held n 4 (([c0, c1, c2, c3, c4, c5, c6, c7, c8, c9, c10, c11, c12, c13].drop 1).take (Tryd.prog.cellsOf 4)) = some y1 := hf 1 _ rfl
  rw [cellsP4] at e1
  have e2 : DataW.trod enc Tryd.prog W base sp held n 63 (([c0, c1, c2, c3, c4, c5, c6, c7, c8, c9, c10, c11, c12, c13].drop 2).take (Tryd.prog.cellsOf 63)) = some y2 := hf 2 _ rfl
  rw [cellsP63] at e2
  have e3 : DataW.trod enc Tryd.prog W base sp held n 63 (([c0, c1, c2, c3, c4, c5, c6, c7, c8, c9, c10, c11, c12, c13].drop 3).take (Tryd.prog.cellsOf 63)) = some y3 := hf 3 _ rfl
  rw [cellsP63] at e3
  have e4 : DataW.trod enc Tryd.prog W base sp held n 64 (([c0, c1, c2, c3, c4, c5, c6, c7, c8, c9, c10, c11, c12, c13].drop 4).take (Tryd.prog.cellsOf 64)) = some y4 := hf 4 _ rfl
  rw [cellsP64] at e4
  have e5 : DataW.trod enc Tryd.prog W base sp held n 22 (([c0, c1, c2, c3, c4, c5, c6, c7, c8, c9, c10, c11, c12, c13].drop 5).take (Tryd.prog.cellsOf 22)) = some y5 := hf 5 _ rfl
  rw [cellsP22] at e5
  have e6 : DataW.trod enc Tryd.prog W base sp held n 65 (([c0, c1, c2, c3, c4, c5, c6, c7, c8, c9, c10, c11, c12, c13].drop 6).take (Tryd.prog.cellsOf 65)) = some y6 := hf 6 _ rfl
  rw [cellsP65] at e6
  have e7 : DataW.trod enc Tryd.prog W base sp held n 64 (([c0, c1, c2, c3, c4, c5, c6, c7, c8, c9, c10, c11, c12, c13].drop 7).take (Tryd.prog.cellsOf 64)) = some y7 := hf 7 _ rfl
  rw [cellsP64] at e7
  have e8 : DataW.trod enc Tryd.prog W base sp held n 64 (([c0, c1, c2, c3, c4, c5, c6, c7, c8, c9, c10, c11, c12, c13].drop 8).take (Tryd.prog.cellsOf 64)) = some y8 := hf 8 _ rfl
  rw [cellsP64] at e8
  have e9 : DataW.trod enc Tryd.prog W base sp held n 3 (([c0, c1, c2, c3, c4, c5, c6, c7, c8, c9, c10, c11, c12, c13].drop 9).take (Tryd.prog.cellsOf 3)) = some y9 := hf 9 _ rfl
  rw [cellsP3] at e9
  have e10 : DataW.trod enc Tryd.prog W base sp held n 64 (([c0, c1, c2, c3, c4, c5, c6, c7, c8, c9, c10, c11, c12, c13].drop 10).take (Tryd.prog.cellsOf 64)) = some y10 := hf 10 _ rfl
  rw [cellsP64] at e10
  have e11 : DataW.trod enc Tryd.prog W base sp held n 66 (([c0, c1, c2, c3, c4, c5, c6, c7, c8, c9, c10, c11, c12, c13].drop 11).take (Tryd.prog.cellsOf 66)) = some y11 := hf 11 _ rfl
  rw [cellsP66] at e11
  have e12 : DataW.trod enc Tryd.prog W base sp held n 67 (([c0, c1, c2, c3, c4, c5, c6, c7, c8, c9, c10, c11, c12, c13].drop 12).take (Tryd.prog.cellsOf 67)) = some y12 := hf 12 _ rfl
  rw [cellsP67] at e12
  have e13 : DataW.trod enc Tryd.prog W base sp held n 68 (([c0, c1, c2, c3, c4, c5, c6, c7, c8, c9, c10, c11, c12, c13].drop 13).take (Tryd.prog.cellsOf 68)) = some y13 := hf 13 _ rfl
  rw [cellsP68] at e13
  obtain ⟨s0, q0, _, w0⟩ := DataW.trod_string Tryd.underlying9 (show DataW.trod enc Tryd.prog W base sp held n 9 [c0] = some y0 from e0)
  simp at q0
  subst q0
  unfold maxLen at w0
  obtain ⟨s1, q1, _⟩ := DataW.trod_bool Tryd.underlying4 (show DataW.trod enc Tryd.prog W base sp held n 4 [c1] = some y1 from e1)
  simp at q1
  subst q1
  obtain ⟨g2, h2, l2, rfl, hl2, hr2, hs2⟩ := open_rowG Po.cs (fun W e => Po.Li W e) Tryd.underlying63 cellsP95 (by omega) (fun a => by cases a; rfl) open_Po (c := c2) e2
  obtain ⟨g3, h3, l3, rfl, hl3, hr3, hs3⟩ := open_rowG Po.cs (fun W e => Po.Li W e) Tryd.underlying63 cellsP95 (by omega) (fun a => by cases a; rfl) open_Po (c := c3) e3
  obtain ⟨g4, h4, l4, rfl, hl4, hr4, hs4⟩ := open_rowG Se.cs (fun W e => Se.Li W e) Tryd.underlying64 cellsP97 (by omega) (fun a => by cases a; rfl) open_Se (c := c4) e4
  obtain ⟨g5, h5, l5, rfl, hl5, hr5, hs5⟩ := open_rowG Ex.cs (fun W e => Lies W e) Tryd.underlying22 cells24 (by omega) (fun a => by cases a; rfl) open_ex (c := c5) e5
  obtain ⟨g6, h6, l6, rfl, hl6, hr6, hs6⟩ := open_rowG Em.cs (fun W e => Em.Li W e) Tryd.underlying65 cellsP74 (by omega) (fun a => by cases a; rfl) open_Em (c := c6) e6
  obtain ⟨g7, h7, l7, rfl, hl7, hr7, hs7⟩ := open_rowG Se.cs (fun W e => Se.Li W e) Tryd.underlying64 cellsP97 (by omega) (fun a => by cases a; rfl) open_Se (c := c7) e7
  obtain ⟨g8, h8, l8, rfl, hl8, hr8, hs8⟩ := open_rowG Se.cs (fun W e => Se.Li W e) Tryd.underlying64 cellsP97 (by omega) (fun a => by cases a; rfl) open_Se (c := c8) e8
  obtain ⟨s9, q9, _, w9⟩ := DataW.trod_int Tryd.underlying3 (show DataW.trod enc Tryd.prog W base sp held n 3 [c9] = some y9 from e9)
  simp at q9
  subst q9
  obtain ⟨g10, h10, l10, rfl, hl10, hr10, hs10⟩ := open_rowG Se.cs (fun W e => Se.Li W e) Tryd.underlying64 cellsP97 (by omega) (fun a => by cases a; rfl) open_Se (c := c10) e10
  obtain ⟨g11, h11, l11, rfl, hl11, hr11, hs11⟩ := open_rowG Pa.cs (fun W e => Pa.Li W e) Tryd.underlying66 cellsP106 (by omega) (fun a => by cases a; rfl) open_Pa (c := c11) e11
  obtain ⟨g12, h12, l12, rfl, hl12, hr12, hs12⟩ := open_rowG Lk.cs (fun W e => Lk.Li W e) Tryd.underlying67 cellsP112 (by omega) (fun a => by cases a; rfl) open_Lk (c := c12) e12
  obtain ⟨g13, h13, l13, rfl, hl13, hr13, hs13⟩ := open_rowG Ru.cs (fun W e => Ru.Li W e) Tryd.underlying68 cellsP77 (by omega) (fun a => by cases a; rfl) open_Ru (c := c13) e13
  exact ⟨.mk s0 s1 g2 h2 l2 g3 h3 l3 g4 h4 l4 g5 h5 l5 g6 h6 l6 g7 h7 l7 g8 h8 l8 s9 g10 h10 l10 g11 h11 l11 g12 h12 l12 g13 h13 l13, rfl, (by unfold okS; omega), trivial, ⟨hr2, hs2, hl2⟩, ⟨hr3, hs3, hl3⟩, ⟨hr4, hs4, hl4⟩, ⟨hr5, hs5, hl5⟩, ⟨hr6, hs6, hl6⟩, ⟨hr7, hs7, hl7⟩, ⟨hr8, hs8, hl8⟩, i64_of w9, ⟨hr10, hs10, hl10⟩, ⟨hr11, hs11, hl11⟩, ⟨hr12, hs12, hl12⟩, ⟨hr13, hs13, hl13⟩⟩
theorem cellsP39 : Tryd.prog.cellsOf 39 = 2 := by kernel_rfl
theorem cellsP37 : Tryd.prog.cellsOf 37 = 1 := by kernel_rfl
theorem open_prog {H : Type} {enc : TypeId × Value → H} {W : World} {base : Nat} {v : Value} {d : DataW H} {p : List MemPlace} (hv : Value.okWide Tryd.prog W .any base 39 v) (h : DataW.Trod enc Tryd.prog W 0 (fun _ => true) true 39 v d p) :
    ∃ A c l s, v = .agg #[.slice A (List.length (α := Md) l) c, .string s] ∧ RowX Md.cs 14 Md.Li W A l ∧ okS s := by
  obtain ⟨cs, rfl, hsz⟩ := okWide_struct Tryd.underlying39 hv
  obtain ⟨fuel, hf0⟩ := h
  obtain ⟨xs, n, hn, _, hl, hlen, hf⟩ := DataW.trod_struct Tryd.underlying39 hf0
  rw [cellsP39] at hl
  rw [show (Value.agg cs).cells = cs from rfl] at hl
  obtain ⟨c0, c1, hcs⟩ := listP2 (l := cs.toList) (by simpa using hl)
  rw [show (Value.agg cs).cells = cs from rfl, hcs] at hf
  obtain ⟨y0, y1, rfl⟩ := listP2 (l := xs) (by simpa using hlen)
  have e0 : DataW.trod enc Tryd.prog W 0 (fun _ => true) true n 37 (([c0, c1].drop 0).take (Tryd.prog.cellsOf 37)) = some y0 := hf 0 _ rfl
  have e1 : DataW.trod enc Tryd.prog W 0 (fun _ => true) true n 9 (([c0, c1].drop 1).take (Tryd.prog.cellsOf 9)) = some y1 := hf 1 _ rfl
  rw [cellsP37] at e0
  rw [cellsP9] at e1
  obtain ⟨A, c, l, rfl, hl1, hr, hs⟩ := open_rowG Md.cs (fun W e => Md.Li W e) Tryd.underlying37 cellsP70 (by omega) (fun a => by cases a; rfl) open_Md (c := c0) e0
  obtain ⟨s, q1, _, w1⟩ := DataW.trod_string Tryd.underlying9 (show DataW.trod enc Tryd.prog W 0 (fun _ => true) true n 9 [c1] = some y1 from e1)
  simp at q1
  subst q1
  unfold maxLen at w1
  refine ⟨A, c, l, s, ?_, ⟨hr, hs, hl1⟩, by unfold okS; omega⟩
  congr 1
  apply Array.ext'
  rw [hcs]
end Go.Proofs.YtfnacnlaphpflaaDoor
