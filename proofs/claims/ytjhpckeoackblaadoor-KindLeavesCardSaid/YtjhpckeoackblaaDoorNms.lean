/- Names: where they lie. -/
import Derived.Test.YtjhpckeoackblaaDoorKind
namespace Go.Proofs.YtjhpckeoackblaaDoor
open Go.ChangeShapes Go.WideShapes Go.ChangeAt Go.RowKit Go.Deep Go.Kx
open Go.Val (Tt)
set_option maxRecDepth 100000
theorem open_rowG {α : Type} [Inhabited α] (cs : α → List Value) (Li : World → α → Prop) {H : Type} {enc : TypeId × Value → H} {W : World} {base : Nat} {sp : Nat → Bool} {held : Bool} {T E : TypeId} {K : Nat} (hT : Tryd.prog.underlying T = some (.slice E)) (hK : Tryd.prog.cellsOf E = K) (h0 : 0 < K) (hcs : ∀ a, (cs a).length = K)
    (el : ∀ fuel c x, DataW.trod enc Tryd.prog W base sp held fuel E c = some x → ∃ a, c = cs a ∧ Li W a) {n : Nat} {c : Value} {y : DataW H × List MemPlace} (h : DataW.trod enc Tryd.prog W base sp held n T [c] = some y) :
    ∃ (A : Option Addr) (cap : Nat) (l : List α), c = .slice A l.length cap ∧ l.length ≤ 9223372036854775807 ∧ (∀ i e, l[i]? = some e → ∃ b o, A = some ⟨b, o, none⟩ ∧ b < W.heap.size ∧ ∀ j v, (cs e)[j]? = some v → W.cell? ⟨b, o + i * K + j, none⟩ = some v) ∧ ∀ e ∈ l, Li W e := by
  rcases DataW.trod_slice hT h with ⟨hc, _⟩ | ⟨a, len, cap, elems, rest, k, hk, hc, _, _, hlc, hcm, hel, hat, _⟩
  · simp at hc
    subst hc
    exact ⟨none, 0, [], rfl, by simp, fun i e he => by simp at he, fun e he => by simp at he⟩
  · simp at hc
    subst hc
    rw [hK] at hat
    have H : ∀ i, i < len → ∃ e : α, Li W e ∧ ∀ j v, (cs e)[j]? = some v → W.cell? ((a.add (i * K)).add j) = some v := fun i hi => by
      have h := hat i hi
      rw [List.getElem?_eq_getElem (by omega)] at h
      obtain ⟨cs', hc', ht⟩ := Option.bind_eq_some_iff.1 h
      obtain ⟨e, rfl, hL⟩ := el _ cs' _ ht
      obtain ⟨_, hcl, hatc⟩ := World.cells?_some hc'
      refine ⟨e, hL, fun j v hv => ?_⟩
      have hj : j < (cs e).length := (List.getElem?_eq_some_iff.1 hv).1
      have := hatc j (by omega)
      rw [this]
      simpa using hv
    let f (i : Nat) : α := if h : i < len then Classical.choose (H i h) else default
    have hfi : ∀ i (h : i < len), Li W (f i) ∧ ∀ j v, (cs (f i))[j]? = some v → W.cell? ((a.add (i * K)).add j) = some v := fun i h => by
      simp only [f, dif_pos h]
      exact Classical.choose_spec (H i h)
    have hlenr : ((List.range len).map f).length = len := by simp
    have hz : ∀ e : α, ∃ v, (cs e)[0]? = some v := fun e => ⟨_, List.getElem?_eq_getElem (by rw [hcs]; exact h0)⟩
    refine ⟨some a, cap, (List.range len).map f, by simp, by rw [hlenr]; unfold maxLen at hcm; omega, fun i e he => ?_, fun e he => ?_⟩
    · have hi : i < len := by have := (List.getElem?_eq_some_iff.1 he).1; omega
      rw [List.getElem?_map, List.getElem?_range hi] at he
      simp at he
      subst he
      have h0' : ∃ v0, W.cell? (a.add 0) = some v0 := by
        obtain ⟨_, g⟩ := hfi 0 (by omega)
        obtain ⟨v, hv⟩ := hz (f 0)
        have := g 0 v hv
        rw [Go.Deep.add_add] at this
        exact ⟨v, by simpa using this⟩
      obtain ⟨_, g⟩ := hfi i hi
      have key : ∀ j v, (cs (f i))[j]? = some v → some a = some ⟨a.block, a.off, none⟩ ∧ a.block < W.heap.size ∧ W.cell? ⟨a.block, a.off + i * K + j, none⟩ = some v := fun j v hv => by
        have h := g j v hv
        rw [Go.Deep.add_add] at h
        have q := cell_add h h0'
        exact ⟨by rw [← q.1], q.2.1, by simpa [Nat.add_assoc] using q.2.2⟩
      obtain ⟨v, hv⟩ := hz (f i)
      obtain ⟨k1, k2, _⟩ := key 0 v hv
      exact ⟨a.block, a.off, k1, k2, fun j v hv => (key j v hv).2.2⟩
    · obtain ⟨i, hi, rfl⟩ := List.mem_map.1 he
      exact (hfi i (List.mem_range.1 hi)).1
theorem list3 {α : Type} {l : List α} (h : l.length = 3) : ∃ a b c, l = [a, b, c] := by
  match l, h with
  | [a, b, c], _ => exact ⟨a, b, c, rfl⟩
theorem cellsTY66 : Tryd.prog.cellsOf 66 = 4 := by kernel_rfl
theorem cellsTY68 : Tryd.prog.cellsOf 68 = 3 := by kernel_rfl
theorem cellsTY28 : Tryd.prog.cellsOf 28 = 4 := by kernel_rfl
theorem cellsTY25 : Tryd.prog.cellsOf 25 = 1 := by kernel_rfl
theorem cellsTY26 : Tryd.prog.cellsOf 26 = 1 := by kernel_rfl
theorem cellsTY4 : Tryd.prog.cellsOf 4 = 1 := by kernel_rfl
/-- one that stands in a row -/
inductive Vr where
  | mk (p s : ByteArray) (k : Int) (A : Option Addr) (cap : Nat) (l : List Tx)
instance : Inhabited Vr := ⟨.mk ⟨#[]⟩ ⟨#[]⟩ 0 none 0 []⟩
def Vr.cs : Vr → List Value
  | .mk p s k A cap l => [.string p, .string s, .int .i64 k, .slice A l.length cap]
def Vr.val (e : Vr) : Value := .agg e.cs.toArray
def Vr.t : Vr → Tx
  | .mk _ _ k A cap l => .mk k A cap l
def Vr.tr : Vr → ByteArray × ByteArray × Tt
  | .mk p s k A cap l => (p, s, (Tx.mk k A cap l).tr)
def Vr.p : Vr → ByteArray
  | .mk p _ _ _ _ _ => p
def Vr.s : Vr → ByteArray
  | .mk _ s _ _ _ _ => s
/-- its cells, at a place of a row -/
def AtVr (w : World) (A : Option Addr) (i : Nat) (e : Vr) : Prop :=
  ∃ b o, A = some ⟨b, o, none⟩ ∧ b < w.heap.size ∧ ∀ j v, e.cs[j]? = some v → w.cell? ⟨b, o + i * 4 + j, none⟩ = some v
theorem AtVr.cells {w : World} {A : Option Addr} {i : Nat} {p s : ByteArray} {k : Int} {B : Option Addr} {cap : Nat} {l : List Tx} (h : AtVr w A i (.mk p s k B cap l)) :
    ∃ b o, A = some ⟨b, o, none⟩ ∧ b < w.heap.size ∧ w.cell? ⟨b, o + i * 4, none⟩ = some (.string p) ∧ w.cell? ⟨b, o + i * 4 + 1, none⟩ = some (.string s) ∧ w.cell? ⟨b, o + i * 4 + 2, none⟩ = some (.int .i64 k) ∧ w.cell? ⟨b, o + i * 4 + 3, none⟩ = some (.slice B l.length cap) := by
  obtain ⟨b, o, hA, hb, hc⟩ := h
  exact ⟨b, o, hA, hb, hc 0 _ rfl, hc 1 _ rfl, hc 2 _ rfl, hc 3 _ rfl⟩
/-- a row of them -/
structure RowVr (w : World) (A : Option Addr) (l : List Vr) : Prop where
  row : ∀ i e, l[i]? = some e → AtVr w A i e
  sub : ∀ e ∈ l, LiesT w e.t ∧ e.p.size ≤ 9223372036854775807 ∧ e.s.size ≤ 9223372036854775807
  len : l.length ≤ 9223372036854775807
theorem AtVr.only {S : List Nat} {w w' : World} {A : Option Addr} {i : Nat} {e : Vr} (h : AtVr w A i e) (o : Only S w w') (hA : ∀ p, A = some p → p.block ∉ S) : AtVr w' A i e := by
  obtain ⟨b, f, rfl, hb, hc⟩ := h
  exact ⟨b, f, rfl, Nat.lt_of_lt_of_le hb o.size, fun j v hv => (o.cell (p := ⟨b, f + i * 4 + j, none⟩) hb (show b ∉ S from hA _ rfl)).trans (hc j v hv)⟩
theorem AtVr.keep {w w' : World} {A : Option Addr} {i : Nat} {e : Vr} (h : AtVr w A i e) (o : Only [] w w') : AtVr w' A i e := h.only o (by simp)
theorem RowVr.keep {w w' : World} {A : Option Addr} {l : List Vr} (h : RowVr w A l) (o : Only [] w w') : RowVr w' A l :=
  ⟨fun i e he => (h.row i e he).keep o, fun e he => ⟨(h.sub e he).1.keep o, (h.sub e he).2⟩, h.len⟩
theorem open_Vr {H : Type} {enc : TypeId × Value → H} {W : World} {base : Nat} {sp : Nat → Bool} {held : Bool} : ∀ (fuel : Nat) (cs : List Value) (x : DataW H × List MemPlace), DataW.trod enc Tryd.prog W base sp held fuel 66 cs = some x → ∃ e : Vr, cs = e.cs ∧ (LiesT W e.t ∧ e.p.size ≤ 9223372036854775807 ∧ e.s.size ≤ 9223372036854775807) := by
  intro fuel cs x hx
  obtain ⟨xs, n, hn, rfl, hl, hlen, hf⟩ := DataW.trod_struct Tryd.underlying66 hx
  rw [cellsTY66] at hl
  obtain ⟨c0, c1, c2, c3, rfl⟩ := list4 hl
  obtain ⟨y0, y1, y2, rfl⟩ := list3 (l := xs) (by simpa using hlen)
  have e0 : DataW.trod enc Tryd.prog W base sp held n 9 (([c0, c1, c2, c3].drop 0).take (Tryd.prog.cellsOf 9)) = some y0 := hf 0 _ rfl
  have e1 : DataW.trod enc Tryd.prog W base sp held n 9 (([c0, c1, c2, c3].drop 1).take (Tryd.prog.cellsOf 9)) = some y1 := hf 1 _ rfl
  have e2 : DataW.trod enc Tryd.prog W base sp held n 34 (([c0, c1, c2, c3].drop 2).take (Tryd.prog.cellsOf 34)) = some y2 := hf 2 _ rfl
  rw [cells9] at e0 e1
  rw [cellsT] at e2
  obtain ⟨s0, q0, _, w0⟩ := DataW.trod_string Tryd.underlying9 (show DataW.trod enc Tryd.prog W base sp held n 9 [c0] = some y0 from e0)
  obtain ⟨s1, q1, _, w1⟩ := DataW.trod_string Tryd.underlying9 (show DataW.trod enc Tryd.prog W base sp held n 9 [c1] = some y1 from e1)
  obtain ⟨⟨k, A, cap, l⟩, he, hL⟩ := open_Tx n [c2, c3] y2 e2
  simp at q0 q1
  subst q0 q1
  simp [Tx.cs] at he
  obtain ⟨rfl, rfl⟩ := he
  unfold maxLen at w0 w1
  exact ⟨.mk s0 s1 k A cap l, rfl, hL, by show s0.size ≤ _; omega, by show s1.size ≤ _; omega⟩
/-- one that stands in a row -/
inductive Pr where
  | mk (s : ByteArray) (k : Int) (A : Option Addr) (cap : Nat) (l : List Tx)
instance : Inhabited Pr := ⟨.mk ⟨#[]⟩ 0 none 0 []⟩
def Pr.cs : Pr → List Value
  | .mk s k A cap l => [.string s, .int .i64 k, .slice A l.length cap]
def Pr.val (e : Pr) : Value := .agg e.cs.toArray
def Pr.t : Pr → Tx
  | .mk _ k A cap l => .mk k A cap l
def Pr.tr : Pr → ByteArray × Tt
  | .mk s k A cap l => (s, (Tx.mk k A cap l).tr)
def Pr.s : Pr → ByteArray
  | .mk s _ _ _ _ => s
/-- its cells, at a place of a row -/
def AtPr (w : World) (A : Option Addr) (i : Nat) (e : Pr) : Prop :=
  ∃ b o, A = some ⟨b, o, none⟩ ∧ b < w.heap.size ∧ ∀ j v, e.cs[j]? = some v → w.cell? ⟨b, o + i * 3 + j, none⟩ = some v
theorem AtPr.cells {w : World} {A : Option Addr} {i : Nat} {s : ByteArray} {k : Int} {B : Option Addr} {cap : Nat} {l : List Tx} (h : AtPr w A i (.mk s k B cap l)) :
    ∃ b o, A = some ⟨b, o, none⟩ ∧ b < w.heap.size ∧ w.cell? ⟨b, o + i * 3, none⟩ = some (.string s) ∧ w.cell? ⟨b, o + i * 3 + 1, none⟩ = some (.int .i64 k) ∧ w.cell? ⟨b, o + i * 3 + 2, none⟩ = some (.slice B l.length cap) := by
  obtain ⟨b, o, hA, hb, hc⟩ := h
  exact ⟨b, o, hA, hb, hc 0 _ rfl, hc 1 _ rfl, hc 2 _ rfl⟩
/-- a row of them -/
structure RowPr (w : World) (A : Option Addr) (l : List Pr) : Prop where
  row : ∀ i e, l[i]? = some e → AtPr w A i e
  sub : ∀ e ∈ l, LiesT w e.t ∧ e.s.size ≤ 9223372036854775807
  len : l.length ≤ 9223372036854775807
theorem AtPr.only {S : List Nat} {w w' : World} {A : Option Addr} {i : Nat} {e : Pr} (h : AtPr w A i e) (o : Only S w w') (hA : ∀ p, A = some p → p.block ∉ S) : AtPr w' A i e := by
  obtain ⟨b, f, rfl, hb, hc⟩ := h
  exact ⟨b, f, rfl, Nat.lt_of_lt_of_le hb o.size, fun j v hv => (o.cell (p := ⟨b, f + i * 3 + j, none⟩) hb (show b ∉ S from hA _ rfl)).trans (hc j v hv)⟩
theorem AtPr.keep {w w' : World} {A : Option Addr} {i : Nat} {e : Pr} (h : AtPr w A i e) (o : Only [] w w') : AtPr w' A i e := h.only o (by simp)
theorem RowPr.keep {w w' : World} {A : Option Addr} {l : List Pr} (h : RowPr w A l) (o : Only [] w w') : RowPr w' A l :=
  ⟨fun i e he => (h.row i e he).keep o, fun e he => ⟨(h.sub e he).1.keep o, (h.sub e he).2⟩, h.len⟩
theorem open_Pr {H : Type} {enc : TypeId × Value → H} {W : World} {base : Nat} {sp : Nat → Bool} {held : Bool} : ∀ (fuel : Nat) (cs : List Value) (x : DataW H × List MemPlace), DataW.trod enc Tryd.prog W base sp held fuel 68 cs = some x → ∃ e : Pr, cs = e.cs ∧ (LiesT W e.t ∧ e.s.size ≤ 9223372036854775807) := by
  intro fuel cs x hx
  obtain ⟨xs, n, hn, rfl, hl, hlen, hf⟩ := DataW.trod_struct Tryd.underlying68 hx
  rw [cellsTY68] at hl
  obtain ⟨c0, c1, c2, rfl⟩ := list3 hl
  obtain ⟨y0, y1, rfl⟩ := list2 (l := xs) (by simpa using hlen)
  have e0 : DataW.trod enc Tryd.prog W base sp held n 9 (([c0, c1, c2].drop 0).take (Tryd.prog.cellsOf 9)) = some y0 := hf 0 _ rfl
  have e1 : DataW.trod enc Tryd.prog W base sp held n 34 (([c0, c1, c2].drop 1).take (Tryd.prog.cellsOf 34)) = some y1 := hf 1 _ rfl
  rw [cells9] at e0
  rw [cellsT] at e1
  obtain ⟨s0, q0, _, w0⟩ := DataW.trod_string Tryd.underlying9 (show DataW.trod enc Tryd.prog W base sp held n 9 [c0] = some y0 from e0)
  obtain ⟨⟨k, A, cap, l⟩, he, hL⟩ := open_Tx n [c1, c2] y1 e1
  simp at q0
  subst q0
  simp [Tx.cs] at he
  obtain ⟨rfl, rfl⟩ := he
  unfold maxLen at w0
  exact ⟨.mk s0 k A cap l, rfl, hL, by show s0.size ≤ _; omega⟩
/-- names -/
inductive Ns where
  | mk (A1 : Option Addr) (c1 : Nat) (vars : List Vr) (A2 : Option Addr) (c2 : Nat) (ports : List Pr) (bag : Bool) (A3 : Option Addr) (c3 : Nat) (of : List Vr)
def Ns.cs : Ns → List Value
  | .mk A1 c1 vars A2 c2 ports bag A3 c3 of => [.slice A1 vars.length c1, .slice A2 ports.length c2, .bool bag, .slice A3 of.length c3]
def Ns.val (e : Ns) : Value := .agg e.cs.toArray
def Ns.tr : Ns → Nm
  | .mk _ _ vars _ _ ports bag _ _ of => ⟨vars.map Vr.tr, ports.map Pr.tr, bag, of.map Vr.tr⟩
structure LiesN (w : World) (A1 : Option Addr) (vars : List Vr) (A2 : Option Addr) (ports : List Pr) (A3 : Option Addr) (of : List Vr) : Prop where
  vars : RowVr w A1 vars
  ports : RowPr w A2 ports
  of : RowVr w A3 of
theorem LiesN.keep {w w' : World} {A1 : Option Addr} {vars : List Vr} {A2 : Option Addr} {ports : List Pr} {A3 : Option Addr} {of : List Vr} (h : LiesN w A1 vars A2 ports A3 of) (o : Only [] w w') : LiesN w' A1 vars A2 ports A3 of := ⟨h.vars.keep o, h.ports.keep o, h.of.keep o⟩
/-- all its types lie below B -/
structure LowN (B : Nat) (vars : List Vr) (ports : List Pr) (of : List Vr) : Prop where
  vars : ∀ v ∈ vars, ∀ b ∈ v.t.bks, b < B
  ports : ∀ v ∈ ports, ∀ b ∈ v.t.bks, b < B
  of : ∀ v ∈ of, ∀ b ∈ v.t.bks, b < B
theorem LiesN.low {w : World} {A1 : Option Addr} {vars : List Vr} {A2 : Option Addr} {ports : List Pr} {A3 : Option Addr} {of : List Vr} (h : LiesN w A1 vars A2 ports A3 of) : LowN w.heap.size vars ports of :=
  ⟨fun v hv => (h.vars.sub v hv).1.lt, fun v hv => (h.ports.sub v hv).1.lt, fun v hv => (h.of.sub v hv).1.lt⟩
theorem rowVr_of {T : TypeId} (hT : Tryd.prog.underlying T = some (.slice 66)) {H : Type} {enc : TypeId × Value → H} {W : World} {base : Nat} {sp : Nat → Bool} {held : Bool} {n : Nat} {c : Value} {y : DataW H × List MemPlace} (h : DataW.trod enc Tryd.prog W base sp held n T [c] = some y) :
    ∃ A cap l, c = .slice A (List.length l) cap ∧ RowVr W A l := by
  obtain ⟨A, cap, l, hc, hl, hr, hs⟩ := open_rowG Vr.cs (fun W e => LiesT W e.t ∧ e.p.size ≤ 9223372036854775807 ∧ e.s.size ≤ 9223372036854775807) hT cellsTY66 (by omega) (fun a => by cases a; rfl) open_Vr h
  exact ⟨A, cap, l, hc, hr, hs, hl⟩
theorem rowPr_of {T : TypeId} (hT : Tryd.prog.underlying T = some (.slice 68)) {H : Type} {enc : TypeId × Value → H} {W : World} {base : Nat} {sp : Nat → Bool} {held : Bool} {n : Nat} {c : Value} {y : DataW H × List MemPlace} (h : DataW.trod enc Tryd.prog W base sp held n T [c] = some y) :
    ∃ A cap l, c = .slice A (List.length l) cap ∧ RowPr W A l := by
  obtain ⟨A, cap, l, hc, hl, hr, hs⟩ := open_rowG Pr.cs (fun W e => LiesT W e.t ∧ e.s.size ≤ 9223372036854775807) hT cellsTY68 (by omega) (fun a => by cases a; rfl) open_Pr h
  exact ⟨A, cap, l, hc, hr, hs, hl⟩
theorem open_argN {H : Type} {enc : TypeId × Value → H} {W : World} {base : Nat} {v : Value} {d : DataW H} {p : List MemPlace} (hv : Value.okWide Tryd.prog W .any base 28 v) (h : DataW.Trod enc Tryd.prog W 0 (fun _ => true) true 28 v d p) :
    ∃ A1 c1 vars A2 c2 ports bag A3 c3 of, v = .agg #[.slice A1 (List.length vars) c1, .slice A2 (List.length ports) c2, .bool bag, .slice A3 (List.length of) c3] ∧ LiesN W A1 vars A2 ports A3 of := by
  obtain ⟨cs, rfl, hsz⟩ := okWide_struct Tryd.underlying28 hv
  obtain ⟨fuel, hf0⟩ := h
  obtain ⟨xs, n, hn, _, hl, hlen, hf⟩ := DataW.trod_struct Tryd.underlying28 hf0
  rw [cellsTY28] at hl
  rw [show (Value.agg cs).cells = cs from rfl] at hl
  obtain ⟨c0, c1, c2, c3, hcs⟩ := list4 (l := cs.toList) (by simpa using hl)
  rw [show (Value.agg cs).cells = cs from rfl, hcs] at hf
  obtain ⟨y0, y1, y2, y3, rfl⟩ := list4 (l := xs) (by simpa using hlen)
  have e0 : DataW.trod enc Tryd.prog W 0 (fun _ => true) true n 25 (([c0, c1, c2, c3].drop 0).take (Tryd.prog.cellsOf 25)) = some y0 := hf 0 _ rfl
  have e1 : DataW.trod enc Tryd.prog W 0 (fun _ => true) true n 26 (([c0, c1, c2, c3].drop 1).take (Tryd.prog.cellsOf 26)) = some y1 := hf 1 _ rfl
  have e2 : DataW.trod enc Tryd.prog W 0 (fun _ => true) true n 4 (([c0, c1, c2, c3].drop 2).take (Tryd.prog.cellsOf 4)) = some y2 := hf 2 _ rfl
  have e3 : DataW.trod enc Tryd.prog W 0 (fun _ => true) true n 25 (([c0, c1, c2, c3].drop 3).take (Tryd.prog.cellsOf 25)) = some y3 := hf 3 _ rfl
  rw [cellsTY25] at e0 e3
  rw [cellsTY26] at e1
  rw [cellsTY4] at e2
  obtain ⟨A1, k1, vars, rfl, h1⟩ := rowVr_of Tryd.underlying25 (c := c0) e0
  obtain ⟨A2, k2, ports, rfl, h2⟩ := rowPr_of Tryd.underlying26 (c := c1) e1
  obtain ⟨b, q2, _⟩ := DataW.trod_bool Tryd.underlying4 (show DataW.trod enc Tryd.prog W 0 (fun _ => true) true n 4 [c2] = some y2 from e2)
  obtain ⟨A3, k3, of, rfl, h3⟩ := rowVr_of Tryd.underlying25 (c := c3) e3
  simp at q2
  subst q2
  refine ⟨A1, k1, vars, A2, k2, ports, b, A3, k3, of, ?_, h1, h2, h3⟩
  congr 1
  apply Array.ext'
  rw [hcs]
end Go.Proofs.YtjhpckeoackblaaDoor
