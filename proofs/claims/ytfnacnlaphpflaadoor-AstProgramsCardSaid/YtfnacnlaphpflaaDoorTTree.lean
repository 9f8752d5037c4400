/- Values and types as they lie in memory. -/
import Derived.Test.YtfnacnlaphpflaaDoorPlain
import Derived.Test.YtfnacnlaphpflaaDoorExpr
import Derived.Test.YtfnacnlaphpflaaDoorProg
import Derived.Deep.Slices
import Derived.ChangeMaps5
import Derived.Lib.SmallJoins
namespace Go.Proofs.YtfnacnlaphpflaaDoor
open Go.ChangeShapes Go.WideShapes Go.ChangeAt Go.RowKit Go.Deep Go.Kx Go.Val
set_option maxRecDepth 100000
theorem _root_.Go.Kx.Blk.facts2 {w : World} {g : Nat} {t : TypeId} {a b : Value} (h : Blk w g t #[a, b]) : w.cell? ⟨g, 0, none⟩ = some a ∧ w.cell? ⟨g, 1, none⟩ = some b ∧ g < w.heap.size := ⟨h.cell 0, h.cell 1, h.lt⟩
theorem _root_.Go.Kx.Blk.facts4 {w : World} {g : Nat} {t : TypeId} {a b c d : Value} (h : Blk w g t #[a, b, c, d]) : w.cell? ⟨g, 0, none⟩ = some a ∧ w.cell? ⟨g, 1, none⟩ = some b ∧ w.cell? ⟨g, 2, none⟩ = some c ∧ w.cell? ⟨g, 3, none⟩ = some d ∧ g < w.heap.size := ⟨h.cell 0, h.cell 1, h.cell 2, h.cell 3, h.lt⟩
theorem cellsL : Tryd.prog.cellsOf 91 = 1 := by kernel_rfl
theorem cellsT : Tryd.prog.cellsOf 93 = 2 := by kernel_rfl
theorem list4 {α : Type} {l : List α} (h : l.length = 4) : ∃ a b c d, l = [a, b, c, d] := by
  match l, h with
  | [a, b, c, d], _ => exact ⟨a, b, c, d, rfl⟩
theorem list2 {α : Type} {l : List α} (h : l.length = 2) : ∃ a b, l = [a, b] := by
  match l, h with
  | [a, b], _ => exact ⟨a, b, rfl⟩
/-! ### Tx -/
/-- where it lies -/
inductive Tx where
  | mk (k : Int) (A : Option Addr) (cap : Nat) (l : List Tx)
instance : Inhabited Tx := ⟨.mk 0 none 0 []⟩
def Tx.l : Tx → List Tx
  | .mk _ _ _ l => l
def Tx.cs : Tx → List Value
  | .mk k A cap l => [.int .i64 k, .slice A l.length cap]
def Tx.val (e : Tx) : Value := .agg e.cs.toArray
def Tx.tr : Tx → Tt
  | .mk k _ _ l => .mk k (l.map Tx.tr)
theorem Tx.tr_mk (k : Int) (A : Option Addr) (cap : Nat) (l : List Tx) : (Tx.mk k A cap l).tr = .mk k (l.map Tx.tr) := by rw [Tx.tr]
theorem Tx.l_lt {e a : Tx} (h : a ∈ e.l) : SizeOf.sizeOf a < SizeOf.sizeOf e := by
  cases e
  have := List.sizeOf_lt_of_mem h
  simp [Tx.l] at this ⊢
  omega
theorem Tx.ind {p : Tx → Prop} (h : ∀ e, (∀ a ∈ e.l, p a) → p e) : ∀ e, p e := by
  intro e
  generalize hn : SizeOf.sizeOf e = n
  induction n using Nat.strongRecOn generalizing e with
  | ind n ih => exact h e (fun a ha => ih (SizeOf.sizeOf a) (hn ▸ Tx.l_lt ha) a rfl)
/-- its cells, at a place of a row -/
def RowAtT (w : World) (A : Option Addr) (i : Nat) (e : Tx) : Prop :=
  ∃ b o, A = some ⟨b, o, none⟩ ∧ b < w.heap.size ∧ ∀ j v, e.cs[j]? = some v → w.cell? ⟨b, o + i * 2 + j, none⟩ = some v
theorem RowAtT.only {S : List Nat} {w w' : World} {A : Option Addr} {i : Nat} {e : Tx} (h : RowAtT w A i e) (o : Only S w w') (hA : ∀ p, A = some p → p.block ∉ S) : RowAtT w' A i e := by
  obtain ⟨b, f, rfl, hb, hc⟩ := h
  exact ⟨b, f, rfl, Nat.lt_of_lt_of_le hb o.size, fun j v hv => (o.cell (p := ⟨b, f + i * 2 + j, none⟩) hb (show b ∉ S from hA _ rfl)).trans (hc j v hv)⟩
theorem RowAtT.keepC {B : Nat} {w w' : World} {A : Option Addr} {i : Nat} {e : Tx} (h : RowAtT w A i e) (k : KeepC B w w') : RowAtT w' A i e := by
  obtain ⟨b, f, rfl, hb, hc⟩ := h
  exact ⟨b, f, rfl, Nat.lt_of_lt_of_le hb k.size, fun j v hv => k.cell (hc j v hv)⟩
/-- it lies there -/
inductive LiesT (w : World) : Tx → Prop
  | mk {k : Int} {A : Option Addr} {cap : Nat} {l : List Tx} (h1 : I64 k) (h5 : l.length ≤ 9223372036854775807)
      (h6 : ∀ i e, l[i]? = some e → RowAtT w A i e) (h7 : ∀ e, e ∈ l → LiesT w e) : LiesT w (.mk k A cap l)
theorem LiesT.keep {w w' : World} {e : Tx} (h : LiesT w e) (o : Only [] w w') : LiesT w' e := by
  induction h with
  | mk h1 h5 h6 h7 ih => exact .mk h1 h5 (fun i e he => (h6 i e he).only o (by simp)) ih
theorem LiesT.keepC {B : Nat} {w w' : World} {e : Tx} (h : LiesT w e) (k : KeepC B w w') : LiesT w' e := by
  induction h with
  | mk h1 h5 h6 h7 ih => exact .mk h1 h5 (fun i e he => (h6 i e he).keepC k) ih
theorem LiesT.inv {w : World} {k : Int} {A : Option Addr} {cap : Nat} {l : List Tx} (h : LiesT w (.mk k A cap l)) :
    (I64 k) ∧ l.length ≤ 9223372036854775807 ∧ (∀ i e, l[i]? = some e → RowAtT w A i e) ∧ ∀ e, e ∈ l → LiesT w e := by
  cases h with
  | mk h1 h5 h6 h7 => exact ⟨h1, h5, h6, h7⟩
/-- a row, wherever it is asked -/
structure RowLT (w : World) (A : Option Addr) (l : List Tx) : Prop where
  row : ∀ i e, l[i]? = some e → RowAtT w A i e
  sub : ∀ e, e ∈ l → LiesT w e
  len : l.length ≤ 9223372036854775807
theorem RowLT.keep {w w' : World} {A : Option Addr} {l : List Tx} (h : RowLT w A l) (o : Only [] w w') : RowLT w' A l :=
  ⟨fun i e he => (h.row i e he).only o (by simp), fun e he => (h.sub e he).keep o, h.len⟩
theorem RowLT.keepC {B : Nat} {w w' : World} {A : Option Addr} {l : List Tx} (h : RowLT w A l) (k : KeepC B w w') : RowLT w' A l :=
  ⟨fun i e he => (h.row i e he).keepC k, fun e he => (h.sub e he).keepC k, h.len⟩
theorem LiesT.rowL {w : World} {k : Int} {A : Option Addr} {cap : Nat} {l : List Tx} (h : LiesT w (.mk k A cap l)) : RowLT w A l := by
  obtain ⟨-, h1, h2, h3⟩ := h.inv
  exact ⟨h2, h3, h1⟩
theorem open_Tx {H : Type} {enc : TypeId × Value → H} {W : World} {base : Nat} {sp : Nat → Bool} {held : Bool} : ∀ (fuel : Nat) (cs : List Value) (x : DataW H × List MemPlace), DataW.trod enc Tryd.prog W base sp held fuel 93 cs = some x → ∃ e : Tx, cs = e.cs ∧ LiesT W e := by
  intro fuel
  induction fuel using Nat.strongRecOn with
  | ind fuel ih =>
    intro cs x hx
    obtain ⟨xs, n, hn, rfl, hl, hlen, hf⟩ := DataW.trod_struct Tryd.underlying93 hx
    rw [cellsT] at hl
    obtain ⟨c0, c1, rfl⟩ := list2 hl
    obtain ⟨y0, y1, rfl⟩ := list2 (l := xs) (by simpa using hlen)
    have e0 : DataW.trod enc Tryd.prog W base sp held n 3 (([c0, c1].drop 0).take (Tryd.prog.cellsOf 3)) = some y0 := hf 0 _ rfl
    have e1 : DataW.trod enc Tryd.prog W base sp held n 91 (([c0, c1].drop 1).take (Tryd.prog.cellsOf 91)) = some y1 := hf 1 _ rfl
    rw [cells3] at e0
    rw [cellsL] at e1
    obtain ⟨i0, q0, _, w0⟩ := DataW.trod_int Tryd.underlying3 (show DataW.trod enc Tryd.prog W base sp held n 3 [c0] = some y0 from e0)
    simp at q0
    subst q0
    rcases DataW.trod_slice Tryd.underlying91 (show DataW.trod enc Tryd.prog W base sp held n 91 [c1] = some y1 from e1) with ⟨hc, _⟩ | ⟨a, len, cap, elems, rest, k, hk, hc, _, _, hlc, hcm, hel, hat, _⟩
    · simp at hc
      subst hc
      exact ⟨.mk i0 none 0 [], rfl, .mk (i64_of w0) (by simp) (fun i e he => by simp at he) (fun e he => by simp at he)⟩
    · simp at hc
      subst hc
      rw [cellsT] at hat
      have H : ∀ i, i < len → ∃ e : Tx, LiesT W e ∧ ∀ j v, e.cs[j]? = some v → W.cell? ((a.add (i * 2)).add j) = some v := fun i hi => by
        have h := hat i hi
        rw [List.getElem?_eq_getElem (by omega)] at h
        obtain ⟨cs', hc', ht⟩ := Option.bind_eq_some_iff.1 h
        obtain ⟨e, rfl, hL⟩ := ih k (by omega) cs' _ ht
        obtain ⟨_, hcl, hatc⟩ := World.cells?_some hc'
        refine ⟨e, hL, fun j v hv => ?_⟩
        have hj : j < e.cs.length := (List.getElem?_eq_some_iff.1 hv).1
        have := hatc j (by omega)
        rw [this]
        simpa using hv
      let f (i : Nat) : Tx := if h : i < len then Classical.choose (H i h) else default
      have hfi : ∀ i (h : i < len), LiesT W (f i) ∧ ∀ j v, (f i).cs[j]? = some v → W.cell? ((a.add (i * 2)).add j) = some v := fun i h => by
        simp only [f, dif_pos h]
        exact Classical.choose_spec (H i h)
      have hlenr : ((List.range len).map f).length = len := by simp
      refine ⟨.mk i0 (some a) cap ((List.range len).map f), by simp [Tx.cs], .mk (i64_of w0) (by unfold maxLen at hcm; omega) (fun i e he => ?_) (fun e he => ?_)⟩
      · have hi : i < len := by have := (List.getElem?_eq_some_iff.1 he).1; omega
        rw [List.getElem?_map, List.getElem?_range hi] at he
        simp at he
        subst he
        have h0 : ∃ v0, W.cell? (a.add 0) = some v0 := by
          obtain ⟨_, g⟩ := hfi 0 (by omega)
          have : ∃ v, (f 0).cs[0]? = some v := by cases f 0; exact ⟨_, rfl⟩
          obtain ⟨v, hv⟩ := this
          have := g 0 v hv
          rw [Go.Deep.add_add] at this
          exact ⟨v, by simpa using this⟩
        obtain ⟨_, g⟩ := hfi i hi
        have key : ∀ j v, (f i).cs[j]? = some v → some a = some ⟨a.block, a.off, none⟩ ∧ a.block < W.heap.size ∧ W.cell? ⟨a.block, a.off + i * 2 + j, none⟩ = some v := fun j v hv => by
          have h := g j v hv
          rw [Go.Deep.add_add] at h
          have q := cell_add h h0
          exact ⟨by rw [← q.1], q.2.1, by simpa [Nat.add_assoc] using q.2.2⟩
        have h00 : ∃ v, (f i).cs[0]? = some v := by cases f i; exact ⟨_, rfl⟩
        obtain ⟨v, hv⟩ := h00
        obtain ⟨k1, k2, _⟩ := key 0 v hv
        exact ⟨a.block, a.off, k1, k2, fun j v hv => (key j v hv).2.2⟩
      · obtain ⟨i, hi, rfl⟩ := List.mem_map.1 he
        exact (hfi i (List.mem_range.1 hi)).1
theorem open_argT {H : Type} {enc : TypeId × Value → H} {W : World} {base : Nat} {v : Value} {d : DataW H} {p : List MemPlace} (hv : Value.okWide Tryd.prog W .any base 93 v) (h : DataW.Trod enc Tryd.prog W 0 (fun _ => true) true 93 v d p) :
    ∃ e : Tx, v = e.val ∧ LiesT W e := by
  obtain ⟨cs, rfl, hsz⟩ := okWide_struct Tryd.underlying93 hv
  obtain ⟨fuel, hf⟩ := h
  obtain ⟨e, he, hL⟩ := open_Tx fuel _ _ hf
  refine ⟨e, ?_, hL⟩
  unfold Tx.val
  rw [← he]
  rfl
theorem RowAtT.cells {w : World} {A : Option Addr} {i : Nat} {k : Int} {B : Option Addr} {cap : Nat} {l : List Tx} (h : RowAtT w A i (.mk k B cap l)) :
    ∃ b o, A = some ⟨b, o, none⟩ ∧ b < w.heap.size ∧ w.cell? ⟨b, o + i * 2, none⟩ = some (.int .i64 k) ∧ w.cell? ⟨b, o + i * 2 + 1, none⟩ = some (.slice B l.length cap) := by
  obtain ⟨b, o, hA, hb, hc⟩ := h
  exact ⟨b, o, hA, hb, hc 0 _ rfl, hc 1 _ rfl⟩
end Go.Proofs.YtfnacnlaphpflaaDoor
