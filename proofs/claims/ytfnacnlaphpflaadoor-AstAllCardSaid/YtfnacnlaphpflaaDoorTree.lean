/- Expressions as they lie in memory, and as trees. -/
import Derived.Test.YtfnacnlaphpflaaDoorNames
import Derived.Test.YtfnacnlaphpflaaDoorRange
import Derived.Deep.Slices
import Derived.ChangeMaps5
import Derived.Lib.SmallJoins
namespace Go.Proofs.YtfnacnlaphpflaaDoor
open Go.ChangeShapes Go.WideShapes Go.ChangeAt Go.RowKit Go.Deep Go.Kx
set_option maxRecDepth 100000

def I64 (z : Int) : Prop := -9223372036854775808 ≤ z ∧ z ≤ 9223372036854775807
theorem i64_of {z : Int} (h : (Lit.int .i64 z).wf = true) : I64 z := by simpa [I64, Lit.wf, IntKind.min, IntKind.max, IntKind.signed, IntKind.bits] using h
/-- an expression where it lies -/
inductive Ex where
  | mk (op n : Int) (nm sb : ByteArray) (A : Option Addr) (cap : Nat) (args : List Ex)
instance : Inhabited Ex := ⟨.mk 0 0 ⟨#[]⟩ ⟨#[]⟩ none 0 []⟩
/-- an expression -/
inductive Tr where
  | mk (op n : Int) (nm sb : ByteArray) (args : List Tr)
instance : Inhabited Tr := ⟨.mk 0 0 ⟨#[]⟩ ⟨#[]⟩ []⟩
def Ex.args : Ex → List Ex
  | .mk _ _ _ _ _ _ l => l
def Tr.args : Tr → List Tr
  | .mk _ _ _ _ l => l
def Ex.cs : Ex → List Value
  | .mk op n nm sb A cap args => [.int .i64 op, .int .i64 n, .string nm, .string sb, .slice A args.length cap]
def Ex.val (e : Ex) : Value := .agg e.cs.toArray
def Ex.tr : Ex → Tr
  | .mk op n nm sb _ _ args => .mk op n nm sb (args.map Ex.tr)
theorem Ex.args_lt {e a : Ex} (h : a ∈ e.args) : SizeOf.sizeOf a < SizeOf.sizeOf e := by
  cases e
  have := List.sizeOf_lt_of_mem h
  simp [Ex.args] at this ⊢
  omega
theorem Tr.args_lt {e a : Tr} (h : a ∈ e.args) : SizeOf.sizeOf a < SizeOf.sizeOf e := by
  cases e
  have := List.sizeOf_lt_of_mem h
  simp [Tr.args] at this ⊢
  omega
theorem Ex.ind {p : Ex → Prop} (h : ∀ e, (∀ a ∈ e.args, p a) → p e) : ∀ e, p e := by
  intro e
  generalize hn : SizeOf.sizeOf e = n
  induction n using Nat.strongRecOn generalizing e with
  | ind n ih => exact h e (fun a ha => ih (SizeOf.sizeOf a) (hn ▸ Ex.args_lt ha) a rfl)
theorem Tr.ind {p : Tr → Prop} (h : ∀ e, (∀ a ∈ e.args, p a) → p e) : ∀ e, p e := by
  intro e
  generalize hn : SizeOf.sizeOf e = n
  induction n using Nat.strongRecOn generalizing e with
  | ind n ih => exact h e (fun a ha => ih (SizeOf.sizeOf a) (hn ▸ Tr.args_lt ha) a rfl)
/-- an expression's cells, at a place of a row -/
def RowAt (w : World) (A : Option Addr) (i : Nat) (e : Ex) : Prop :=
  ∃ b o, A = some ⟨b, o, none⟩ ∧ b < w.heap.size ∧ ∀ j v, e.cs[j]? = some v → w.cell? ⟨b, o + i * 5 + j, none⟩ = some v
theorem RowAt.only {S : List Nat} {w w' : World} {A : Option Addr} {i : Nat} {e : Ex} (h : RowAt w A i e) (o : Only S w w') (hA : ∀ p, A = some p → p.block ∉ S) : RowAt w' A i e := by
  obtain ⟨b, f, rfl, hb, hc⟩ := h
  exact ⟨b, f, rfl, Nat.lt_of_lt_of_le hb o.size, fun j v hv => (o.cell (p := ⟨b, f + i * 5 + j, none⟩) hb (show b ∉ S from hA _ rfl)).trans (hc j v hv)⟩
theorem RowAt.keepC {B : Nat} {w w' : World} {A : Option Addr} {i : Nat} {e : Ex} (h : RowAt w A i e) (k : KeepC B w w') : RowAt w' A i e := by
  obtain ⟨b, f, rfl, hb, hc⟩ := h
  exact ⟨b, f, rfl, Nat.lt_of_lt_of_le hb k.size, fun j v hv => k.cell (hc j v hv)⟩
/-- the expression lies there -/
inductive Lies (w : World) : Ex → Prop
  | mk {op n : Int} {nm sb : ByteArray} {A : Option Addr} {cap : Nat} {args : List Ex} (h1 : I64 op) (h2 : I64 n) (h3 : nm.size ≤ 9223372036854775807) (h4 : sb.size ≤ 9223372036854775807) (h5 : args.length ≤ 9223372036854775807)
      (h6 : ∀ i e, args[i]? = some e → RowAt w A i e) (h7 : ∀ e, e ∈ args → Lies w e) : Lies w (.mk op n nm sb A cap args)
theorem Lies.keep {w w' : World} {e : Ex} (h : Lies w e) (o : Only [] w w') : Lies w' e := by
  induction h with
  | mk h1 h2 h3 h4 h5 h6 h7 ih => exact .mk h1 h2 h3 h4 h5 (fun i e he => (h6 i e he).only o (by simp)) ih
theorem Lies.keepC {B : Nat} {w w' : World} {e : Ex} (h : Lies w e) (k : KeepC B w w') : Lies w' e := by
  induction h with
  | mk h1 h2 h3 h4 h5 h6 h7 ih => exact .mk h1 h2 h3 h4 h5 (fun i e he => (h6 i e he).keepC k) ih
theorem cells24 : Tryd.prog.cellsOf 24 = 5 := by kernel_rfl
theorem cells3 : Tryd.prog.cellsOf 3 = 1 := by kernel_rfl
theorem cells9 : Tryd.prog.cellsOf 9 = 1 := by kernel_rfl
theorem cells22 : Tryd.prog.cellsOf 22 = 1 := by kernel_rfl
theorem list5 {α : Type} {l : List α} (h : l.length = 5) : ∃ a b c d e, l = [a, b, c, d, e] := by
  match l, h with
  | [a, b, c, d, e], _ => exact ⟨a, b, c, d, e, rfl⟩
theorem open_ex {H : Type} {enc : TypeId × Value → H} {W : World} {base : Nat} {sp : Nat → Bool} {held : Bool} : ∀ (fuel : Nat) (cs : List Value) (x : DataW H × List MemPlace), DataW.trod enc Tryd.prog W base sp held fuel 24 cs = some x → ∃ e : Ex, cs = e.cs ∧ Lies W e := by
  intro fuel
  induction fuel using Nat.strongRecOn with
  | ind fuel ih =>
    intro cs x hx
    obtain ⟨xs, n, hn, rfl, hl, hlen, hf⟩ := DataW.trod_struct Tryd.underlying24 hx
    rw [cells24] at hl
    obtain ⟨c0, c1, c2, c3, c4, rfl⟩ := list5 hl
    obtain ⟨y0, y1, y2, y3, y4, rfl⟩ := list5 (l := xs) (by simpa using hlen)
    have e0 : DataW.trod enc Tryd.prog W base sp held n 3 (([c0, c1, c2, c3, c4].drop 0).take (Tryd.prog.cellsOf 3)) = some y0 := hf 0 _ rfl
    have e1 : DataW.trod enc Tryd.prog W base sp held n 3 (([c0, c1, c2, c3, c4].drop 1).take (Tryd.prog.cellsOf 3)) = some y1 := hf 1 _ rfl
    have e2 : DataW.trod enc Tryd.prog W base sp held n 9 (([c0, c1, c2, c3, c4].drop 2).take (Tryd.prog.cellsOf 9)) = some y2 := hf 2 _ rfl
    have e3 : DataW.trod enc Tryd.prog W base sp held n 9 (([c0, c1, c2, c3, c4].drop 3).take (Tryd.prog.cellsOf 9)) = some y3 := hf 3 _ rfl
    have e4 : DataW.trod enc Tryd.prog W base sp held n 22 (([c0, c1, c2, c3, c4].drop 4).take (Tryd.prog.cellsOf 22)) = some y4 := hf 4 _ rfl
    rw [cells3] at e0
    rw [cells3] at e1
    rw [cells9] at e2
    rw [cells9] at e3
    rw [cells22] at e4
    obtain ⟨i0, q0, _, w0⟩ := DataW.trod_int Tryd.underlying3 (show DataW.trod enc Tryd.prog W base sp held n 3 [c0] = some y0 from e0)
    obtain ⟨i1, q1, _, w1⟩ := DataW.trod_int Tryd.underlying3 (show DataW.trod enc Tryd.prog W base sp held n 3 [c1] = some y1 from e1)
    obtain ⟨s2, q2, _, w2⟩ := DataW.trod_string Tryd.underlying9 (show DataW.trod enc Tryd.prog W base sp held n 9 [c2] = some y2 from e2)
    obtain ⟨s3, q3, _, w3⟩ := DataW.trod_string Tryd.underlying9 (show DataW.trod enc Tryd.prog W base sp held n 9 [c3] = some y3 from e3)
    simp at q0 q1 q2 q3
    subst q0 q1 q2 q3
    unfold maxLen at w2 w3
    rcases DataW.trod_slice Tryd.underlying22 (show DataW.trod enc Tryd.prog W base sp held n 22 [c4] = some y4 from e4) with ⟨hc, _⟩ | ⟨a, len, cap, elems, rest, k, hk, hc, _, _, hlc, hcm, hel, hat, _⟩
    · simp at hc
      subst hc
      exact ⟨.mk i0 i1 s2 s3 none 0 [], rfl, .mk (i64_of w0) (i64_of w1) (by omega) (by omega) (by simp) (fun i e he => by simp at he) (fun e he => by simp at he)⟩
    · simp at hc
      subst hc
      rw [cells24] at hat
      have H : ∀ i, i < len → ∃ e : Ex, Lies W e ∧ ∀ j v, e.cs[j]? = some v → W.cell? ((a.add (i * 5)).add j) = some v := fun i hi => by
        have h := hat i hi
        rw [List.getElem?_eq_getElem (by omega)] at h
        obtain ⟨cs', hc', ht⟩ := Option.bind_eq_some_iff.1 h
        obtain ⟨e, rfl, hL⟩ := ih k (by omega) cs' _ ht
        obtain ⟨_, hcl, hatc⟩ := World.cells?_some hc'
        refine ⟨e, hL, fun j v hv => ?_⟩
        have hj : j < e.cs.length := (List.getElem?_eq_some_iff.1 hv).1
        have := hatc j (by omega)
        rw [this]
        simpa using hv
      let f (i : Nat) : Ex := if h : i < len then Classical.choose (H i h) else default
      have hfi : ∀ i (h : i < len), Lies W (f i) ∧ ∀ j v, (f i).cs[j]? = some v → W.cell? ((a.add (i * 5)).add j) = some v := fun i h => by
        simp only [f, dif_pos h]
        exact Classical.choose_spec (H i h)
      have hlenr : ((List.range len).map f).length = len := by simp
      refine ⟨.mk i0 i1 s2 s3 (some a) cap ((List.range len).map f), by simp [Ex.cs], .mk (i64_of w0) (i64_of w1) (by omega) (by omega) (by unfold maxLen at hcm; omega) (fun i e he => ?_) (fun e he => ?_)⟩
      · have hi : i < len := by have := (List.getElem?_eq_some_iff.1 he).1; omega
        rw [List.getElem?_map, List.getElem?_range hi] at he
        simp at he
        subst he
        have h0 : ∃ v0, W.cell? (a.add 0) = some v0 := by
          obtain ⟨_, g⟩ := hfi 0 (by omega)
          have : ∃ v, (f 0).cs[0]? = some v := by cases f 0; exact ⟨_, rfl⟩
          obtain ⟨v, hv⟩ := this
          have := g 0 v hv
          rw [Go.Deep.add_add] at this
          exact ⟨v, by simpa using this⟩
        obtain ⟨_, g⟩ := hfi i hi
        have key : ∀ j v, (f i).cs[j]? = some v → some a = some ⟨a.block, a.off, none⟩ ∧ a.block < W.heap.size ∧ W.cell? ⟨a.block, a.off + i * 5 + j, none⟩ = some v := fun j v hv => by
          have h := g j v hv
          rw [Go.Deep.add_add] at h
          have q := cell_add h h0
          exact ⟨by rw [← q.1], q.2.1, by simpa [Nat.add_assoc] using q.2.2⟩
        have h00 : ∃ v, (f i).cs[0]? = some v := by cases f i; exact ⟨_, rfl⟩
        obtain ⟨v, hv⟩ := h00
        obtain ⟨k1, k2, _⟩ := key 0 v hv
        exact ⟨a.block, a.off, k1, k2, fun j v hv => (key j v hv).2.2⟩
      · obtain ⟨i, hi, rfl⟩ := List.mem_map.1 he
        exact (hfi i (List.mem_range.1 hi)).1
theorem open_expr {H : Type} {enc : TypeId × Value → H} {W : World} {base : Nat} {v : Value} {d : DataW H} {p : List MemPlace} (hv : Value.okWide Tryd.prog W .any base 24 v) (h : DataW.Trod enc Tryd.prog W 0 (fun _ => true) true 24 v d p) :
    ∃ e : Ex, v = e.val ∧ Lies W e := by
  obtain ⟨cs, rfl, hsz⟩ := okWide_struct Tryd.underlying24 hv
  obtain ⟨fuel, hf⟩ := h
  obtain ⟨e, he, hL⟩ := open_ex fuel _ _ hf
  refine ⟨e, ?_, hL⟩
  unfold Ex.val
  rw [← he]
  rfl
end Go.Proofs.YtfnacnlaphpflaaDoor
