/- Arguments that are stamps; what the listed table holds. -/
import Derived.Test.YtoefekgfklillaaDoorLaid
import Derived.Test.YtoefekgfklillaaDoorSt4
import Derived.Stop.LaidErr
import Derived.Lib.LaidTab
namespace Go.Proofs.YtoefekgfklillaaDoor
open Go.ChangeShapes Go.WideShapes Go.ChangeAt Go.RowKit Go.Deep Go.Kx
set_option maxRecDepth 1000000

theorem cells25 : Tryd.prog.cellsOf 25 = 3 := by kernel_rfl
theorem cells23 : Tryd.prog.cellsOf 23 = 2 := by kernel_rfl
theorem cells3 : Tryd.prog.cellsOf 3 = 1 := by kernel_rfl
theorem i64_of {z : Int} (h : (Lit.int .i64 z).wf = true) : I64 z := by simpa [I64, Lit.wf, IntKind.min, IntKind.max, IntKind.signed, IntKind.bits] using h

theorem ints_of {H : Type} {enc : TypeId × Value → H} {W : World} {base : Nat} {sp : Nat → Bool} {held : Bool} {n : Nat} {c0 c1 : Value} {y : DataW H × List MemPlace} (h : DataW.trod enc Tryd.prog W base sp held n 23 [c0, c1] = some y) :
    ∃ t : Tm, c0 = .int .i64 t.1 ∧ c1 = .int .i64 t.2 ∧ t.ok := by
  obtain ⟨y0, y1, m, _, _, h0, h1⟩ := trod_struct2 Tryd.underlying23 h
  have e0 : ([c0, c1].drop 0).take (Tryd.prog.cellsOf 3) = [c0] := by rw [cells3]; rfl
  have e1 : ([c0, c1].drop 1).take (Tryd.prog.cellsOf 3) = [c1] := by rw [cells3]; rfl
  have h0' : DataW.trod enc Tryd.prog W base sp held m 3 [c0] = some y0 := by rw [← e0]; exact h0
  have h1' : DataW.trod enc Tryd.prog W base sp held m 3 [c1] = some y1 := by rw [← e1]; exact h1
  obtain ⟨x0, q0, _, w0⟩ := DataW.trod_int Tryd.underlying3 h0'
  obtain ⟨x1, q1, _, w1⟩ := DataW.trod_int Tryd.underlying3 h1'
  simp at q0 q1
  exact ⟨(x0, x1), q0, q1, i64_of w0, i64_of w1⟩
theorem ints3_of {H : Type} {enc : TypeId × Value → H} {W : World} {base : Nat} {sp : Nat → Bool} {held : Bool} {n : Nat} {c0 c1 c2 : Value} {y : DataW H × List MemPlace} (h : DataW.trod enc Tryd.prog W base sp held n 25 [c0, c1, c2] = some y) :
    ∃ s : St, c0 = .int .i64 s.1.1 ∧ c1 = .int .i64 s.1.2 ∧ c2 = .int .i64 s.2 ∧ s.ok := by
  obtain ⟨y0, y1, m, _, _, h0, h1⟩ := trod_struct2 Tryd.underlying25 h
  have e0 : ([c0, c1, c2].drop 0).take (Tryd.prog.cellsOf 23) = [c0, c1] := by rw [cells23]; rfl
  have e1 : ([c0, c1, c2].drop 2).take (Tryd.prog.cellsOf 3) = [c2] := by rw [cells3]; rfl
  have h0' : DataW.trod enc Tryd.prog W base sp held m 23 [c0, c1] = some y0 := by rw [← e0]; exact h0
  have h1' : DataW.trod enc Tryd.prog W base sp held m 3 [c2] = some y1 := by rw [← e1]; exact h1
  obtain ⟨t, q0, q1, ho⟩ := ints_of h0'
  obtain ⟨x2, q2, _, w2⟩ := DataW.trod_int Tryd.underlying3 h1'
  simp at q2
  exact ⟨(t, x2), q0, q1, q2, ho, i64_of w2⟩
theorem open_stamp {H : Type} {enc : TypeId × Value → H} {W : World} {base : Nat} {v : Value} {d : DataW H} {p : List MemPlace} (hv : Value.okWide Tryd.prog W .any base 25 v) (h : DataW.Trod enc Tryd.prog W 0 (fun _ => true) true 25 v d p) :
    ∃ s : St, v = .agg #[.int .i64 s.1.1, .int .i64 s.1.2, .int .i64 s.2] ∧ s.ok := by
  obtain ⟨cs, rfl, hsz⟩ := okWide_struct Tryd.underlying25 hv
  obtain ⟨c0, c1, c2, rfl⟩ := Joins.array3 (hsz.trans cells25)
  obtain ⟨fuel, hf⟩ := h
  have hf' : DataW.trod enc Tryd.prog W 0 (fun _ => true) true fuel 25 [c0, c1, c2] = some (d, p) := by simpa [Value.cells] using hf
  obtain ⟨s, rfl, rfl, rfl, ho⟩ := ints3_of hf'
  exact ⟨s, rfl, ho⟩
theorem tab_of_laid {W : World} (hL : laidMetH Tryd.prog laid3 W) : Tab10 W := by
  have hL2 : laidMet Tryd.prog laid3 W := hL
  exact Lib.tabIs_of_head (g := 2) (t := 97) (e := 67) (n := 20) (rest := []) (zs := Lib.pow10Tab) (k := .u64) (by kernel_rfl) (by kernel_rfl) Tryd.underlying97 Tryd.underlying67 (by kernel_rfl) (by kernel_rfl) hL2.tail.tail
end Go.Proofs.YtoefekgfklillaaDoor
