/- Arguments that are calls. -/
import Derived.Test.YtlhmhpopppfpkaaLaw
import Derived.Test.YtlhmhpopppfpkaaRows
import Derived.Test.YtlhmhpopppfpkaaDue
import Derived.Stop.LaidErr
import Derived.Lib.SmallJoins
import Derived.Stop.Joined
namespace Go.Proofs.Ytlhmhpopppfpkaa
open Go.ChangeShapes Go.WideShapes Go.ChangeAt Go.RowKit Go.Deep Go.Kx
set_option maxRecDepth 1000000
theorem cellsOf3 : Try.prog.cellsOf 3 = 1 := by kernel_rfl
theorem cellsOf5 : Try.prog.cellsOf 5 = 1 := by kernel_rfl
theorem cells32 : Try.prog.cellsOf 32 = 4 := by kernel_rfl
/-- a call: what it does, from, to, the value -/
abbrev Ac := Int × Int × Int × Int
def Ac.ok (a : Ac) : Prop := (0 ≤ a.1 ∧ a.1 ≤ 255) ∧ I64 a.2.1 ∧ I64 a.2.2.1 ∧ I64 a.2.2.2
def Acs (w : World) (A : Option Addr) (L : List Ac) : Prop :=
  ∀ i a, L[i]? = some a → Ac.ok a ∧ ∃ b o, A = some ⟨b, o, none⟩ ∧ b < w.heap.size ∧ w.cell? ⟨b, o + i * 4, none⟩ = some (.int .u8 a.1) ∧ w.cell? ⟨b, o + i * 4 + 1, none⟩ = some (.int .i64 a.2.1) ∧ w.cell? ⟨b, o + i * 4 + 2, none⟩ = some (.int .i64 a.2.2.1) ∧ w.cell? ⟨b, o + i * 4 + 3, none⟩ = some (.int .i64 a.2.2.2)
theorem Acs.only {w w' : World} {A : Option Addr} {L : List Ac} (h : Acs w A L) (ho : Only [] w w') : Acs w' A L := fun i s hs => by
  obtain ⟨hk, b, o, hA, hb, h0, h1, h2, h3⟩ := h i s hs
  have := ho.size
  exact ⟨hk, b, o, hA, by omega, (ho.cell (p := ⟨b, _, none⟩) hb (by simp)).trans h0, (ho.cell (p := ⟨b, _, none⟩) hb (by simp)).trans h1, (ho.cell (p := ⟨b, _, none⟩) hb (by simp)).trans h2, (ho.cell (p := ⟨b, _, none⟩) hb (by simp)).trans h3⟩
theorem ints4_of {H : Type} {enc : TypeId × Value → H} {W : World} {base : Nat} {sp : Nat → Bool} {held : Bool} {n : Nat} {c0 c1 c2 c3 : Value} {y : DataW H × List MemPlace} (h : DataW.trod enc Try.prog W base sp held n 32 [c0, c1, c2, c3] = some y) :
    ∃ a : Ac, c0 = .int .u8 a.1 ∧ c1 = .int .i64 a.2.1 ∧ c2 = .int .i64 a.2.2.1 ∧ c3 = .int .i64 a.2.2.2 ∧ Ac.ok a := by
  obtain ⟨y0, y1, y2, y3, m, _, _, h0, h1, h2, h3⟩ := Joins.trod_struct4 Try.underlying32 h
  have e0 : ([c0, c1, c2, c3].drop 0).take (Try.prog.cellsOf 5) = [c0] := by rw [cellsOf5]; rfl
  have e1 : ([c0, c1, c2, c3].drop 1).take (Try.prog.cellsOf 3) = [c1] := by rw [cellsOf3]; rfl
  have e2 : ([c0, c1, c2, c3].drop 2).take (Try.prog.cellsOf 3) = [c2] := by rw [cellsOf3]; rfl
  have e3 : ([c0, c1, c2, c3].drop 3).take (Try.prog.cellsOf 3) = [c3] := by rw [cellsOf3]; rfl
  have h0' : DataW.trod enc Try.prog W base sp held m 5 [c0] = some y0 := by rw [← e0]; exact h0
  have h1' : DataW.trod enc Try.prog W base sp held m 3 [c1] = some y1 := by rw [← e1]; exact h1
  have h2' : DataW.trod enc Try.prog W base sp held m 3 [c2] = some y2 := by rw [← e2]; exact h2
  have h3' : DataW.trod enc Try.prog W base sp held m 3 [c3] = some y3 := by rw [← e3]; exact h3
  obtain ⟨x0, q0, _, w0⟩ := DataW.trod_int Try.underlying5 h0'
  obtain ⟨x1, q1, _, w1⟩ := DataW.trod_int Try.underlying3 h1'
  obtain ⟨x2, q2, _, w2⟩ := DataW.trod_int Try.underlying3 h2'
  obtain ⟨x3, q3, _, w3⟩ := DataW.trod_int Try.underlying3 h3'
  simp at q0 q1 q2 q3
  exact ⟨(x0, x1, x2, x3), q0, q1, q2, q3, by simpa [Lit.wf, IntKind.min, IntKind.max, IntKind.signed, IntKind.bits] using w0, I64_of w1, I64_of w2, I64_of w3⟩
theorem open_acts {H : Type} {enc : TypeId × Value → H} {W : World} {base : Nat} {v1 : Value} {d1 : DataW H} {p1 : List MemPlace} (hv : Value.okWide Try.prog W .any base 22 v1) (h1 : DataW.Trod enc Try.prog W 0 (fun _ => true) true 22 v1 d1 p1) :
    ∃ A cap L, v1 = .slice A (List.length (α := Ac) L) cap ∧ Acs W A L ∧ L.length ≤ maxLen := by
  obtain ⟨a0, len, cap, rfl⟩ := okWide_slice Try.underlying22 hv
  obtain ⟨fuel, hf⟩ := h1
  rcases open_slice Try.underlying22 hf with ⟨hcs, hx⟩ | ⟨a, len', cap', m, n, D, Pl, hcs, _, hl, hm, hmm, hx, hi⟩
  · simp [Value.cells] at hcs
    obtain ⟨rfl, rfl, rfl⟩ := hcs
    exact ⟨none, 0, [], rfl, fun i t h => by simp at h, by simp [maxLen]⟩
  · simp [Value.cells] at hcs
    obtain ⟨rfl, rfl, rfl⟩ := hcs
    simp at hmm
    subst hmm
    rw [cells32] at hi
    let g (j : Nat) : Int := match W.cell? (a.add j) with | some (.int _ n) => n | _ => 0
    refine ⟨some a, m, (List.range len).map fun i => (g (i * 4), g (i * 4 + 1), g (i * 4 + 2), g (i * 4 + 3)), by simp, ?_, by simp; omega⟩
    have three (i : Nat) (hil : i < m) : ∃ s : Ac, Ac.ok s ∧ W.cell? (a.add (i * 4)) = some (.int .u8 s.1) ∧ W.cell? (a.add (i * 4 + 1)) = some (.int .i64 s.2.1) ∧ W.cell? (a.add (i * 4 + 2)) = some (.int .i64 s.2.2.1) ∧ W.cell? (a.add (i * 4 + 3)) = some (.int .i64 s.2.2.2) := by
      obtain ⟨cs', hc, ht⟩ := hi i hil
      obtain ⟨_, hcl, hat⟩ := World.cells?_some hc
      match cs', hcl with
      | [c0, c1, c2, c3], _ =>
        obtain ⟨s, rfl, rfl, rfl, rfl, ho⟩ := ints4_of ht
        refine ⟨s, ho, ?_, ?_, ?_, ?_⟩
        · have := hat 0 (by omega); rwa [Go.Deep.add_add] at this
        · have := hat 1 (by omega); rwa [Go.Deep.add_add] at this
        · have := hat 2 (by omega); rwa [Go.Deep.add_add] at this
        · have := hat 3 (by omega); rwa [Go.Deep.add_add] at this
    intro i t hdx
    have hil : i < len := by have := (List.getElem?_eq_some_iff.1 hdx).1; simpa using this
    have h00 : ∃ v0, W.cell? (a.add 0) = some v0 := by
      obtain ⟨s, _, h, _⟩ := three 0 (by omega)
      exact ⟨_, by simpa using h⟩
    obtain ⟨s, ho, c0, c1, c2, c3⟩ := three i (by omega)
    have e0 : g (i * 4) = s.1 := by simp only [g]; rw [c0]
    have e1 : g (i * 4 + 1) = s.2.1 := by simp only [g]; rw [c1]
    have e2 : g (i * 4 + 2) = s.2.2.1 := by simp only [g]; rw [c2]
    have e3 : g (i * 4 + 3) = s.2.2.2 := by simp only [g]; rw [c3]
    simp [hil, e0, e1, e2, e3] at hdx
    subst hdx
    have q0 := cell_add c0 h00
    have q1 := cell_add c1 h00
    have q2 := cell_add c2 h00
    have q3 := cell_add c3 h00
    exact ⟨ho, a.block, a.off, by rw [← q0.1], q0.2.1, q0.2.2, by simpa [Nat.add_assoc] using q1.2.2, by simpa [Nat.add_assoc] using q2.2.2, by simpa [Nat.add_assoc] using q3.2.2⟩
end Go.Proofs.Ytlhmhpopppfpkaa
