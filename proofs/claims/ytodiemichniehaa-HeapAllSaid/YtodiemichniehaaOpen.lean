/- Arguments that are calls. -/
import Derived.Test.YtodiemichniehaaLaw
import Derived.Test.YtodiemichniehaaRows
import Derived.Test.YtodiemichniehaaHp
import Derived.Stop.LaidErr
import Derived.Lib.SmallJoins
import Derived.Stop.Joined
namespace Go.Proofs.Ytodiemichniehaa
open Go.ChangeShapes Go.WideShapes Go.ChangeAt Go.RowKit Go.Deep Go.Kx
set_option maxRecDepth 1000000
theorem ownK : ownKnob Try.checked.prog.godebug = none := by kernel_rfl
theorem laidK : laidOutB Try.checked.prog = true := by kernel_rfl
theorem cells3 : Try.prog.cellsOf 3 = 1 := by kernel_rfl
theorem cells5 : Try.prog.cellsOf 5 = 1 := by kernel_rfl
theorem cells29 : Try.prog.cellsOf 29 = 3 := by kernel_rfl
theorem i64_of {z : Int} (h : (Lit.int .i64 z).wf = true) : I64 z := by simpa [I64, Lit.wf, IntKind.min, IntKind.max, IntKind.signed, IntKind.bits] using h
/-- a call: what it does, the key, what it stands by -/
abbrev Ac := Int × Int × Int
def Ac.ok (a : Ac) : Prop := (0 ≤ a.1 ∧ a.1 ≤ 255) ∧ I64 a.2.1 ∧ I64 a.2.2
def Acs (w : World) (A : Option Addr) (L : List Ac) : Prop :=
  ∀ i a, L[i]? = some a → Ac.ok a ∧ ∃ b o, A = some ⟨b, o, none⟩ ∧ b < w.heap.size ∧ w.cell? ⟨b, o + i * 3, none⟩ = some (.int .u8 a.1) ∧ w.cell? ⟨b, o + i * 3 + 1, none⟩ = some (.int .i64 a.2.1) ∧ w.cell? ⟨b, o + i * 3 + 2, none⟩ = some (.int .i64 a.2.2)
theorem Acs.only {w w' : World} {A : Option Addr} {L : List Ac} (h : Acs w A L) (ho : Only [] w w') : Acs w' A L := fun i s hs => by
  obtain ⟨hk, b, o, hA, hb, h0, h1, h2⟩ := h i s hs
  have := ho.size
  exact ⟨hk, b, o, hA, by omega, (ho.cell (p := ⟨b, _, none⟩) hb (by simp)).trans h0, (ho.cell (p := ⟨b, _, none⟩) hb (by simp)).trans h1, (ho.cell (p := ⟨b, _, none⟩) hb (by simp)).trans h2⟩
theorem ints3_of {H : Type} {enc : TypeId × Value → H} {W : World} {base : Nat} {sp : Nat → Bool} {held : Bool} {n : Nat} {c0 c1 c2 : Value} {y : DataW H × List MemPlace} (h : DataW.trod enc Try.prog W base sp held n 29 [c0, c1, c2] = some y) :
    ∃ a : Ac, c0 = .int .u8 a.1 ∧ c1 = .int .i64 a.2.1 ∧ c2 = .int .i64 a.2.2 ∧ Ac.ok a := by
  obtain ⟨y0, y1, y2, m, _, _, h0, h1, h2⟩ := trod_struct3 Try.underlying29 h
  have e0 : ([c0, c1, c2].drop 0).take (Try.prog.cellsOf 5) = [c0] := by rw [cells5]; rfl
  have e1 : ([c0, c1, c2].drop 1).take (Try.prog.cellsOf 3) = [c1] := by rw [cells3]; rfl
  have e2 : ([c0, c1, c2].drop 2).take (Try.prog.cellsOf 3) = [c2] := by rw [cells3]; rfl
  have h0' : DataW.trod enc Try.prog W base sp held m 5 [c0] = some y0 := by rw [← e0]; exact h0
  have h1' : DataW.trod enc Try.prog W base sp held m 3 [c1] = some y1 := by rw [← e1]; exact h1
  have h2' : DataW.trod enc Try.prog W base sp held m 3 [c2] = some y2 := by rw [← e2]; exact h2
  obtain ⟨x0, q0, _, w0⟩ := DataW.trod_int Try.underlying5 h0'
  obtain ⟨x1, q1, _, w1⟩ := DataW.trod_int Try.underlying3 h1'
  obtain ⟨x2, q2, _, w2⟩ := DataW.trod_int Try.underlying3 h2'
  simp at q0 q1 q2
  exact ⟨(x0, x1, x2), q0, q1, q2, by simpa [Lit.wf, IntKind.min, IntKind.max, IntKind.signed, IntKind.bits] using w0, i64_of w1, i64_of w2⟩
theorem open_acts {H : Type} {enc : TypeId × Value → H} {W : World} {base : Nat} {v1 : Value} {d1 : DataW H} {p1 : List MemPlace} (hv : Value.okWide Try.prog W .any base 22 v1) (h1 : DataW.Trod enc Try.prog W 0 (fun _ => true) true 22 v1 d1 p1) :
    ∃ A cap L, v1 = .slice A (List.length (α := Ac) L) cap ∧ Acs W A L ∧ L.length ≤ maxLen := by
  obtain ⟨a0, len, cap, rfl⟩ := okWide_slice Try.underlying22 hv
  obtain ⟨fuel, hf⟩ := h1
  rcases open_slice Try.underlying22 hf with ⟨hcs, hx⟩ | ⟨a, len', cap', m, n, D, Pl, hcs, _, hl, hm, hmm, hx, hi⟩
  · simp [Value.cells] at hcs
    obtain ⟨rfl, rfl, rfl⟩ := hcs
    exact ⟨none, 0, [], rfl, fun i t h => by simp at h, by simp [maxLen]⟩
  · simp [Value.cells] at hcs
    obtain ⟨rfl, rfl, rfl⟩ := hcs
    simp at hmm
    subst hmm
    rw [cells29] at hi
    let g (j : Nat) : Int := match W.cell? (a.add j) with | some (.int _ n) => n | _ => 0
    refine ⟨some a, m, (List.range len).map fun i => (g (i * 3), g (i * 3 + 1), g (i * 3 + 2)), by simp, ?_, by simp; omega⟩
    have three (i : Nat) (hil : i < m) : ∃ s : Ac, Ac.ok s ∧ W.cell? (a.add (i * 3)) = some (.int .u8 s.1) ∧ W.cell? (a.add (i * 3 + 1)) = some (.int .i64 s.2.1) ∧ W.cell? (a.add (i * 3 + 2)) = some (.int .i64 s.2.2) := by
      obtain ⟨cs', hc, ht⟩ := hi i hil
      obtain ⟨_, hcl, hat⟩ := World.cells?_some hc
      match cs', hcl with
      | [c0, c1, c2], _ =>
        obtain ⟨s, rfl, rfl, rfl, ho⟩ := ints3_of ht
        refine ⟨s, ho, ?_, ?_, ?_⟩
        · have := hat 0 (by omega); rwa [Go.Deep.add_add] at this
        · have := hat 1 (by omega); rwa [Go.Deep.add_add] at this
        · have := hat 2 (by omega); rwa [Go.Deep.add_add] at this
    intro i t hdx
    have hil : i < len := by have := (List.getElem?_eq_some_iff.1 hdx).1; simpa using this
    have h00 : ∃ v0, W.cell? (a.add 0) = some v0 := by
      obtain ⟨s, _, h, _⟩ := three 0 (by omega)
      exact ⟨_, by simpa using h⟩
    obtain ⟨s, ho, c0, c1, c2⟩ := three i (by omega)
    have e0 : g (i * 3) = s.1 := by simp only [g]; rw [c0]
    have e1 : g (i * 3 + 1) = s.2.1 := by simp only [g]; rw [c1]
    have e2 : g (i * 3 + 2) = s.2.2 := by simp only [g]; rw [c2]
    simp [hil, e0, e1, e2] at hdx
    subst hdx
    have q0 := cell_add c0 h00
    have q1 := cell_add c1 h00
    have q2 := cell_add c2 h00
    exact ⟨ho, a.block, a.off, by rw [← q0.1], q0.2.1, q0.2.2, by simpa [Nat.add_assoc] using q1.2.2, by simpa [Nat.add_assoc] using q2.2.2⟩
end Go.Proofs.Ytodiemichniehaa
