/- An argument that is a slice of calls. -/
import Derived.Test.YtcggeogpanackaaOpen
import Derived.Deep.Strs
namespace Go.Proofs.Ytcggeogpanackaa
open Go.ChangeShapes Go.WideShapes Go.ChangeAt Go.RowKit Go.Deep Go.Kx
set_option maxRecDepth 1000000

/-- a call: what it does, the stamp, the number -/
abbrev Ac := Int × St × Int
def Ac.ok (a : Ac) : Prop := (0 ≤ a.1 ∧ a.1 ≤ 255) ∧ a.2.1.ok ∧ I64 a.2.2
def Acs (w : World) (A : Option Addr) (L : List Ac) : Prop :=
  ∀ i a, L[i]? = some a → a.ok ∧ ∃ b o, A = some ⟨b, o, none⟩ ∧ b < w.heap.size ∧ w.cell? ⟨b, o + i * 5, none⟩ = some (.int .u8 a.1) ∧ w.cell? ⟨b, o + i * 5 + 1, none⟩ = some (.int .i64 a.2.1.1.1) ∧ w.cell? ⟨b, o + i * 5 + 2, none⟩ = some (.int .i64 a.2.1.1.2) ∧ w.cell? ⟨b, o + i * 5 + 3, none⟩ = some (.int .i64 a.2.1.2) ∧ w.cell? ⟨b, o + i * 5 + 4, none⟩ = some (.int .i64 a.2.2)
theorem Acs.only {w w' : World} {A : Option Addr} {L : List Ac} (h : Acs w A L) (ho : Only [] w w') : Acs w' A L := fun i s hs => by
  obtain ⟨hk, b, o, hA, hb, h0, h1, h2, h3, h4⟩ := h i s hs
  have := ho.size
  exact ⟨hk, b, o, hA, by omega, (ho.cell (p := ⟨b, _, none⟩) hb (by simp)).trans h0, (ho.cell (p := ⟨b, _, none⟩) hb (by simp)).trans h1, (ho.cell (p := ⟨b, _, none⟩) hb (by simp)).trans h2, (ho.cell (p := ⟨b, _, none⟩) hb (by simp)).trans h3, (ho.cell (p := ⟨b, _, none⟩) hb (by simp)).trans h4⟩
theorem cells57 : Try.prog.cellsOf 57 = 5 := by kernel_rfl
theorem cells5 : Try.prog.cellsOf 5 = 1 := by kernel_rfl
theorem ints5_of {H : Type} {enc : TypeId × Value → H} {W : World} {base : Nat} {sp : Nat → Bool} {held : Bool} {n : Nat} {c0 c1 c2 c3 c4 : Value} {y : DataW H × List MemPlace} (h : DataW.trod enc Try.prog W base sp held n 57 [c0, c1, c2, c3, c4] = some y) :
    ∃ a : Ac, c0 = .int .u8 a.1 ∧ c1 = .int .i64 a.2.1.1.1 ∧ c2 = .int .i64 a.2.1.1.2 ∧ c3 = .int .i64 a.2.1.2 ∧ c4 = .int .i64 a.2.2 ∧ a.ok := by
  obtain ⟨y0, y1, y2, m, _, _, h0, h1, h2⟩ := trod_struct3 Try.underlying57 h
  have e0 : ([c0, c1, c2, c3, c4].drop 0).take (Try.prog.cellsOf 5) = [c0] := by rw [cells5]; rfl
  have e1 : ([c0, c1, c2, c3, c4].drop 1).take (Try.prog.cellsOf 26) = [c1, c2, c3] := by rw [cells26]; rfl
  have e2 : ([c0, c1, c2, c3, c4].drop 4).take (Try.prog.cellsOf 3) = [c4] := by rw [cells3]; rfl
  have h0' : DataW.trod enc Try.prog W base sp held m 5 [c0] = some y0 := by rw [← e0]; exact h0
  have h1' : DataW.trod enc Try.prog W base sp held m 26 [c1, c2, c3] = some y1 := by rw [← e1]; exact h1
  have h2' : DataW.trod enc Try.prog W base sp held m 3 [c4] = some y2 := by rw [← e2]; exact h2
  obtain ⟨x0, q0, _, w0⟩ := DataW.trod_int Try.underlying5 h0'
  obtain ⟨s, rfl, rfl, rfl, ho⟩ := ints3_of h1'
  obtain ⟨x2, q2, _, w2⟩ := DataW.trod_int Try.underlying3 h2'
  simp at q0 q2
  exact ⟨(x0, s, x2), q0, rfl, rfl, rfl, q2, by simpa [Lit.wf, IntKind.min, IntKind.max, IntKind.signed, IntKind.bits] using w0, ho, i64_of w2⟩
theorem open_acts {H : Type} {enc : TypeId × Value → H} {W : World} {base : Nat} {v1 : Value} {d1 : DataW H} {p1 : List MemPlace} (hv : Value.okWide Try.prog W .any base 55 v1) (h1 : DataW.Trod enc Try.prog W 0 (fun _ => true) true 55 v1 d1 p1) :
    ∃ A cap L, v1 = .slice A (List.length (α := Ac) L) cap ∧ Acs W A L ∧ L.length ≤ maxLen := by
  obtain ⟨a0, len, cap, rfl⟩ := okWide_slice Try.underlying55 hv
  obtain ⟨fuel, hf⟩ := h1
  rcases open_slice Try.underlying55 hf with ⟨hcs, hx⟩ | ⟨a, len', cap', m, n, D, Pl, hcs, _, hl, hm, hmm, hx, hi⟩
  · simp [Value.cells] at hcs
    obtain ⟨rfl, rfl, rfl⟩ := hcs
    exact ⟨none, 0, [], rfl, fun i t h => by simp at h, by simp [maxLen]⟩
  · simp [Value.cells] at hcs
    obtain ⟨rfl, rfl, rfl⟩ := hcs
    simp at hmm
    subst hmm
    rw [cells57] at hi
    let g (j : Nat) : Int := match W.cell? (a.add j) with | some (.int _ n) => n | _ => 0
    refine ⟨some a, m, (List.range len).map fun i => (g (i * 5), ((g (i * 5 + 1), g (i * 5 + 2)), g (i * 5 + 3)), g (i * 5 + 4)), by simp, ?_, by simp; omega⟩
    have five (i : Nat) (hil : i < m) : ∃ s : Ac, s.ok ∧ W.cell? (a.add (i * 5)) = some (.int .u8 s.1) ∧ W.cell? (a.add (i * 5 + 1)) = some (.int .i64 s.2.1.1.1) ∧ W.cell? (a.add (i * 5 + 2)) = some (.int .i64 s.2.1.1.2) ∧ W.cell? (a.add (i * 5 + 3)) = some (.int .i64 s.2.1.2) ∧ W.cell? (a.add (i * 5 + 4)) = some (.int .i64 s.2.2) := by
      obtain ⟨cs', hc, ht⟩ := hi i hil
      obtain ⟨_, hcl, hat⟩ := World.cells?_some hc
      match cs', hcl with
      | [c0, c1, c2, c3, c4], _ =>
        obtain ⟨s, rfl, rfl, rfl, rfl, rfl, ho⟩ := ints5_of ht
        refine ⟨s, ho, ?_, ?_, ?_, ?_, ?_⟩
        · have := hat 0 (by omega); rwa [Go.Deep.add_add] at this
        · have := hat 1 (by omega); rwa [Go.Deep.add_add] at this
        · have := hat 2 (by omega); rwa [Go.Deep.add_add] at this
        · have := hat 3 (by omega); rwa [Go.Deep.add_add] at this
        · have := hat 4 (by omega); rwa [Go.Deep.add_add] at this
    intro i t hdx
    have hil : i < len := by have := (List.getElem?_eq_some_iff.1 hdx).1; simpa using this
    have h00 : ∃ v0, W.cell? (a.add 0) = some v0 := by
      obtain ⟨s, _, h, _⟩ := five 0 (by omega)
      exact ⟨_, by simpa using h⟩
    obtain ⟨s, ho, c0, c1, c2, c3, c4⟩ := five i (by omega)
    have e0 : g (i * 5) = s.1 := by simp only [g]; rw [c0]
    have e1 : g (i * 5 + 1) = s.2.1.1.1 := by simp only [g]; rw [c1]
    have e2 : g (i * 5 + 2) = s.2.1.1.2 := by simp only [g]; rw [c2]
    have e3 : g (i * 5 + 3) = s.2.1.2 := by simp only [g]; rw [c3]
    have e4 : g (i * 5 + 4) = s.2.2 := by simp only [g]; rw [c4]
    simp [hil, e0, e1, e2, e3, e4] at hdx
    subst hdx
    have q0 := cell_add c0 h00
    have q1 := cell_add c1 h00
    have q2 := cell_add c2 h00
    have q3 := cell_add c3 h00
    have q4 := cell_add c4 h00
    exact ⟨ho, a.block, a.off, by rw [← q0.1], q0.2.1, q0.2.2, by simpa [Nat.add_assoc] using q1.2.2, by simpa [Nat.add_assoc] using q2.2.2, by simpa [Nat.add_assoc] using q3.2.2, by simpa [Nat.add_assoc] using q4.2.2⟩
end Go.Proofs.Ytcggeogpanackaa
