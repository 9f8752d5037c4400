/- An argument that is a slice of stamps. -/
import Derived.Test.YtoefekgfklillaaDoorOpen
import Derived.Test.YtoefekgfklillaaDoorMinS
namespace Go.Proofs.YtoefekgfklillaaDoor
open Go.ChangeShapes Go.WideShapes Go.ChangeAt Go.RowKit Go.Deep Go.Kx
set_option maxRecDepth 1000000

theorem open_stamps {H : Type} {enc : TypeId × Value → H} {W : World} {base : Nat} {v1 : Value} {d1 : DataW H} {p1 : List MemPlace} (hv : Value.okWide Tryd.prog W .any base 46 v1) (h1 : DataW.Trod enc Tryd.prog W 0 (fun _ => true) true 46 v1 d1 p1) :
    ∃ A cap L, v1 = .slice A (List.length (α := St) L) cap ∧ Stamps W A L ∧ L.length ≤ maxLen := by
  obtain ⟨a0, len, cap, rfl⟩ := okWide_slice Tryd.underlying46 hv
  obtain ⟨fuel, hf⟩ := h1
  rcases open_slice Tryd.underlying46 hf with ⟨hcs, hx⟩ | ⟨a, len', cap', m, n, D, Pl, hcs, _, hl, hm, hmm, hx, hi⟩
  · simp [Value.cells] at hcs
    obtain ⟨rfl, rfl, rfl⟩ := hcs
    exact ⟨none, 0, [], rfl, fun i t h => by simp at h, by simp [maxLen]⟩
  · simp [Value.cells] at hcs
    obtain ⟨rfl, rfl, rfl⟩ := hcs
    simp at hmm
    subst hmm
    rw [cells25] at hi
    let g (j : Nat) : Int := match W.cell? (a.add j) with | some (.int _ n) => n | _ => 0
    refine ⟨some a, m, (List.range len).map fun i => ((g (i * 3), g (i * 3 + 1)), g (i * 3 + 2)), by simp, ?_, by simp; omega⟩
    have three (i : Nat) (hil : i < m) : ∃ s : St, s.ok ∧ W.cell? (a.add (i * 3)) = some (.int .i64 s.1.1) ∧ W.cell? (a.add (i * 3 + 1)) = some (.int .i64 s.1.2) ∧ W.cell? (a.add (i * 3 + 2)) = some (.int .i64 s.2) := by
      obtain ⟨cs', hc, ht⟩ := hi i hil
      obtain ⟨_, hcl, hat⟩ := World.cells?_some hc
      match cs', hcl with
      | [c0, c1, c2], _ =>
        obtain ⟨s, rfl, rfl, rfl, ho⟩ := ints3_of ht
        refine ⟨s, ho, ?_, ?_, ?_⟩
        · have := hat 0 (by omega); rwa [Go.Deep.add_add] at this
        · have := hat 1 (by omega); rwa [Go.Deep.add_add] at this
        · have := hat 2 (by omega); rwa [Go.Deep.add_add] at this
    intro i t hdx
    have hil : i < len := by have := (List.getElem?_eq_some_iff.1 hdx).1; simpa using this
    have h00 : ∃ v0, W.cell? (a.add 0) = some v0 := by
      obtain ⟨s, _, h, _⟩ := three 0 (by omega)
      exact ⟨_, by simpa using h⟩
    obtain ⟨s, ho, c0, c1, c2⟩ := three i (by omega)
    have e0 : g (i * 3) = s.1.1 := by simp only [g]; rw [c0]
    have e1 : g (i * 3 + 1) = s.1.2 := by simp only [g]; rw [c1]
    have e2 : g (i * 3 + 2) = s.2 := by simp only [g]; rw [c2]
    simp [hil, e0, e1, e2] at hdx
    subst hdx
    have q0 := cell_add c0 h00
    have q1 := cell_add c1 h00
    have q2 := cell_add c2 h00
    exact ⟨ho, a.block, a.off, by rw [← q0.1], q0.2.1, q0.2.2, by simpa [Nat.add_assoc] using q1.2.2, by simpa [Nat.add_assoc] using q2.2.2⟩
end Go.Proofs.YtoefekgfklillaaDoor
