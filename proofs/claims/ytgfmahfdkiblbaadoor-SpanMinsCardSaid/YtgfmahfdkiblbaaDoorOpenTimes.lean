/- An argument that is a slice of times. -/
import Derived.Test.YtgfmahfdkiblbaaDoorMin
import Derived.Test.YtgfmahfdkiblbaaDoorLaid
namespace Go.Proofs.YtgfmahfdkiblbaaDoor
open Go.ChangeShapes Go.WideShapes Go.ChangeAt Go.RowKit Go.Deep Go.Kx

set_option maxRecDepth 1000000

theorem int_one {n : Nat} {W : World} {H : Type} {enc : TypeId × Value → H} {P : Program} {base : Nat} {spare : Nat → Bool} {held : Bool} {k : IntKind} {t : TypeId} (ht : P.underlying t = some (.int k)) {v : Value} {y : DataW H × List MemPlace} (h : DataW.trod enc P W base spare held n t [v] = some y) :
    ∃ x, v = .int k x ∧ (Lit.int k x).wf = true := by
  obtain ⟨x, e, _, hw⟩ := DataW.trod_int ht h
  simp at e
  exact ⟨x, e, hw⟩

theorem open_times {H : Type} {enc : TypeId × Value → H} {W : World} {base : Nat} {v1 : Value} {d1 : DataW H} {p1 : List MemPlace} (hv : Value.okWide Tryd.prog W .any base 35 v1) (h1 : DataW.Trod enc Tryd.prog W 0 (fun _ => true) true 35 v1 d1 p1) :
    ∃ A cap L, v1 = .slice A (List.length (α := Tm) L) cap ∧ Times W A L ∧ L.length ≤ maxLen := by
  obtain ⟨a0, len, cap, rfl⟩ := okWide_slice Tryd.underlying35 hv
  obtain ⟨fuel, hf⟩ := h1
  rcases open_slice_fields Tryd.underlying35 Tryd.underlying23 (by kernel_rfl) (by kernel_rfl) hf with ⟨hcs, hx⟩ | ⟨a, len', cap', m, D, Pl, hcs, _, hl, hm, hmm, hx, hi⟩
  · simp [Value.cells] at hcs
    obtain ⟨rfl, rfl, rfl⟩ := hcs
    exact ⟨none, 0, [], rfl, fun i t h => by simp at h, by simp [maxLen]⟩
  · simp [Value.cells] at hcs
    obtain ⟨rfl, rfl, rfl⟩ := hcs
    simp at hmm
    subst hmm
    let g (j : Nat) : Int := match W.cell? (a.add j) with | some (.int _ n) => n | _ => 0
    refine ⟨some a, m, (List.range len).map fun i => (g (i * 2), g (i * 2 + 1)), by simp, ?_, by simp; omega⟩
    intro i t hdx
    have hil : i < len := by have := (List.getElem?_eq_some_iff.1 hdx).1; simpa using this
    have h00 : ∃ v0, W.cell? (a.add 0) = some v0 := by
      obtain ⟨ys, n, _, _, _, hfs⟩ := hi 0 (by omega)
      obtain ⟨v, y, hc, _⟩ := hfs 0 _ rfl
      exact ⟨v, by simpa using hc⟩
    obtain ⟨ys, n, _, _, _, hfs⟩ := hi i (by omega)
    obtain ⟨v0, y0, hc0, _, ht0⟩ := hfs 0 _ rfl
    obtain ⟨v1, y1, hc1, _, ht1⟩ := hfs 1 _ rfl
    obtain ⟨z0, rfl, hz0⟩ := int_one Tryd.underlying3 ht0
    obtain ⟨z1, rfl, hz1⟩ := int_one Tryd.underlying3 ht1
    have q0 := cell_add hc0 h00
    have q1 := cell_add hc1 h00
    have e0 : g (i * 2) = z0 := by simp only [g]; simp at hc0; rw [hc0]
    have e1 : g (i * 2 + 1) = z1 := by simp only [g]; simp at hc1; rw [hc1]
    simp [hil, e0, e1] at hdx
    subst hdx
    have b0 : -9223372036854775808 ≤ z0 ∧ z0 ≤ 9223372036854775807 := by simpa [Lit.wf, IntKind.min, IntKind.max, IntKind.signed, IntKind.bits] using hz0
    have b1 : -9223372036854775808 ≤ z1 ∧ z1 ≤ 9223372036854775807 := by simpa [Lit.wf, IntKind.min, IntKind.max, IntKind.signed, IntKind.bits] using hz1
    exact ⟨⟨b0, b1⟩, a.block, a.off, by rw [← q0.1], q0.2.1, q0.2.2, by simpa [Nat.add_assoc] using q1.2.2⟩
end Go.Proofs.YtgfmahfdkiblbaaDoor
