/- Arguments: ints, bytes, calls. -/
import Derived.Test.YtpedlapemgjgaaaLaw
import Derived.Test.YtpedlapemgjgaaaRows
import Derived.Test.YtpedlapemgjgaaaAwake
import Derived.Stop.LaidErr
import Derived.Lib.SmallJoins
import Derived.Stop.Joined
import Derived.ChangeSlices
namespace Go.Proofs.Ytpedlapemgjgaaa
open Go.ChangeShapes Go.WideShapes Go.ChangeAt Go.RowKit Go.Deep Go.Kx Go.Bag
set_option maxRecDepth 1000000
theorem ownK : ownKnob Try.checked.prog.godebug = none := by kernel_rfl
theorem laidK : laidOutB Try.checked.prog = true := by kernel_rfl
theorem cells3 : Try.prog.cellsOf 3 = 1 := by kernel_rfl
theorem cells5 : Try.prog.cellsOf 5 = 1 := by kernel_rfl
theorem cells49 : Try.prog.cellsOf 49 = 2 := by kernel_rfl
theorem cells53 : Try.prog.cellsOf 53 = 3 := by kernel_rfl
theorem u8_of {z : Int} (h : (Lit.int .u8 z).wf = true) : 0 ≤ z ∧ z ≤ 255 := by simpa [Lit.wf, IntKind.min, IntKind.max, IntKind.signed, IntKind.bits] using h
theorem open_row {H : Type} {enc : TypeId × Value → H} {W : World} {base : Nat} {v1 : Value} {d1 : DataW H} {p1 : List MemPlace} {t e : TypeId} {k : IntKind} (ht : Try.prog.underlying t = some (.slice e)) (he : Try.prog.underlying e = some (.int k)) (hc : Try.prog.cellsOf e = 1)
    (hv : Value.okWide Try.prog W .any base t v1) (h1 : DataW.Trod enc Try.prog W 0 (fun _ => true) true t v1 d1 p1) :
    ∃ A cap L, v1 = .slice A (List.length (α := Int) L) cap ∧ RowC W A (L.map (Value.int k)) ∧ (∀ x ∈ L, (Lit.int k x).wf = true) ∧ L.length ≤ maxLen := by
  obtain ⟨a0, len, cap, rfl⟩ := okWide_slice ht hv
  obtain ⟨fuel, hf⟩ := h1
  rcases open_ints ht he hc hf with ⟨hcs, hx⟩ | ⟨a, len', cap', zs, hcs, _, hl, hm, hzl, hx, hi, hw⟩
  · simp [Value.cells] at hcs
    obtain ⟨rfl, rfl, rfl⟩ := hcs
    exact ⟨none, 0, [], rfl, RowC.nil _ _, fun x h => by simp at h, by simp [maxLen]⟩
  · simp [Value.cells] at hcs
    obtain ⟨rfl, rfl, rfl⟩ := hcs
    simp at hzl
    refine ⟨some a, cap, zs.take len, by rw [List.length_take, hzl, Nat.min_eq_left hl], ?_, fun x hx => hw x (List.mem_of_mem_take hx), by rw [List.length_take]; omega⟩
    intro j u hu
    rw [List.getElem?_map] at hu
    cases hj : (zs.take len)[j]? with
    | none => rw [hj] at hu; cases hu
    | some x =>
      rw [hj] at hu
      cases hu
      have hjl : j < zs.length := by
        have := (List.getElem?_eq_some_iff.1 hj).1
        simp at this
        omega
      have hjx : zs.getD j 0 = x := by
        rw [List.getElem?_take] at hj
        split at hj
        · rw [List.getD_eq_getElem?_getD, hj]; rfl
        · cases hj
      have h00 : ∃ v0, W.cell? (a.add 0) = some v0 := ⟨_, hi 0 (by omega)⟩
      have hc := hi j hjl
      rw [hjx] at hc
      have q0 := cell_add hc h00
      exact ⟨a.block, a.off, by rw [← q0.1], q0.2.1, q0.2.2⟩
theorem open_ints22 {H : Type} {enc : TypeId × Value → H} {W : World} {base : Nat} {v1 : Value} {d1 : DataW H} {p1 : List MemPlace} (hv : Value.okWide Try.prog W .any base 22 v1) (h1 : DataW.Trod enc Try.prog W 0 (fun _ => true) true 22 v1 d1 p1) :
    ∃ A cap L, v1 = .slice A (List.length (α := Int) L) cap ∧ RowC W A (flat1 L) ∧ L.length ≤ maxLen := by
  obtain ⟨A, cap, L, h1, h2, _, h3⟩ := open_row Try.underlying22 Try.underlying3 cells3 hv h1
  exact ⟨A, cap, L, h1, h2, h3⟩
theorem open_bytes32 {H : Type} {enc : TypeId × Value → H} {W : World} {base : Nat} {v1 : Value} {d1 : DataW H} {p1 : List MemPlace} (hv : Value.okWide Try.prog W .any base 32 v1) (h1 : DataW.Trod enc Try.prog W 0 (fun _ => true) true 32 v1 d1 p1) :
    ∃ A cap L, v1 = .slice A (List.length (α := Int) L) cap ∧ RowC W A (flatU L) ∧ (∀ x ∈ L, 0 ≤ x ∧ x ≤ 255) ∧ L.length ≤ maxLen := by
  obtain ⟨A, cap, L, h1, h2, h4, h3⟩ := open_row Try.underlying32 Try.underlying5 cells5 hv h1
  exact ⟨A, cap, L, h1, h2, fun x hx => u8_of (h4 x hx), h3⟩
/-- a call: what it does, the item -/
abbrev Ac := Int × Ent
def Ac.ok (a : Ac) : Prop := 0 ≤ a.1 ∧ a.1 ≤ 255
def Acs (w : World) (A : Option Addr) (L : List Ac) : Prop :=
  ∀ i a, L[i]? = some a → Ac.ok a ∧ ∃ b o, A = some ⟨b, o, none⟩ ∧ b < w.heap.size ∧ w.cell? ⟨b, o + i * 3, none⟩ = some (.int .u8 a.1) ∧ w.cell? ⟨b, o + i * 3 + 1, none⟩ = some (.int .i64 a.2.1) ∧ w.cell? ⟨b, o + i * 3 + 2, none⟩ = some (.int .i64 a.2.2)
theorem Acs.only {w w' : World} {A : Option Addr} {L : List Ac} (h : Acs w A L) (ho : Only [] w w') : Acs w' A L := fun i s hs => by
  obtain ⟨hk, b, o, hA, hb, h0, h1, h2⟩ := h i s hs
  have := ho.size
  exact ⟨hk, b, o, hA, by omega, (ho.cell (p := ⟨b, _, none⟩) hb (by simp)).trans h0, (ho.cell (p := ⟨b, _, none⟩) hb (by simp)).trans h1, (ho.cell (p := ⟨b, _, none⟩) hb (by simp)).trans h2⟩
theorem item_of {H : Type} {enc : TypeId × Value → H} {W : World} {base : Nat} {sp : Nat → Bool} {held : Bool} {n : Nat} {c0 c1 : Value} {y : DataW H × List MemPlace} (h : DataW.trod enc Try.prog W base sp held n 49 [c0, c1] = some y) :
    ∃ a : Ent, c0 = .int .i64 a.1 ∧ c1 = .int .i64 a.2 := by
  obtain ⟨y0, y1, m, _, _, h0, h1⟩ := trod_struct2 Try.underlying49 h
  have e0 : ([c0, c1].drop 0).take (Try.prog.cellsOf 3) = [c0] := by rw [cells3]; rfl
  have e1 : ([c0, c1].drop 1).take (Try.prog.cellsOf 3) = [c1] := by rw [cells3]; rfl
  have h0' : DataW.trod enc Try.prog W base sp held m 3 [c0] = some y0 := by rw [← e0]; exact h0
  have h1' : DataW.trod enc Try.prog W base sp held m 3 [c1] = some y1 := by rw [← e1]; exact h1
  obtain ⟨x0, q0, _, _⟩ := DataW.trod_int Try.underlying3 h0'
  obtain ⟨x1, q1, _, _⟩ := DataW.trod_int Try.underlying3 h1'
  simp at q0 q1
  exact ⟨(x0, x1), q0, q1⟩
theorem act_of {H : Type} {enc : TypeId × Value → H} {W : World} {base : Nat} {sp : Nat → Bool} {held : Bool} {n : Nat} {c0 c1 c2 : Value} {y : DataW H × List MemPlace} (h : DataW.trod enc Try.prog W base sp held n 53 [c0, c1, c2] = some y) :
    ∃ a : Ac, c0 = .int .u8 a.1 ∧ c1 = .int .i64 a.2.1 ∧ c2 = .int .i64 a.2.2 ∧ Ac.ok a := by
  obtain ⟨y0, y1, m, _, _, h0, h1⟩ := trod_struct2 Try.underlying53 h
  have e0 : ([c0, c1, c2].drop 0).take (Try.prog.cellsOf 5) = [c0] := by rw [cells5]; rfl
  have e1 : ([c0, c1, c2].drop 1).take (Try.prog.cellsOf 49) = [c1, c2] := by rw [cells49]; rfl
  have h0' : DataW.trod enc Try.prog W base sp held m 5 [c0] = some y0 := by rw [← e0]; exact h0
  have h1' : DataW.trod enc Try.prog W base sp held m 49 [c1, c2] = some y1 := by rw [← e1]; exact h1
  obtain ⟨x0, q0, _, w0⟩ := DataW.trod_int Try.underlying5 h0'
  obtain ⟨s, rfl, rfl⟩ := item_of h1'
  simp at q0
  exact ⟨(x0, s), q0, rfl, rfl, u8_of w0⟩
theorem open_acts {H : Type} {enc : TypeId × Value → H} {W : World} {base : Nat} {v1 : Value} {d1 : DataW H} {p1 : List MemPlace} (hv : Value.okWide Try.prog W .any base 45 v1) (h1 : DataW.Trod enc Try.prog W 0 (fun _ => true) true 45 v1 d1 p1) :
    ∃ A cap L, v1 = .slice A (List.length (α := Ac) L) cap ∧ Acs W A L ∧ L.length ≤ maxLen := by
  obtain ⟨a0, len, cap, rfl⟩ := okWide_slice Try.underlying45 hv
  obtain ⟨fuel, hf⟩ := h1
  rcases open_slice Try.underlying45 hf with ⟨hcs, hx⟩ | ⟨a, len', cap', m, n, D, Pl, hcs, _, hl, hm, hmm, hx, hi⟩
  · simp [Value.cells] at hcs
    obtain ⟨rfl, rfl, rfl⟩ := hcs
    exact ⟨none, 0, [], rfl, fun i t h => by simp at h, by simp [maxLen]⟩
  · simp [Value.cells] at hcs
    obtain ⟨rfl, rfl, rfl⟩ := hcs
    simp at hmm
    subst hmm
    rw [cells53] at hi
    let g (j : Nat) : Int := match W.cell? (a.add j) with | some (.int _ n) => n | _ => 0
    refine ⟨some a, m, (List.range len).map fun i => (g (i * 3), g (i * 3 + 1), g (i * 3 + 2)), by simp, ?_, by simp; omega⟩
    have three (i : Nat) (hil : i < m) : ∃ s : Ac, Ac.ok s ∧ W.cell? (a.add (i * 3)) = some (.int .u8 s.1) ∧ W.cell? (a.add (i * 3 + 1)) = some (.int .i64 s.2.1) ∧ W.cell? (a.add (i * 3 + 2)) = some (.int .i64 s.2.2) := by
      obtain ⟨cs', hc, ht⟩ := hi i hil
      obtain ⟨_, hcl, hat⟩ := World.cells?_some hc
      match cs', hcl with
      | [c0, c1, c2], _ =>
        obtain ⟨s, rfl, rfl, rfl, ho⟩ := act_of ht
        refine ⟨s, ho, ?_, ?_, ?_⟩
        · have := hat 0 (by omega); rwa [Go.Deep.add_add] at this
        · have := hat 1 (by omega); rwa [Go.Deep.add_add] at this
        · have := hat 2 (by omega); rwa [Go.Deep.add_add] at this
    intro i t hdx
    have hil : i < len := by have := (List.getElem?_eq_some_iff.1 hdx).1; simpa using this
    have h00 : ∃ v0, W.cell? (a.add 0) = some v0 := by
      obtain ⟨s, _, h, _⟩ := three 0 (by omega)
      exact ⟨_, by simpa using h⟩
    obtain ⟨s, ho, c0, c1, c2⟩ := three i (by omega)
    have e0 : g (i * 3) = s.1 := by simp only [g]; rw [c0]
    have e1 : g (i * 3 + 1) = s.2.1 := by simp only [g]; rw [c1]
    have e2 : g (i * 3 + 2) = s.2.2 := by simp only [g]; rw [c2]
    simp [hil, e0, e1, e2] at hdx
    subst hdx
    have q0 := cell_add c0 h00
    have q1 := cell_add c1 h00
    have q2 := cell_add c2 h00
    exact ⟨ho, a.block, a.off, by rw [← q0.1], q0.2.1, q0.2.2, by simpa [Nat.add_assoc] using q1.2.2, by simpa [Nat.add_assoc] using q2.2.2⟩
end Go.Proofs.Ytpedlapemgjgaaa
