/- QueueOrder: for every room and every list of calls the law answers true, and its arguments read as they did. Conditions: none. -/
import Derived.Test.YtdneihlpdnhhnaaWalks5
import Derived.Test.YtdneihlpdnhhnaaLaw
namespace Go.Proofs.Ytdneihlpdnhhnaa
open Go.ChangeShapes Go.WideShapes Go.ChangeAt Go.RowKit Go.Deep Go.Kx

theorem ownK : ownKnob Try.prog.godebug = none := by kernel_rfl
theorem laidK : laidOutB Try.prog = true := by kernel_rfl

theorem act_one {n : Nat} {W : World} {H : Type} {enc : TypeId × Value → H} {P : Program} {base : Nat} {spare : Nat → Bool} {held : Bool} {k : IntKind} {t : TypeId} (ht : P.underlying t = some (.int k)) {v : Value} {y : DataW H × List MemPlace} (h : DataW.trod enc P W base spare held n t [v] = some y) :
    ∃ x, v = .int k x ∧ (Lit.int k x).wf = true := by
  obtain ⟨x, e, _, hw⟩ := DataW.trod_int ht h
  simp at e
  exact ⟨x, e, hw⟩

theorem open_acts {H : Type} {enc : TypeId × Value → H} {W : World} {base : Nat} {v1 : Value} {d1 : DataW H} {p1 : List MemPlace} (hv : Value.okWide Try.prog W .any base 22 v1) (h1 : DataW.Trod enc Try.prog W 0 (fun _ => true) true 22 v1 d1 p1) :
    ∃ A cap L, v1 = .slice A (List.length (α := Int × Int) L) cap ∧ Acts W A L ∧ L.length ≤ maxLen := by
  obtain ⟨a0, len, cap, rfl⟩ := okWide_slice Try.underlying22 hv
  obtain ⟨fuel, hf⟩ := h1
  rcases open_slice_fields Try.underlying22 Try.underlying29 (by kernel_rfl) (by kernel_rfl) hf with ⟨hcs, hx⟩ | ⟨a, len', cap', m, D, Pl, hcs, _, hl, hm, hmm, hx, hi⟩
  · simp [Value.cells] at hcs
    obtain ⟨rfl, rfl, rfl⟩ := hcs
    exact ⟨none, 0, [], rfl, fun i d x h => by simp at h, by simp [maxLen]⟩
  · simp [Value.cells] at hcs
    obtain ⟨rfl, rfl, rfl⟩ := hcs
    simp at hmm
    subst hmm
    let g (j : Nat) : Int := match W.cell? (a.add j) with | some (.int _ n) => n | _ => 0
    refine ⟨some a, m, (List.range len).map fun i => (g (i * 2), g (i * 2 + 1)), by simp, ?_, by simp; omega⟩
    intro i d x hdx
    have hil : i < len := by have := (List.getElem?_eq_some_iff.1 hdx).1; simpa using this
    have h00 : ∃ v0, W.cell? (a.add 0) = some v0 := by
      obtain ⟨ys, n, _, _, _, hfs⟩ := hi 0 (by omega)
      obtain ⟨v, y, hc, _⟩ := hfs 0 _ rfl
      exact ⟨v, by simpa using hc⟩
    obtain ⟨ys, n, _, _, _, hfs⟩ := hi i (by omega)
    obtain ⟨v0, y0, hc0, _, ht0⟩ := hfs 0 _ rfl
    obtain ⟨v1, y1, hc1, _, ht1⟩ := hfs 1 _ rfl
    obtain ⟨z0, rfl, hz0⟩ := act_one Try.underlying5 ht0
    obtain ⟨z1, rfl, hz1⟩ := act_one Try.underlying3 ht1
    have q0 := cell_add hc0 h00
    have q1 := cell_add hc1 h00
    have e0 : g (i * 2) = z0 := by simp only [g]; simp at hc0; rw [hc0]
    have e1 : g (i * 2 + 1) = z1 := by simp only [g]; simp at hc1; rw [hc1]
    simp [hil, e0, e1] at hdx
    obtain ⟨rfl, rfl⟩ := hdx
    have hb : 0 ≤ z0 ∧ z0 ≤ 255 := by simpa [Lit.wf, IntKind.min, IntKind.max, IntKind.signed, IntKind.bits] using hz0
    exact ⟨hb.1, hb.2, a.block, a.off, by rw [← q0.1], q0.2.1, q0.2.2, by simpa [Nat.add_assoc] using q1.2.2⟩

set_option maxRecDepth 100000 in
theorem order_lifted (os : Os) (started : os.Started) (H : Type) (enc : TypeId × Value → H) :
    ReturnsInHanded {} Try.checked os 3 .any (Rows.queueOrderSpec.pre6 enc Try.prog Try.f3 Rows.queueOrderRow.domain false) (Rows.queueOrderSpec.post enc Try.prog Try.f3 false true false false) := by
  refine law_lifted (C := Try.checked) (tb := 4) ownK started (by kernel_rfl) Try.func3
    (ChangeSpec.witness6 (enc := enc) (C := Try.checked) false ⟨#[], #[.int .i64 0, .slice none 0 0], []⟩ 8 (by kernel_rfl) (by kernel_rfl) (by kernel_rfl) (by kernel_rfl))
    laidK (by kernel_rfl) (by kernel_rfl) Try.underlying4 rfl (fun ds h => by match ds, h with | [_, _], _ => rfl) ?_
  intro W base args ds ps hval0 hA0 hlt hsz
  have hval : ∀ (j : Nat) t v, Try.f3.params[j]? = some t → args[j]? = some v → Value.okWide Try.prog W .any base t v := hval0
  have hA : DataW.TrodAll enc Try.prog W 0 (fun _ => true) true Try.f3.params.toList args.toList ds ps := hA0
  rw [Try.params3] at hA hval
  obtain ⟨v0, v1, d0, d1, p0, p1, rfl, rfl, rfl, h0, h1⟩ := trodAll_two hA
  obtain ⟨room, rfl, rfl, rfl, wa⟩ := open_int Try.underlying3 (hval 0 3 v0 rfl rfl) h0
  obtain ⟨A, cap, L, rfl, hacts, hlen⟩ := open_acts (hval 1 22 v1 rfl rfl) h1
  have hr : -9223372036854775808 ≤ room ∧ room ≤ 9223372036854775807 := by simpa [Lit.wf, IntKind.min, IntKind.max, IntKind.signed, IntKind.bits] using wa
  exact (order_any room A cap L W hacts (by unfold maxLen at hlen; omega) hr).mono fun e W' ⟨he, ho⟩ => ⟨he, ho.below (Nat.le_refl _) (by simp)⟩

theorem order_holds : Rows.QueueOrderSaid :=
  OpenClaim.holds_of_wide 3 Try.f3 rfl rfl rfl rfl rfl rfl rfl ⟨rfl, rfl, rfl, rfl, rfl⟩ rfl rfl rfl rfl rfl (by kernel_rfl) Try.func3 (by kernel_rfl)
    (of_decide_eq_true (by kernel_rfl)) (by unfold Func.isWrapper; first | (rw [if_pos (by decide +kernel)]; kernel_rfl) | (rw [if_neg (by decide +kernel)]; exact ⟨rfl, rfl⟩))
    (fun os started H enc _ => order_lifted os started H enc)

end Go.Proofs.Ytdneihlpdnhhnaa
