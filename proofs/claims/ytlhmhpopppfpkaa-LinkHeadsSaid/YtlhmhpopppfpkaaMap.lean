/- Keys that are pairs; elements that lead to memory. -/
import Derived.Test.YtlhmhpopppfpkaaQu3
import Derived.Maps.OwnOps
import Derived.Maps.OwnSet
import Derived.DeepKeys5
namespace Go.Proofs.Ytlhmhpopppfpkaa
open Go.RowKit Go.Kx Go.Maps
set_option maxRecDepth 100000

theorem ownK : ownKnob Try.checked.prog.godebug = none := by kernel_rfl
theorem laidK : laidOutB Try.checked.prog = true := by kernel_rfl
def I64 (z : Int) : Prop := -9223372036854775808 ≤ z ∧ z ≤ 9223372036854775807
theorem wf_of {z : Int} (h : I64 z) : (Lit.int .i64 z).wf = true := WalkArith.wf_i64 (by exact ⟨h.1, h.2⟩)
theorem wide50 : (match Try.prog.underlying 50 with | some (.array _ _) | some (.struct _) => true | _ => false) = true := by kernel_rfl
theorem law50 : Keyed Try.prog 50 := Keyed.of_law (deep_law_laid (P := Try.prog) laidK (m := 2) (by omega) (of_decide_eq_true (by kernel_rfl)) (by kernel_rfl) wide50)
def kl (a b : Int) : Lit := .string (keyBytes [.int .i64 a, .int .i64 b])
theorem key_of {a b : Int} (ha : I64 a) (hb : I64 b) : keyOf Try.prog 50 (.agg #[.int .i64 a, .int .i64 b]) = some (kl a b) := by
  have w1 := wf_of ha
  have w2 := wf_of hb
  have hkt : Try.prog.keyType 50 = true := by kernel_rfl
  have hsz : ∃ m, Try.prog.types.size = m + 1 := ⟨Try.prog.types.size - 1, by kernel_rfl⟩
  have hc50 : Try.prog.cellsOf 50 = 2 := by kernel_rfl
  have hc3 : Try.prog.cellsOf 3 = 1 := by kernel_rfl
  have h3 : ∀ m x, (Lit.int .i64 x).wf = true → Try.prog.keyLits (m + 1) 3 [.int .i64 x] = some [.int .i64 x] := fun m x hx => by
    unfold Program.keyLits
    rw [Try.underlying3]
    simp [hx]
  obtain ⟨m, hm⟩ := hsz
  have h50 : Try.prog.keyLits (m + 1 + 1) 50 [.int .i64 a, .int .i64 b] = some [.int .i64 a, .int .i64 b] := by
    unfold Program.keyLits
    rw [Try.underlying50]
    refine (if_pos (by rw [hc50]; exact ⟨rfl, by kernel_rfl⟩)).trans ?_
    simp only [List.mapM_cons, List.mapM_nil, List.drop_zero, List.drop_succ_cons, hc3, List.take_succ_cons, List.take_zero]
    rw [h3 m a w1, h3 m b w2]
    rfl
  unfold keyOf kl
  rw [Try.underlying50]
  simp only []
  rw [if_pos (by simp [hkt, Value.formed, Try.underlying50, hc50]), hm]
  show Option.map _ (Try.prog.keyLits (m + 1 + 1) 50 [.int .i64 a, .int .i64 b]) = _
  rw [h50]
  rfl
theorem kl_inj {a b c d : Int} (ha : I64 a) (hb : I64 b) (hc : I64 c) (hd : I64 d) (h : kl a b = kl c d) : a = c ∧ b = d := by
  have h1 := key_of ha hb
  have h2 := key_of hc hd
  rw [h] at h1
  have h3 := (deep_law_laid (P := Try.prog) laidK (m := 2) (by omega) (of_decide_eq_true (by kernel_rfl)) (by kernel_rfl) wide50).inj h1 h2
  simp at h3
  exact h3
end Go.Proofs.Ytlhmhpopppfpkaa
