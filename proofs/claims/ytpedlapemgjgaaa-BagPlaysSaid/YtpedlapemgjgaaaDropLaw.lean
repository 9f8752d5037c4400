/- Drop: plain law. -/
import Derived.Test.YtpedlapemgjgaaaMerge
namespace Go.Bag
open Go.Proofs.Ytpedlapemgjgaaa
section
variable {α : Type} {key : α → Int}
theorem Sorted.ahead {L : List α} (h : Sorted key L) (k : Int) : (∀ y ∈ L.take (aheadB key L k), key y < k) ∧ ∀ y ∈ L.drop (aheadB key L k), k ≤ key y := by
  unfold aheadB
  induction L with
  | nil => exact ⟨fun y h => by simp at h, fun y h => by simp at h⟩
  | cons a r ih =>
    have hp := List.pairwise_cons.1 h
    obtain ⟨i1, i2⟩ := ih hp.2
    by_cases ha : key a < k
    · rw [List.countP_cons_of_pos (by simpa using ha)]
      refine ⟨fun y hy => ?_, fun y hy => ?_⟩
      · rw [List.take_succ_cons] at hy
        rcases List.mem_cons.1 hy with rfl | hy
        · exact ha
        · exact i1 y hy
      · rw [List.drop_succ_cons] at hy
        exact i2 y hy
    · have h0 : r.countP (fun e => decide (key e < k)) = 0 := by
        rw [List.countP_eq_zero]
        intro x hx
        have := hp.1 x hx
        simp
        omega
      rw [List.countP_cons_of_neg (by simpa using ha), h0]
      refine ⟨fun y hy => by simp at hy, fun y hy => ?_⟩
      rw [List.drop_zero] at hy
      rcases List.mem_cons.1 hy with rfl | hy
      · omega
      · have := hp.1 y hy
        omega
end
end Go.Bag
