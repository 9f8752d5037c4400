/- Merging a sorted list into a sorted list, thing by thing: plain law. -/
import Derived.Test.YtpedlapemgjgaaaAhead
namespace Go.Bag
open Go.Proofs.Ytpedlapemgjgaaa
section
variable {α : Type} {key : α → Int}
/-- k of M are merged, and d of L -/
structure Mrg (key : α → Int) (L M O : List α) (d k : Nat) : Prop where
  out : O = st key (L.take d ++ M.take k)
  low : ∀ e ∈ M.take k, ∀ y ∈ L.drop d, key e < key y
  up : ∀ y ∈ L.take d, ∀ x ∈ M.drop k, key y ≤ key x
theorem Mrg.start (L M : List α) : Mrg key L M [] 0 0 := ⟨rfl, fun e h => by simp at h, fun y h => by simp at h⟩
theorem Sorted.behind {L : List α} (h : Sorted key L) (k : Int) : (∀ y ∈ L.take (behindB key L k), key y ≤ k) ∧ ∀ y ∈ L.drop (behindB key L k), k < key y := by
  unfold behindB
  induction L with
  | nil => exact ⟨fun y h => by simp at h, fun y h => by simp at h⟩
  | cons a r ih =>
    have hp := List.pairwise_cons.1 h
    obtain ⟨i1, i2⟩ := ih hp.2
    by_cases ha : key a ≤ k
    · rw [List.countP_cons_of_pos (by simpa using ha)]
      refine ⟨fun y hy => ?_, fun y hy => ?_⟩
      · rw [List.take_succ_cons] at hy
        rcases List.mem_cons.1 hy with rfl | hy
        · exact ha
        · exact i1 y hy
      · rw [List.drop_succ_cons] at hy
        exact i2 y hy
    · have h0 : r.countP (fun e => decide (key e ≤ k)) = 0 := by
        rw [List.countP_eq_zero]
        intro x hx
        have := hp.1 x hx
        simp
        omega
      rw [List.countP_cons_of_neg (by simpa using ha), h0]
      refine ⟨fun y hy => by simp at hy, fun y hy => ?_⟩
      rw [List.drop_zero] at hy
      rcases List.mem_cons.1 hy with rfl | hy
      · omega
      · have := hp.1 y hy
        omega
theorem behindB_le (L : List α) (k : Int) : behindB key L k ≤ L.length := List.countP_le_length
theorem aheadB_le (L : List α) (k : Int) : aheadB key L k ≤ L.length := List.countP_le_length
theorem Mrg.step {L M O : List α} {d k : Nat} {x : α} (h : Mrg key L M O d k) (hL : Sorted key L) (hM : Sorted key M) (hx : M[k]? = some x) :
    Mrg key L M ((O ++ (L.drop d).take (behindB key (L.drop d) (key x))) ++ [x]) (d + behindB key (L.drop d) (key x)) (k + 1) := by
  obtain ⟨l1, l2, l3⟩ := take_drop_sorted hL d
  obtain ⟨m1, m2, m3⟩ := take_drop_sorted hM k
  obtain ⟨b1, b2⟩ := Sorted.behind l2 (key x)
  generalize behindB key (L.drop d) (key x) = b at b1 b2 ⊢
  have hk : k < M.length := (List.getElem?_eq_some_iff.1 hx).1
  have e1 : M.take (k + 1) = M.take k ++ [x] := by rw [List.take_add_one, hx]; rfl
  have e2 : M.drop k = x :: M.drop (k + 1) := by
    rw [List.drop_eq_getElem_cons hk]
    rw [List.getElem?_eq_getElem hk] at hx
    rw [Option.some.inj hx]
  have e3 : L.take (d + b) = L.take d ++ (L.drop d).take b := by rw [List.take_add]
  have e4 : L.drop (d + b) = (L.drop d).drop b := by rw [List.drop_drop]
  have hxm : x ∈ M.drop k := by rw [e2]; exact List.mem_cons_self ..
  have hOm : ∀ y, y ∈ O ↔ y ∈ L.take d ∨ y ∈ M.take k := fun y => by
    rw [h.out, (st_eqv (key := key) _).mem, List.mem_append]
  have hU : ∀ y ∈ (L.drop d).take b, y ∈ L.drop d := fun y hy => List.mem_of_mem_take hy
  have hV : ∀ y ∈ (L.drop d).drop b, y ∈ L.drop d := fun y hy => List.mem_of_mem_drop hy
  refine ⟨?_, ?_, ?_⟩
  · rw [e1, e3]
    refine st_uniq ?_ ?_
    · refine Sorted.app (Sorted.app (by rw [h.out]; exact st_sorted _) (take_drop_sorted l2 b).1 (fun y hy z hz => ?_)) (by simp [Sorted]) (fun y hy z hz => ?_)
      · rcases (hOm y).1 hy with hy | hy
        · exact l3 y hy z (hU z hz)
        · exact Int.le_of_lt (h.low y hy z (hU z hz))
      · simp at hz
        subst hz
        rcases List.mem_append.1 hy with hy | hy
        · rcases (hOm y).1 hy with hy | hy
          · exact h.up y hy _ hxm
          · exact m3 y hy _ hxm
        · exact b1 y hy
    · have e5 : (O ++ (L.drop d).take b) ++ [x] = O ++ ((L.drop d).take b ++ [x]) := by rw [List.append_assoc]
      have e6 : (L.take d ++ (L.drop d).take b) ++ (M.take k ++ [x]) = L.take d ++ (((L.drop d).take b ++ M.take k) ++ [x]) := by simp only [List.append_assoc]
      rw [e5, e6, h.out]
      refine ((st_eqv _).app (Eqv.refl _)).trans ?_
      have e7 : L.take d ++ M.take k ++ ((L.drop d).take b ++ [x]) = L.take d ++ ((M.take k ++ (L.drop d).take b) ++ [x]) := by simp only [List.append_assoc]
      rw [e7]
      refine (Eqv.refl _).app (Eqv.app ?_ (Eqv.refl _))
      exact Eqv.comm (fun a ha c hc => by have := h.low a ha c (hU c hc); omega)
  · rw [e1, e4]
    intro e he y hy
    rcases List.mem_append.1 he with he | he
    · exact h.low e he y (hV y hy)
    · simp at he
      subst he
      exact b2 y hy
  · rw [e3]
    intro y hy z hz
    have hzk : z ∈ M.drop k := by rw [e2]; exact List.mem_cons_of_mem _ hz
    rcases List.mem_append.1 hy with hy | hy
    · exact h.up y hy z hzk
    · have h1 := b1 y hy
      rw [e2] at m2
      have h2 := (List.pairwise_cons.1 m2).1 z hz
      omega
theorem Mrg.done {L M O : List α} {d : Nat} (h : Mrg key L M O d M.length) (hL : Sorted key L) : O ++ L.drop d = st key (L ++ M) := by
  obtain ⟨l1, l2, l3⟩ := take_drop_sorted hL d
  have ho := h.out
  have hl := h.low
  rw [List.take_of_length_le (Nat.le_refl _)] at ho hl
  refine st_uniq ?_ ?_
  · refine Sorted.app (by rw [ho]; exact st_sorted _) l2 (fun y hy z hz => ?_)
    rw [ho, (st_eqv (key := key) _).mem, List.mem_append] at hy
    rcases hy with hy | hy
    · exact l3 y hy z hz
    · exact Int.le_of_lt (hl y hy z hz)
  · rw [ho]
    refine ((st_eqv _).app (Eqv.refl _)).trans ?_
    have e : L ++ M = L.take d ++ (L.drop d ++ M) := by rw [← List.append_assoc, List.take_append_drop]
    rw [e, List.append_assoc]
    exact (Eqv.refl _).app (Eqv.comm (fun a ha c hc => by have := hl a ha c hc; omega))
end
end Go.Bag
