/- Insertion and merging of sorted lists: plain law. -/
import Derived.Test.YtpedlapemgjgaaaStab
namespace Go.Bag
section
variable {α : Type} {key : α → Int}
theorem take_drop_sorted {M : List α} (h : Sorted key M) (s : Nat) : Sorted key (M.take s) ∧ Sorted key (M.drop s) ∧ ∀ x ∈ M.take s, ∀ y ∈ M.drop s, key x ≤ key y := by
  rw [← List.take_append_drop s M] at h
  exact ⟨h.left, h.right, h.cross⟩
theorem le_take {M : List α} (h : Sorted key M) {s : Nat} {x : α} (hx : ∀ y, 0 < s → M[s - 1]? = some y → key y ≤ key x) (hs : s ≤ M.length) : ∀ y ∈ M.take s, key y ≤ key x := by
  intro y hy
  rcases Nat.eq_zero_or_pos s with h0 | h0
  · subst h0; simp at hy
  · obtain ⟨z, hz⟩ : ∃ z, M[s - 1]? = some z := ⟨_, List.getElem?_eq_getElem (by omega)⟩
    have h1 := hx z h0 hz
    obtain ⟨i, hi⟩ := List.getElem?_of_mem hy
    have hil : i < s := by
      have := (List.getElem?_eq_some_iff.1 hi).1
      simp at this
      omega
    rw [List.getElem?_take_of_lt hil] at hi
    rcases Nat.lt_or_ge i (s - 1) with h2 | h2
    · have h3 := List.pairwise_iff_getElem.1 h i (s - 1) (by omega) (by omega) h2
      rw [List.getElem?_eq_getElem (by omega)] at hi hz
      injection hi with hi
      injection hz with hz
      rw [hi, hz] at h3
      omega
    · have : i = s - 1 := by omega
      subst this
      rw [hz] at hi
      injection hi with hi
      subst hi
      exact h1
/-- where x belongs, behind those that it is level with -/
theorem ins_mid {M : List α} (h : Sorted key M) {s : Nat} {x : α} (_hs : s ≤ M.length) (hc : ∀ c ∈ M.drop s, key x < key c) (ha : ∀ y ∈ M.take s, key y ≤ key x) : M.take s ++ x :: M.drop s = st key (M ++ [x]) := by
  obtain ⟨h1, h2, h3⟩ := take_drop_sorted h s
  refine st_uniq ?_ ?_
  · refine Sorted.app h1 (List.pairwise_cons.2 ⟨fun c hc2 => Int.le_of_lt (hc c hc2), h2⟩) (fun y hy c hc2 => ?_)
    rcases List.mem_cons.1 hc2 with rfl | hc2
    · exact ha y hy
    · exact h3 y hy c hc2
  · have e : M ++ [x] = M.take s ++ (M.drop s ++ [x]) := by rw [← List.append_assoc, List.take_append_drop]
    rw [e]
    refine (Eqv.refl _).app ?_
    have : Eqv key ([x] ++ M.drop s) (M.drop s ++ [x]) := Eqv.comm (fun a hx b hb => by
      simp at hx
      subst hx
      have := hc b hb
      omega)
    exact this
/-- where x belongs, ahead of those that it is level with -/
theorem ins_front {M : List α} (h : Sorted key M) {s : Nat} {x : α} (hc : ∀ c ∈ M.drop s, key x ≤ key c) (ha : ∀ y ∈ M.take s, key y < key x) : M.take s ++ x :: M.drop s = st key (x :: M) := by
  obtain ⟨h1, h2, h3⟩ := take_drop_sorted h s
  refine st_uniq ?_ ?_
  · refine Sorted.app h1 (List.pairwise_cons.2 ⟨fun c hc2 => hc c hc2, h2⟩) (fun y hy c hc2 => ?_)
    rcases List.mem_cons.1 hc2 with rfl | hc2
    · exact Int.le_of_lt (ha y hy)
    · exact h3 y hy c hc2
  · have e : x :: M = ([x] ++ M.take s) ++ M.drop s := by rw [List.append_assoc, List.take_append_drop]; rfl
    have e2 : M.take s ++ x :: M.drop s = (M.take s ++ [x]) ++ M.drop s := by simp
    rw [e, e2]
    refine Eqv.app ?_ (Eqv.refl _)
    exact Eqv.comm (fun a hx b hb => by
      simp at hb
      subst hb
      have := ha a hx
      omega)
/-- two halves, each merged by itself -/
theorem merge_halves {A1 A2 B1 B2 : List α} (hA : Sorted key (A1 ++ A2)) (hB : Sorted key (B1 ++ B2)) (h1 : ∀ x ∈ A1, ∀ y ∈ B2, key x ≤ key y) (h2 : ∀ x ∈ B1, ∀ y ∈ A2, key x < key y) :
    st key (A1 ++ B1) ++ st key (A2 ++ B2) = st key ((A1 ++ A2) ++ (B1 ++ B2)) := by
  refine st_uniq ?_ ?_
  · refine Sorted.app (st_sorted _) (st_sorted _) (fun x hx y hy => ?_)
    have hx2 := (st_eqv (key := key) (A1 ++ B1)).mem.1 hx
    have hy2 := (st_eqv (key := key) (A2 ++ B2)).mem.1 hy
    rcases List.mem_append.1 hx2 with hx3 | hx3 <;> rcases List.mem_append.1 hy2 with hy3 | hy3
    · exact hA.cross x hx3 y hy3
    · exact h1 x hx3 y hy3
    · exact Int.le_of_lt (h2 x hx3 y hy3)
    · exact hB.cross x hx3 y hy3
  · refine ((st_eqv _).app (st_eqv _)).trans ?_
    have e : A1 ++ B1 ++ (A2 ++ B2) = A1 ++ ((B1 ++ A2) ++ B2) := by simp
    have e2 : (A1 ++ A2) ++ (B1 ++ B2) = A1 ++ ((A2 ++ B1) ++ B2) := by simp
    rw [e, e2]
    exact (Eqv.refl _).app ((Eqv.comm (fun x hx y hy => by have := h2 x hx y hy; omega)).app (Eqv.refl _))
theorem at_mono {M : List α} (h : Sorted key M) {i j : Nat} {x y : α} (hij : i ≤ j) (hx : M[i]? = some x) (hy : M[j]? = some y) : key x ≤ key y := by
  have hi := (List.getElem?_eq_some_iff.1 hx).1
  have hj := (List.getElem?_eq_some_iff.1 hy).1
  rcases Nat.lt_or_ge i j with h1 | h1
  · have h3 := List.pairwise_iff_getElem.1 h i j hi hj h1
    rw [List.getElem?_eq_getElem hi] at hx
    rw [List.getElem?_eq_getElem hj] at hy
    injection hx with hx
    injection hy with hy
    rwa [hx, hy] at h3
  · have : i = j := by omega
    subst this
    rw [hx] at hy
    injection hy with hy
    rw [hy]
    exact Int.le_refl _
end
/-- how two numbers stand to each other -/
def cmpZ (x y : Int) : Int := if x < y then -1 else if y < x then 1 else 0
theorem cmpZ_neg (x y : Int) : decide (cmpZ x y < 0) = decide (x < y) := by
  unfold cmpZ
  rw [decide_eq_decide]
  split
  · rename_i h; simp [h]
  · rename_i h
    split <;> omega
theorem cmpZ_pos (x y : Int) : decide (0 < cmpZ x y) = decide (y < x) := by
  unfold cmpZ
  rw [decide_eq_decide]
  split
  · omega
  · split <;> omega
theorem cmpZ_range (x y : Int) : -1 ≤ cmpZ x y ∧ cmpZ x y ≤ 1 := by
  unfold cmpZ
  split
  · omega
  · split <;> omega
end Go.Bag
