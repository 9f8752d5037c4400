/- Heaps in an array: rising and sinking, plain. -/
import Derived.ProofKit
namespace Go.Kx

abbrev Ent := Int × Int
/-- less: by what they stand by, then by their keys -/
def elt (a b : Ent) : Prop := a.2 < b.2 ∨ (a.2 = b.2 ∧ a.1 < b.1)
instance (a b : Ent) : Decidable (elt a b) := by unfold elt; exact inferInstance
theorem elt_irrefl (a : Ent) : ¬ elt a a := by unfold elt; omega
theorem elt_asymm {a b : Ent} (h : elt a b) : ¬ elt b a := by unfold elt at *; omega
theorem nlt_trans {a b c : Ent} (h : ¬ elt b a) (k : ¬ elt c b) : ¬ elt c a := by unfold elt at *; omega
theorem nlt_of_lt {a b c : Ent} (h : elt a b) (k : ¬ elt c b) : ¬ elt c a := by unfold elt at *; omega

/-- what stands at a place -/
def gt_ (l : List Ent) (i : Nat) : Ent := l[i]?.getD (0, 0)

/-- a heap -/
def Heaped (l : List Ent) : Prop := ∀ c, 0 < c → c < l.length → ¬ elt (gt_ l c) (gt_ l ((c - 1) / 2))
/-- a heap but for what stands at i, which may rise or sink -/
def Rises (l : List Ent) (i : Nat) : Prop :=
  (∀ c, 0 < c → c < l.length → c ≠ i → (c - 1) / 2 ≠ i → ¬ elt (gt_ l c) (gt_ l ((c - 1) / 2))) ∧
  (∀ c, 0 < c → c < l.length → (c - 1) / 2 = i → 0 < i → ¬ elt (gt_ l c) (gt_ l ((i - 1) / 2)))
/-- a heap but for what stands at i, which may sink -/
def Sinks (l : List Ent) (i : Nat) : Prop :=
  (∀ c, 0 < c → c < l.length → (c - 1) / 2 ≠ i → ¬ elt (gt_ l c) (gt_ l ((c - 1) / 2))) ∧
  (∀ c, 0 < c → c < l.length → (c - 1) / 2 = i → 0 < i → ¬ elt (gt_ l c) (gt_ l ((i - 1) / 2)))

/-- two change places -/
def swp (l : List Ent) (i j : Nat) : List Ent := (l.set i (gt_ l j)).set j (gt_ l i)
theorem swp_length (l : List Ent) (i j : Nat) : (swp l i j).length = l.length := by simp [swp]
theorem gt_swp {l : List Ent} {i j : Nat} (hi : i < l.length) (hj : j < l.length) (k : Nat) :
    gt_ (swp l i j) k = if k = j then gt_ l i else if k = i then gt_ l j else gt_ l k := by
  unfold swp gt_
  by_cases h1 : k = j
  · subst h1; simp [hj]
  · by_cases h2 : k = i
    · subst h2; simp [h1, Ne.symm h1, hi]
    · simp [h1, h2, Ne.symm h1, Ne.symm h2]

theorem Rises.up {l : List Ent} {i : Nat} (h : Rises l i) (hi : i < l.length) (h0 : 0 < i) (hlt : elt (gt_ l i) (gt_ l ((i - 1) / 2))) : Rises (swp l i ((i - 1) / 2)) ((i - 1) / 2) := by
  obtain ⟨ha, hb⟩ := h
  have hp : (i - 1) / 2 < i := by omega
  have hp' : (i - 1) / 2 < l.length := by omega
  generalize hpp : (i - 1) / 2 = p at *
  refine ⟨fun c c0 cl cp cq => ?_, fun c c0 cl cp p0 => ?_⟩
  · rw [swp_length] at cl
    rw [gt_swp hi hp', gt_swp hi hp']
    rw [if_neg cp, if_neg cq]
    have ci : c ≠ i := fun e => cq (by rw [e]; exact hpp)
    rw [if_neg ci]
    by_cases hci : (c - 1) / 2 = i
    · rw [if_pos hci]
      exact hb c c0 cl hci h0
    · rw [if_neg hci]
      exact ha c c0 cl ci hci
  · rw [swp_length] at cl
    have hg : (p - 1) / 2 < p := by omega
    rw [gt_swp hi hp', gt_swp hi hp', if_neg (by omega), if_neg (show (p - 1) / 2 ≠ p by omega), if_neg (show (p - 1) / 2 ≠ i by omega)]
    have k1 : ¬ elt (gt_ l p) (gt_ l ((p - 1) / 2)) := ha p p0 hp' (by omega) (by omega)
    by_cases hci : c = i
    · rw [if_pos hci]; exact k1
    · rw [if_neg hci]
      have k2 : ¬ elt (gt_ l c) (gt_ l ((c - 1) / 2)) := ha c c0 cl hci (by omega)
      rw [cp] at k2
      exact nlt_trans k1 k2

theorem Rises.stay {l : List Ent} {i : Nat} (h : Rises l i) (hs : i = 0 ∨ ¬ elt (gt_ l i) (gt_ l ((i - 1) / 2))) : Sinks l i := by
  refine ⟨fun c c0 cl cp => ?_, h.2⟩
  by_cases hc : c = i
  · subst hc
    rcases hs with hs | hs
    · omega
    · exact hs
  · exact h.1 c c0 cl hc cp

theorem Sinks.down {l : List Ent} {i s : Nat} (h : Sinks l i) (hs : s = 2 * i + 1 ∨ s = 2 * i + 2) (hsl : s < l.length) (hlt : elt (gt_ l s) (gt_ l i))
    (hmin : ∀ c, (c = 2 * i + 1 ∨ c = 2 * i + 2) → c < l.length → ¬ elt (gt_ l c) (gt_ l s)) : Sinks (swp l i s) s := by
  obtain ⟨ha, hb⟩ := h
  have hi : i < l.length := by omega
  have hpi : (s - 1) / 2 = i := by omega
  refine ⟨fun c c0 cl cp => ?_, fun c c0 cl cp s0 => ?_⟩
  · rw [swp_length] at cl
    rw [gt_swp hi hsl, gt_swp hi hsl]
    rw [if_neg cp]
    by_cases hcs : c = s
    · subst hcs
      rw [if_pos rfl, if_pos hpi]
      exact elt_asymm hlt
    · rw [if_neg hcs]
      by_cases hci : c = i
      · subst hci
        rw [if_pos rfl, if_neg (by omega)]
        exact hb s (by omega) hsl hpi c0
      · rw [if_neg hci]
        by_cases hpc : (c - 1) / 2 = i
        · rw [if_pos hpc]
          exact hmin c (by omega) cl
        · rw [if_neg hpc]
          exact ha c c0 cl hpc
  · rw [swp_length] at cl
    rw [gt_swp hi hsl, gt_swp hi hsl, if_neg (by omega), if_neg (by omega), hpi, if_neg (by omega), if_pos rfl]
    have := ha c c0 cl (by omega)
    rwa [cp] at this

theorem Sinks.done {l : List Ent} {i : Nat} (h : Sinks l i) (hmin : ∀ c, (c = 2 * i + 1 ∨ c = 2 * i + 2) → c < l.length → ¬ elt (gt_ l c) (gt_ l i)) : Heaped l := by
  intro c c0 cl
  by_cases hp : (c - 1) / 2 = i
  · rw [hp]; exact hmin c (by omega) cl
  · exact h.1 c c0 cl hp

theorem Heaped.min {l : List Ent} (h : Heaped l) : ∀ c, c < l.length → ¬ elt (gt_ l c) (gt_ l 0) := by
  intro c
  induction c using Nat.strongRecOn with
  | ind c ih =>
    intro hc
    rcases Nat.eq_zero_or_pos c with h0 | h0
    · subst h0; exact elt_irrefl _
    · exact nlt_trans (ih _ (by omega) (by omega)) (h c h0 hc)

theorem Heaped.sinks {l : List Ent} (h : Heaped l) (i : Nat) : Sinks l i :=
  ⟨fun c c0 cl _ => h c c0 cl, fun c c0 cl cp i0 => by
    have k1 := h c c0 cl
    rw [cp] at k1
    exact nlt_trans (h i i0 (by omega)) k1⟩
theorem Sinks.rises {l : List Ent} {i : Nat} (h : Sinks l i) : Rises l i := ⟨fun c c0 cl _ cp => h.1 c c0 cl cp, h.2⟩

/-- anything may be laid at a place of a heap: it may then rise or sink -/
theorem Rises.set {l : List Ent} {i : Nat} (h : Rises l i) (x : Ent) : Rises (l.set i x) i := by
  refine ⟨fun c c0 cl ci cp => ?_, fun c c0 cl cp i0 => ?_⟩
  · simp at cl
    have := h.1 c c0 cl ci cp
    unfold gt_ at *
    rw [List.getElem?_set_ne (Ne.symm ci), List.getElem?_set_ne (Ne.symm cp)]
    exact this
  · simp at cl
    have := h.2 c c0 cl cp i0
    unfold gt_ at *
    rw [List.getElem?_set_ne (by omega), List.getElem?_set_ne (by omega)]
    exact this
/-- something laid behind a heap may rise -/
theorem Heaped.push {l : List Ent} (h : Heaped l) (x : Ent) : Rises (l ++ [x]) l.length := by
  refine ⟨fun c c0 cl ci cp => ?_, fun c c0 cl cp i0 => ?_⟩
  · simp at cl
    have hc : c < l.length := by omega
    have := h c c0 hc
    unfold gt_ at *
    rw [List.getElem?_append_left hc, List.getElem?_append_left (by omega)]
    exact this
  · simp at cl; omega
/-- a heap without its end is a heap -/
theorem Heaped.front {l : List Ent} (h : Heaped l) (n : Nat) : Heaped (l.take n) := by
  intro c c0 cl
  rw [List.length_take] at cl
  have := h c c0 (by omega)
  unfold gt_ at *
  rw [List.getElem?_take_of_lt (by omega), List.getElem?_take_of_lt (by omega)]
  exact this
theorem Rises.front {l : List Ent} {i : Nat} (h : Rises l i) (n : Nat) : Rises (l.take n) i := by
  refine ⟨fun c c0 cl ci cp => ?_, fun c c0 cl cp i0 => ?_⟩
  · rw [List.length_take] at cl
    have := h.1 c c0 (by omega) ci cp
    unfold gt_ at *
    rw [List.getElem?_take_of_lt (by omega), List.getElem?_take_of_lt (by omega)]
    exact this
  · rw [List.length_take] at cl
    have := h.2 c c0 (by omega) cp i0
    unfold gt_ at *
    rw [List.getElem?_take_of_lt (by omega), List.getElem?_take_of_lt (by omega)]
    exact this

theorem swp_perm {l : List Ent} {i j : Nat} (hi : i < l.length) (hj : j < l.length) : (swp l i j).Perm l := by
  unfold swp gt_
  simp only [List.getElem?_eq_getElem hi, List.getElem?_eq_getElem hj, Option.getD_some]
  exact List.set_set_perm hi hj
end Go.Kx
