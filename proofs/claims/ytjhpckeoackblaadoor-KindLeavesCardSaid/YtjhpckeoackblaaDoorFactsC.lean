/- Regions that draw their order: the last operation waits, by way of others, for all that stand before it. -/
import Derived.Test.YtjhpckeoackblaaDoorFacts
namespace Go.Kx
open Go

section
variable {P : Program} {ops : Array Oper} {Q : Exit → Act → World → Prop}

def tailTail (ops : Array Oper) (m : Nat) : Bool :=
  (List.range ops.size).all fun j => decide (j < m) || match ops[j]? with | none => true | some o => (List.range j).all fun i => decide (i < m) || o.after.any fun e => Region.binds .any e && e.on == i
theorem tailTail_spec {m : Nat} (h : tailTail ops m = true) {i k : Nat} (hm : m ≤ k) {o : Oper} (ho : ops[i]? = some o) (hk : k < i) : ∃ e ∈ o.after, Region.binds .any e = true ∧ e.on = k := by
  unfold tailTail at h
  rw [List.all_eq_true] at h
  have h1 := h i (List.mem_range.2 (Array.getElem?_eq_some_iff.1 ho).1)
  rw [ho] at h1
  simp only [Bool.or_eq_true, decide_eq_true_eq, List.all_eq_true, List.mem_range] at h1
  rcases h1 with h1 | h1
  · omega
  · rcases h1 k hk with h2 | h2
    · omega
    · obtain ⟨e, he, hb⟩ := Array.any_eq_true'.1 h2
      simp only [Bool.and_eq_true, beq_iff_eq] at hb
      exact ⟨e, he, hb.1, hb.2⟩
def reaches (ops : Array Oper) : Nat → Nat → Nat → Bool
  | 0, _, _ => false
  | n + 1, j, i => match ops[j]? with | none => false | some o => o.after.any fun e => Region.binds .any e && (e.on == i || reaches ops n e.on i)
def tailReach (ops : Array Oper) (m : Nat) : Bool :=
  (List.range ops.size).all fun j => decide (j < m) || (List.range m).all fun i => reaches ops ops.size j i
theorem tailReach_spec {m : Nat} (h : tailReach ops m = true) {j i : Nat} (hm : m ≤ j) (hj : j < ops.size) (hi : i < m) : reaches ops ops.size j i = true := by
  unfold tailReach at h
  rw [List.all_eq_true] at h
  have h1 := h j (List.mem_range.2 hj)
  simp only [Bool.or_eq_true, decide_eq_true_eq, List.all_eq_true, List.mem_range] at h1
  rcases h1 with h1 | h1
  · omega
  · exact h1 i hi
def Closed (ops : Array Oper) (L : Array Bool) : Prop := ∀ j o, L.getD j false = true → ops[j]? = some o → ∀ e ∈ o.after, Region.binds .any e = true → L.getD e.on false = true
theorem reaches_listed {L : Array Bool} (hC : Closed ops L) {i : Nat} : ∀ (n j : Nat) (o : Oper), ops[j]? = some o → (∀ e ∈ o.after, Region.binds .any e = true → L.getD e.on false = true) → reaches ops n j i = true → L.getD i false = true := by
  intro n
  induction n with
  | zero => intro j o _ _ h; simp [reaches] at h
  | succ n ih =>
    intro j o ho hp h
    unfold reaches at h
    rw [ho] at h
    obtain ⟨e, he, hb⟩ := Array.any_eq_true'.1 h
    simp only [Bool.and_eq_true, Bool.or_eq_true, beq_iff_eq] at hb
    rcases hb.2 with h1 | h1
    · rw [← h1]; exact hp e he hb.1
    · have hl := hp e he hb.1
      cases ho' : ops[e.on]? with
      | none =>
        cases n with
        | zero => simp [reaches] at h1
        | succ n => unfold reaches at h1; rw [ho'] at h1; cases h1
      | some o' => exact ih e.on o' ho' (hC e.on o' hl ho') h1
theorem Closed.set {L : Array Bool} (hC : Closed ops L) {i : Nat} {o : Oper} (ho : ops[i]? = some o) (hL : L.size = ops.size) (hp : ∀ e ∈ o.after, Region.binds .any e = true → L.getD e.on false = true) : Closed ops (L.setIfInBounds i true) := by
  have hlt : i < ops.size := (Array.getElem?_eq_some_iff.1 ho).1
  have up : ∀ j, L.getD j false = true → (L.setIfInBounds i true).getD j false = true := fun j hj => by
    by_cases e : i = j
    · subst e; simp [hL, hlt]
    · rw [getD_set_ne false e]; exact hj
  intro j oj hj hoj e he hb
  by_cases e' : i = j
  · subst e'
    rw [ho] at hoj
    cases hoj
    exact up _ (hp e he hb)
  · rw [getD_set_ne false e'] at hj
    exact up _ (hC j oj hj hoj e he hb)

end
end Go.Kx
