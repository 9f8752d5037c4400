/- The document's list against the links. -/
import Derived.Test.YtlhmhpopppfpkaaAwake
import Derived.Test.YtlhmhpopppfpkaaCopy
import Derived.Test.YtlhmhpopppfpkaaRTake
namespace Go.Proofs.Ytlhmhpopppfpkaa
open Go.RowKit Go.Kx Go.Maps
set_option maxRecDepth 20000

def onL (m : List It) (p : Pr) : List Int := (m.filter fun e => e.1 == p).map (·.2)
theorem onL_append (a b : List It) (p : Pr) : onL (a ++ b) p = onL a p ++ onL b p := by simp [onL]
theorem onL_one (q p : Pr) (v : Int) : onL [(q, v)] p = if p = q then [v] else [] := by
  unfold onL
  by_cases h : q = p
  · subst h; simp
  · rw [List.filter_cons_of_neg (by simpa using h), if_neg (fun e => h e.symm)]; rfl
theorem onL_length (m : List It) (p : Pr) : (onL m p).length = cntM m p := by
  unfold onL cntM
  rw [List.length_map, List.countP_eq_length_filter]
theorem onL_none {m : List It} {p : Pr} (h : ∀ x ∈ m, x.1 ≠ p) : onL m p = [] := by
  unfold onL
  rw [List.filter_eq_nil_iff.2 (fun x hx => by simpa using h x hx)]
  rfl
structure Rel (Ls : List (Pr × Lane)) (m : List It) : Prop where
  at_ : ∀ p, laneX Ls p = onL m p
  tot : total Ls = m.length
theorem Rel.nil : Rel [] [] := ⟨fun _ => rfl, rfl⟩
theorem Rel.sent {Ls Ls' : List (Pr × Lane)} {m : List It} (h : Rel Ls m) {p : Pr} {v : Int} (s : Sent Ls Ls' p v) : Rel Ls' (m ++ [(p, v)]) := by
  refine ⟨fun q => ?_, by rw [s.tot, h.tot, List.length_append]; rfl⟩
  rw [s.at_, onL_append, onL_one, h.at_]
  split <;> simp
theorem laneX_tail {Ls : List (Pr × Lane)} (hn : (Ls.map (·.1)).Nodup) (p q : Pr) : laneX (tailX Ls p) q = if q = p then (laneX Ls q).tail else laneX Ls q := by
  cases hk : keyB Ls p with
  | false =>
    rw [tailX_out hk]
    by_cases h : q = p
    · subst h; rw [if_pos rfl, laneX_out hk]; rfl
    · rw [if_neg h]
  | true =>
    obtain ⟨l, hl⟩ := keyB_iff.1 hk
    rw [tailX_turn hn hl, laneX_turn hn hl]
    by_cases h : q = p
    · subst h; rw [if_pos rfl, if_pos rfl, laneX_in hn hl]
    · rw [if_neg h, if_neg h]
theorem total_tail {Ls : List (Pr × Lane)} (hn : (Ls.map (·.1)).Nodup) (p : Pr) : total (tailX Ls p) + (if laneX Ls p = [] then 0 else 1) = total Ls := by
  cases hk : keyB Ls p with
  | false => rw [tailX_out hk, laneX_out hk]; simp
  | true =>
    obtain ⟨l, hl⟩ := keyB_iff.1 hk
    rw [tailX_turn hn hl, laneX_in hn hl]
    have := total_turn (l' := { l with xs := l.xs.tail }) hn hl
    dsimp only at this
    cases hx : l.xs with
    | nil => rw [hx] at this; simp at this ⊢; exact this
    | cons a r => rw [hx] at this; simp at this ⊢; omega
theorem tailX_length (Ls : List (Pr × Lane)) (p : Pr) : (tailX Ls p).length = Ls.length := by simp [tailX]
/-- what Take leaves -/
theorem Rel.took {Ls : List (Pr × Lane)} {m : List It} (hn : (Ls.map (·.1)).Nodup) (h : Rel Ls m) {p : Pr} {i : Nat} {v : Int} (hi : m[i]? = some (p, v)) (hno : ∀ x ∈ m.take i, x.1 ≠ p) :
    hdI (laneX Ls p) = v ∧ anyI (laneX Ls p) = true ∧ Rel (tailX Ls p) (m.take i ++ m.drop (i + 1)) := by
  have hil : i < m.length := (List.getElem?_eq_some_iff.1 hi).1
  have hm : m = m.take i ++ ((p, v) :: m.drop (i + 1)) := by
    have h1 : m.drop i = (p, v) :: m.drop (i + 1) := by
      rw [List.drop_eq_getElem_cons hil]
      have := (List.getElem?_eq_some_iff.1 hi).2
      rw [this]
    rw [← h1, List.take_append_drop]
  have hsp : ∀ q, onL m q = onL (m.take i) q ++ ((if q = p then [v] else []) ++ onL (m.drop (i + 1)) q) := fun q => by
    have e : ((p, v) :: m.drop (i + 1)) = [(p, v)] ++ m.drop (i + 1) := rfl
    rw [← onL_one, ← onL_append, ← e, ← onL_append, ← hm]
  have hp0 : onL (m.take i) p = [] := onL_none hno
  have hx : laneX Ls p = v :: onL (m.drop (i + 1)) p := by rw [h.at_, hsp, hp0, if_pos rfl]; rfl
  refine ⟨by rw [hx]; rfl, by rw [hx]; rfl, fun q => ?_, ?_⟩
  · rw [laneX_tail hn, onL_append]
    by_cases e : q = p
    · subst e; rw [if_pos rfl, hx, hp0]; rfl
    · rw [if_neg e, h.at_, hsp, if_neg e]; rfl
  · have := total_tail hn p
    rw [hx, if_neg (by simp), h.tot] at this
    rw [List.length_append, List.length_take, List.length_drop]
    omega
theorem Rel.took_none {Ls : List (Pr × Lane)} {m : List It} (hn : (Ls.map (·.1)).Nodup) (h : Rel Ls m) {p : Pr} (hno : ∀ x ∈ m, x.1 ≠ p) :
    hdI (laneX Ls p) = 0 ∧ anyI (laneX Ls p) = false ∧ Rel (tailX Ls p) m := by
  have hx : laneX Ls p = [] := by rw [h.at_]; exact onL_none hno
  refine ⟨by rw [hx]; rfl, by rw [hx]; rfl, fun q => ?_, ?_⟩
  · rw [laneX_tail hn]
    by_cases e : q = p
    · subst e; rw [if_pos rfl, hx, ← h.at_, hx]; rfl
    · rw [if_neg e, h.at_]
  · have := total_tail hn p
    rw [hx, if_pos rfl, h.tot] at this
    omega
theorem Rel.copy {Ls Cs : List (Pr × Lane)} {m : List It} (h : Rel Ls m) (c : CP Ls Cs []) : Rel Cs m :=
  ⟨fun p => by rw [c.at_ p rfl, h.at_], by have := c.tot; rw [total_nil, h.tot] at this; omega⟩
end Go.Proofs.Ytlhmhpopppfpkaa
