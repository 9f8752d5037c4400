/- A lane put into a net. -/
import Derived.Test.YtlhmhpopppfpkaaGrown
namespace Go.Proofs.Ytlhmhpopppfpkaa
open Go.RowKit Go.Kx Go.Maps
set_option maxRecDepth 100000

theorem NB.put {B c : Nat} {w w' : World} {g bm n room : Nat} {Ls : List (Pr × Lane)} (h : NB B w g bm n room Ls) (hBc : B ≤ c) (hg : g < c) (hm : bm < c) (hold : ∀ e ∈ Ls, ∀ x ∈ e.2.bs, x < c) {a b : Int} (ha : I64 a) (hb : I64 b) {l : Lane}
    (hl1 : c ≤ l.b ∧ l.b < w.heap.size) (hl2 : c ≤ l.rb ∧ l.rb < w.heap.size) (hs : 1 ≤ l.size ∧ l.size ≤ room) (hq : Qu w l.b l.rb l.size l.xs) (o : Only [bm] w w') {D : DataW Value} {k : Nat} (hD : LD D Ls) (hown : w'.ownsMap Try.prog 50 RH bm k (D.put (kl a b) (.held (lv l.b l.size)))) :
    NB B w' g bm n room (putL Ls (a, b) l) := by
  have hLD := hD.put ha hb l
  have hsz := o.size
  have hgm := h.gm
  refine ⟨o.blk h.blk (by simpa using hgm), ⟨_, hown.norm (by rw [hLD.size_]; exact Nat.le_refl _), hLD⟩, fun e he => ?_, fun e he x hx => ?_, ?_, h.dims, h.base⟩
  · rcases putL_mem he with rfl | ⟨h1, _⟩
    · exact ⟨hq.only o (by simp; omega) (by simp; omega), hs⟩
    · have hne : ∀ x ∈ e.2.bs, x ∉ [bm] := fun x hx => by have := h.lo e h1 x hx; simp; omega
      exact ⟨(h.qu e h1).1.only o (hne _ (by simp)) (hne _ (by simp)), (h.qu e h1).2⟩
  · rcases putL_mem he with rfl | ⟨h1, _⟩
    · simp at hx
      rcases hx with rfl | rfl
      · exact ⟨by omega, by omega, by omega, by omega⟩
      · exact ⟨by omega, by omega, by omega, by omega⟩
    · have := h.lo e h1 x hx
      exact ⟨by omega, by omega, by omega, by omega⟩
  · have hnew : ∀ x ∈ l.bs, c ≤ x := fun x hx => by simp at hx; rcases hx with rfl | rfl <;> omega
    unfold putL
    split
    · rw [List.pairwise_map]
      refine h.apart.imp_of_mem fun {e f} he hf hef x hx hm => ?_
      by_cases h1 : e.1 = (a, b)
      · by_cases h2 : f.1 = (a, b)
        · have := nd_eq hD.nd he hf (h1.trans h2.symm)
          rw [this] at hef
          exact hef f.2.b (by simp) (by simp)
        · rw [if_pos h1] at hx
          rw [if_neg h2] at hm
          have := hnew x hx
          have := hold f hf x hm
          omega
      · rw [if_neg h1] at hx
        by_cases h2 : f.1 = (a, b)
        · rw [if_pos h2] at hm
          have := hnew x hm
          have := hold e he x hx
          omega
        · rw [if_neg h2] at hm
          exact hef x hx hm
    · rw [List.pairwise_append]
      refine ⟨h.apart, by simp, fun e he f hf x hx hm => ?_⟩
      simp at hf
      subst hf
      have := hnew x hm
      have := hold e he x hx
      omega
/-- how many are on all links -/
def total (Ls : List (Pr × Lane)) : Nat := (Ls.map fun e => e.2.xs.length).sum
theorem laneX_of {Ls Ls' : List (Pr × Lane)} {q : Pr} (h : ∀ e, e.1 = q → (e ∈ Ls' ↔ e ∈ Ls)) (hn : (Ls.map (·.1)).Nodup) (hn' : (Ls'.map (·.1)).Nodup) : laneX Ls' q = laneX Ls q := by
  cases hk : keyB Ls q with
  | false =>
    have hk' : keyB Ls' q = false := by
      cases h2 : keyB Ls' q with
      | false => rfl
      | true =>
        obtain ⟨l, hl⟩ := keyB_iff.1 h2
        have := keyB_iff.2 ⟨l, (h _ rfl).1 hl⟩
        rw [hk] at this
        cases this
    rw [laneX_out hk, laneX_out hk']
  | true =>
    obtain ⟨l, hl⟩ := keyB_iff.1 hk
    rw [laneX_in hn hl, laneX_in hn' ((h _ rfl).2 hl)]
theorem turnL_other {Ls : List (Pr × Lane)} {p : Pr} {l : Lane} {e : Pr × Lane} (he : e.1 ≠ p) : e ∈ turnL Ls p l ↔ e ∈ Ls := by
  constructor
  · intro h
    rcases turnL_mem h with rfl | ⟨h, _⟩
    · exact absurd rfl he
    · exact h
  · intro h
    exact List.mem_map.2 ⟨e, h, by rw [if_neg he]⟩
theorem putL_other {Ls : List (Pr × Lane)} {p : Pr} {l : Lane} {e : Pr × Lane} (he : e.1 ≠ p) : e ∈ putL Ls p l ↔ e ∈ Ls := by
  constructor
  · intro h
    rcases putL_mem h with rfl | ⟨h, _⟩
    · exact absurd rfl he
    · exact h
  · intro h
    exact putL_old h he
theorem total_turn : ∀ {Ls : List (Pr × Lane)} {p : Pr} {l l' : Lane}, (Ls.map (·.1)).Nodup → (p, l) ∈ Ls → total (turnL Ls p l') + l.xs.length = total Ls + l'.xs.length
  | [], p, l, l', _, h => by simp at h
  | e :: Ls, p, l, l', hn, h => by
    simp only [List.map_cons, List.nodup_cons] at hn
    have e0 : total (turnL (e :: Ls) p l') = (if e.1 = p then l'.xs.length else e.2.xs.length) + total (turnL Ls p l') := by
      unfold total turnL
      simp only [List.map_cons, List.sum_cons]
      by_cases hp : e.1 = p
      · simp [hp]
      · simp [hp]
    have e1 : total (e :: Ls) = e.2.xs.length + total Ls := by unfold total; simp
    rw [e0, e1]
    rcases List.mem_cons.1 h with h | h
    · subst h
      have hno : turnL Ls p l' = Ls := by
        unfold turnL
        conv => rhs; rw [← List.map_id Ls]
        refine List.map_congr_left fun f hf => ?_
        rw [if_neg (fun k => hn.1 (List.mem_map.2 ⟨f, hf, k⟩))]
        rfl
      rw [if_pos rfl, hno]
      dsimp only
      omega
    · have hp : e.1 ≠ p := fun k => hn.1 (List.mem_map.2 ⟨_, h, k.symm⟩)
      have ih := total_turn (l' := l') hn.2 h
      rw [if_neg hp]
      omega
theorem total_put {Ls : List (Pr × Lane)} {p : Pr} {l : Lane} (hn : (Ls.map (·.1)).Nodup) (hx : l.xs = laneX Ls p) : total (putL Ls p l) = total Ls := by
  cases hk : keyB Ls p with
  | true =>
    obtain ⟨l0, h0⟩ := keyB_iff.1 hk
    have e : putL Ls p l = turnL Ls p l := by unfold putL turnL; rw [if_pos hk]
    have := total_turn (l' := l) hn h0
    rw [laneX_in hn h0] at hx
    rw [e]
    rw [hx] at this
    omega
  | false =>
    unfold putL
    rw [if_neg (by rw [hk]; decide), laneX_out hk] at *
    unfold total
    simp [hx]
end Go.Proofs.Ytlhmhpopppfpkaa
