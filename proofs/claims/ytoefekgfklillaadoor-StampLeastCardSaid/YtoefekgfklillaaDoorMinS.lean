/- The least of stamps: plain. -/
import Derived.Test.YtoefekgfklillaaDoorOrdLaw
namespace Go.Proofs.YtoefekgfklillaaDoor
open Go.RowKit Go.Kx

/-- a slice that reads as these stamps -/
def Stamps (w : World) (A : Option Addr) (L : List St) : Prop :=
  ∀ i s, L[i]? = some s → s.ok ∧ ∃ b o, A = some ⟨b, o, none⟩ ∧ b < w.heap.size ∧ w.cell? ⟨b, o + i * 3, none⟩ = some (.int .i64 s.1.1) ∧ w.cell? ⟨b, o + i * 3 + 1, none⟩ = some (.int .i64 s.1.2) ∧ w.cell? ⟨b, o + i * 3 + 2, none⟩ = some (.int .i64 s.2)
theorem Stamps.only {w w' : World} {A : Option Addr} {L : List St} (h : Stamps w A L) (ho : Only [] w w') : Stamps w' A L := fun i s hs => by
  obtain ⟨hk, b, o, hA, hb, h0, h1, h2⟩ := h i s hs
  have := ho.size
  exact ⟨hk, b, o, hA, by omega, (ho.cell (p := ⟨b, _, none⟩) hb (by simp)).trans h0, (ho.cell (p := ⟨b, _, none⟩) hb (by simp)).trans h1, (ho.cell (p := ⟨b, _, none⟩) hb (by simp)).trans h2⟩
def minS (L : List St) : St := L.foldl (fun m s => if stC s m < 0 then s else m) ((1, 0), 0)
theorem minS_snoc (L : List St) (s : St) : minS (L ++ [s]) = if stC s (minS L) < 0 then s else minS L := by unfold minS; rw [List.foldl_append]; rfl
theorem snoc_ind {α : Type} {P : List α → Prop} (h0 : P []) (h1 : ∀ L t, P L → P (L ++ [t])) (L : List α) : P L := by
  rw [← List.reverse_reverse L]
  induction L.reverse with
  | nil => exact h0
  | cons a l ih => rw [List.reverse_cons]; exact h1 _ _ ih
theorem minS_right (L : List St) : stR (minS L) = true ∧ (minS L = ((1, 0), 0) ∨ minS L ∈ L) := by
  refine snoc_ind (P := fun L => stR (minS L) = true ∧ (minS L = ((1, 0), 0) ∨ minS L ∈ L)) ⟨stR_never, .inl rfl⟩ (fun L t ih => ?_) L
  rw [minS_snoc]
  split
  · rename_i h
    refine ⟨?_, .inr (by simp)⟩
    unfold stC at h
    split at h
    · rename_i hh; exact hh.1
    · omega
  · exact ⟨ih.1, ih.2.imp id (fun h => by simp [h])⟩
theorem ok_neverS : St.ok ((1, 0), 0) := ⟨ok_never, by unfold I64; simp⟩
theorem minS_ok {L : List St} (h : ∀ s ∈ L, s.ok) : (minS L).ok := by
  rcases (minS_right L).2 with e | e
  · rw [e]; exact ok_neverS
  · exact h _ e
/-- the reference asks first whether the stamp is right -/
theorem minS_ref (s m : St) : (if stR s = true ∧ stC s m < 0 then s else m) = if stC s m < 0 then s else m := by
  by_cases h : stC s m < 0
  · have hs : stR s = true := by
      unfold stC at h
      split at h
      · rename_i hh; exact hh.1
      · omega
    rw [if_pos ⟨hs, h⟩, if_pos h]
  · rw [if_neg (fun k => h k.2), if_neg h]
/-- Less says the same -/
theorem less_iff (s m : St) : decide (stC s m = -1) = decide (stC s m < 0) := by rcases stC_range s m with h | h | h <;> rw [h] <;> rfl
end Go.Proofs.YtoefekgfklillaaDoor
